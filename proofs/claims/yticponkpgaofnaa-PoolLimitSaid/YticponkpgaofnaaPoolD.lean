/- Contracts of package pool: drop. -/
import Derived.Test.YticponkpgaofnaaPoolC
import Derived.LaidEql
namespace Go.Proofs.Yticponkpgaofnaa
set_option linter.all false
open Go Go.RowKit

theorem pconn_info : Try.prog.underlying 56 = some (.pointer 72) := Try.underlying56
theorem neq_conn_same (w : World) (a : Nat) : (binOp .neq 56 (pt a) (pt a)).run Try.prog w = .ok (.bool false) w := by
  have hsz : (sizeOf 72).run Try.prog w = .ok 5 w := by kernel_rfl
  have h : ∀ d : Nat, (Op.equalIn (d + 1) 56 (pt a) (pt a)).run Try.prog w = .ok true w := fun d => by
    simp [Op.equalIn, run_underlying pconn_info, hsz, run_sameAddr_same]
  simp only [binOp]
  simp [Op.equal, Op.maxDepth, h 9999]
theorem neq_conn_other (w : World) {a b : Nat} {ca cb : Array Value} {ta tb : TypeId} (hne : a ≠ b) (ha : w.heap[a]? = some (.cells ca ta (0, 0))) (hb : w.heap[b]? = some (.cells cb tb (0, 0))) : (binOp .neq 56 (pt a) (pt b)).run Try.prog w = .ok (.bool true) w := by
  have hsz : (sizeOf 72).run Try.prog w = .ok 5 w := by kernel_rfl
  have h1 := run_sameAddr_other (P := Try.prog) (w := w) (a := ⟨a, 0, none⟩) (b := ⟨b, 0, none⟩) (by simpa using hne) ha hb
  have h : ∀ d : Nat, (Op.equalIn (d + 1) 56 (pt a) (pt b)).run Try.prog w = .ok false w := fun d => by
    simp [Op.equalIn, run_underlying pconn_info, hsz, h1]
  simp only [binOp]
  simp [Op.equal, Op.maxDepth, h 9999]

def restC (n : Int) (l : List Cn) : List Cn := l.filter fun x => decide (x.num ≠ n)
theorem conn_blk {k : Env} {w : World} {A : Int → Nat} {gb : Nat} {l : List Cn} {R : Assn} {c : Cn} (h : Sat k w (stars (connR A gb) l * R)) (hc : c ∈ l) : w.heap[A c.num]? = some (.cells (cellsC gb c) 72 (0, 0)) := by
  obtain ⟨p, q, rfl⟩ := List.append_of_mem hc
  rw [stars_mid, star_assoc] at h
  unfold connR at h
  exact h.get
theorem restC_snoc (n : Int) (l : List Cn) (x : Cn) : restC n (l ++ [x]) = if x.num = n then restC n l else restC n l ++ [x] := by
  simp only [restC, List.filter_append, List.filter_cons, List.filter_nil]
  split <;> simp_all
theorem restC_len (n : Int) (l : List Cn) : (restC n l).length ≤ l.length := List.length_filter_le _ _
theorem restC_id {n : Int} {l : List Cn} (h : ∀ x ∈ l, x.num ≠ n) : restC n l = l := by
  unfold restC; rw [List.filter_eq_self]; intro x hx; simpa using h x hx
theorem restC_mid {r s : List Cn} {c : Cn} (h : ∀ x ∈ r ++ s, x.num ≠ c.num) : restC c.num (r ++ c :: s) = r ++ s := by
  have h1 : restC c.num r = r := restC_id fun x hx => h x (by simp [hx])
  have h2 : restC c.num s = s := restC_id fun x hx => h x (by simp [hx])
  unfold restC at *
  rw [List.filter_append, List.filter_cons, if_neg (by simp), h1, h2]

def dropK (c : Cn) (K : List (Int × Int)) : List (Int × Int) := if c.cl = -1 then K else mdel c.cl K

set_option maxHeartbeats 4000000 in
theorem drop_any (k : Env) (w : World) (R : Assn) (b : Nat) (P : PP) (last : Int) (A : Int → Nat) (B L : ByteArray → Nat) (p q : List Gp) (g : Gp) (N : List ByteArray) (M K : List (Int × Int)) (r s : List Cn) (c : Cn) (hc : g.cs = r ++ c :: s)
    (hn : ∀ x ∈ r ++ s, x.num ≠ c.num) (hlen : g.cs.length ≤ 1000) (h : Sat k w (PoolR b P last A B L (p ++ g :: q) N M K * R)) :
    Calls Try.prog 29 #[pt b, pt (A c.num)] w fun e w' => e = .returned (.tuple #[]) ∧ Sat k w' (blk (A c.num) (.cells (cellsC (B g.name) c) 72 (0, 0)) * (PoolR b P last A B L (p ++ ⟨g.name, r ++ s, g.sp⟩ :: q) N (mdel c.num M) (dropK c K) * R)) := by
  obtain ⟨mG, vN, mC, mK, a, cap, hs⟩ := pool_conn h hc
  have hne : ∀ x ∈ r ++ s, A x.num ≠ A c.num := fun x hx => conn_ne hs.get3.get10.swap hx
  clear h
  have c7 : w.cell? ⟨b, 7, none⟩ = some (.map (some mC)) := hs.cell 7
  have d0 : w.cell? ⟨A c.num, 0, none⟩ = some (.int .i64 c.num) := hs.get3.cell 0
  have HC := Lib.hid hc
  have HR : Hid (restC c.num g.cs = r ++ s) := by unfold Hid; rw [hc]; exact restC_mid hn
  have HA : ∀ (j : Nat) (hj : j < g.cs.length), g.cs[j].num ≠ c.num → g.cs[j] ∈ r ++ s ∧ A g.cs[j].num ≠ A c.num := by
    intro j hj hq
    have hm : g.cs[j] ∈ r ++ c :: s := hc ▸ List.getElem_mem hj
    have hm2 : g.cs[j] ∈ r ++ s := by
      rcases List.mem_append.1 hm with hm | hm
      · simp [hm]
      · rcases List.mem_cons.1 hm with hm | hm
        · rw [hm] at hq; exact absurd rfl hq
        · simp [hm]
    exact ⟨hm2, hne _ hm2⟩
  have HA := Lib.hid HA
  clear hc hn hne
  go_enter Try.func29, Try.ntmps29
  go_wp2_with fail
  go_still_tail 8, (by kernel_rfl)
  change wpList _ _ _ _ _ w.drew
  go_upto_if 19 with (at_delete; refine wpList_delete_sat KInt mapC hs.drew.get6 c.num (.tmp 10) (.tmp 14) rfl rfl rfl rfl ?_; intro w2 h2; clear c7 d0; have d2 : w2.cell? ⟨A c.num, 2, none⟩ = some (.int .i64 c.cl) := h2.get4.cell 2)
  rw [ments_del] at h2
  clear hs
  go_cut [] (fun wx => Sat k wx (MapK (Value.int .i64) mC (ments A (mdel c.num M)) * (blk b (.cells (cellsP P last mG vN mC mK) 52 (0, 0)) * (blk (B g.name) (.cells #[.slice a g.cs.length cap, pt (L g.name)] 62 (0, 0)) * (blk (A c.num) (.cells (cellsC (B g.name) c) 72 (0, 0)) * (MapK Value.string mG (gents B (p ++ g :: q)) * (Strs vN N * (MapK (Value.int .i64) mK (ments A (dropK c K)) *
    (Own 56 1 (.slice a g.cs.length cap) g.cs.length (cptr A g.cs) * (LineR (L g.name) g.sp P.que * (stars (connR A (B g.name)) (r ++ s) * (stars (groupR A B L P.que) (p ++ q) * R))))))))))))
  case first =>
    by_cases hi : c.cl = -1
    · have hib : (c.cl == -1) = true := by simpa using hi
      have HK := Lib.hid (show dropK c K = K by rw [dropK, if_pos hi])
      clear hi
      go_wp2_with fail
      go_meet
      case rel => rw [HK.out]; exact h2
    · have hib : (c.cl == -1) = false := by simpa using hi
      have HK := Lib.hid (show dropK c K = mdel c.cl K by rw [dropK, if_neg hi])
      have c8 : w2.cell? ⟨b, 8, none⟩ = some (.map (some mK)) := h2.swap.cell 8
      clear hi
      go_wp2_with fail
      go_still_tail 8, (by kernel_rfl)
      change wpList _ _ _ _ _ w2.drew
      go_wp2_with (at_delete; refine wpList_delete_sat KInt mapC h2.drew.get7 c.cl (.tmp 23) (.tmp 27) rfl rfl rfl rfl ?_; intro w3 h3)
      rw [ments_del] at h3
      go_meet
      case rel => rw [HK.out]; exact h3.put7
  case rest =>
    clear h2 d2
    have d1 : wc.cell? ⟨A c.num, 1, none⟩ = some (pt (B g.name)) := hcut.get4.cell 1
    have g0 : wc.cell? ⟨B g.name, 0, none⟩ = some (.slice a g.cs.length cap) := hcut.get3.cell 0
    go_wp2_with fail
    go_loopw [4, 6, 36] (fun v _ i wr => ∃ j : Nat, j ≤ g.cs.length ∧ i = .int .i64 j ∧ Sat k wr (Own 56 1 v (restC c.num (g.cs.take j)).length (cptr A (restC c.num (g.cs.take j))) * (Own 56 1 (.slice a g.cs.length cap) g.cs.length (cptr A g.cs) * (MapK (Value.int .i64) mC (ments A (mdel c.num M)) * (blk b (.cells (cellsP P last mG vN mC mK) 52 (0, 0)) * (blk (B g.name) (.cells #[.slice a g.cs.length cap, pt (L g.name)] 62 (0, 0)) * (blk (A c.num) (.cells (cellsC (B g.name) c) 72 (0, 0)) * (MapK Value.string mG (gents B (p ++ g :: q)) * (Strs vN N * (MapK (Value.int .i64) mK (ments A (dropK c K)) *
    (LineR (L g.name) g.sp P.que * (stars (connR A (B g.name)) (r ++ s) * (stars (groupR A B L P.que) (p ++ q) * R))))))))))))) (fun _ _ i _ => g.cs.length - (intOf i).toNat)
    case atStart => exact ⟨0, Nat.zero_le _, rfl, own_nil hcut.get8⟩
    case round =>
      clear hcut d1 g0
      obtain ⟨j, hj, rfl, hr⟩ := hrel
      have hrl : (restC c.num (g.cs.take j)).length ≤ 1000 := by have := restC_len c.num (g.cs.take j); simp at this; omega
      obtain ⟨va, vc, rfl⟩ := own_val hr
      by_cases hlt : j < g.cs.length
      · obtain ⟨ga, rfl, hga, e0⟩ := ptr_get hr.swap j hlt
        have HT := Lib.hid (restC_snoc c.num (g.cs.take j) g.cs[j])
        have HU := Lib.hid (List.take_succ_eq_append_getElem hlt)
        by_cases hq : g.cs[j].num = c.num
        · have HQ := Lib.hid hq
          rw [hq] at e0
          have hpq := neq_conn_same wr (A c.num)
          clear hq
          go_wp2_with fail
          go_roundw
          case rel => exact ⟨j + 1, by omega, by go_num, by rw [HU.out, HT.out, if_pos HQ.out]; exact hr⟩
          case measure => simp [intOf]; omega
        · have HQ := Lib.hid hq
          obtain ⟨hm, hA⟩ := HA.out j hlt hq
          have hpq := neq_conn_other wr hA (conn_blk hr.get11 hm) hr.get6.get
          clear hq hm hA
          go_wp2_with (at_builtin; refine wpList_append_sat TPtr (hr.alloc' _) (.tmp 43) (.tmp 45) _ 1 1 [pt (A g.cs[j].num)] rfl rfl rfl rfl rfl (fun _ => ⟨_, rfl, new_cells_at _ _ _ _ (by first | rfl | simp)⟩) (fun u hu => by simp at hu; subst hu; rfl) (by simp [maxLen]; omega) (by omega) ?_; intro a3 c3 w3 h3)
          go_roundw
          case rel => exact ⟨j + 1, by omega, by go_num, by rw [HU.out, HT.out, if_neg HQ.out, cptr_append, List.length_append]; unfold cptr at h3 ⊢; rw [List.map_cons, List.map_nil]; exact h3⟩
          case measure => simp [intOf]; omega
      · obtain rfl : j = g.cs.length := by omega
        rw [List.take_length] at hr
        have d1 : wr.cell? ⟨A c.num, 1, none⟩ = some (pt (B g.name)) := hr.get6.cell 1
        have g0 : wr.cell? ⟨B g.name, 0, none⟩ = some (.slice a g.cs.length cap) := hr.get5.cell 0
        have fg := hr.get5.frozen 0
        go_wp2_with fail
        go_end0
        refine ⟨rfl, ?_⟩
        have h4 := (hr.get5.set 0 (.slice va (restC c.num g.cs).length vc)).drop3.get4.get5.put11.get3.put7.get3.put5
        have h5 := pool_group_close (ks := r ++ s) h4 rfl (by simp [gents]) rfl rfl (by rw [HR.out]) (by rw [HR.out])
        exact h5.swap

end Go.Proofs.Yticponkpgaofnaa
