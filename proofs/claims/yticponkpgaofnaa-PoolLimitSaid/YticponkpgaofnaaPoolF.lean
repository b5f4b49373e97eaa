/- Contracts of package pool: group. -/
import Derived.Test.YticponkpgaofnaaPoolE
namespace Go.Proofs.Yticponkpgaofnaa
set_option linter.all false
open Go Go.RowKit

theorem pgrp_info : Try.prog.underlying 57 = some (.pointer 62) := Try.underlying57

set_option maxHeartbeats 1000000 in
theorem group_old (k : Env) (w : World) (R : Assn) (b : Nat) (P : PP) (last : Int) (A : Int → Nat) (B L : ByteArray → Nat) (p q : List Gp) (g : Gp) (N : List ByteArray) (M K : List (Int × Int)) (hn : ((p ++ g :: q).map (·.name)).Nodup)
    (h : Sat k w (PoolR b P last A B L (p ++ g :: q) N M K * R)) :
    Calls Try.prog 22 #[pt b, .string g.name] w fun e w' => e = .returned (pt (B g.name)) ∧ w = w' := by
  obtain ⟨mG, vN, mC, mK, hs⟩ := pool_open h
  have c5 : w.cell? ⟨b, 5, none⟩ = some (.map (some mG)) := hs.cell 5
  have hl := run_lookup_sat KStr mapG zeroG hs.swap g.name
  rw [gents_get hn] at hl
  simp only [Option.getD_some] at hl
  clear hn
  go_enter Try.func22, Try.ntmps22
  go_wp2_with fail
  go_ret
  exact ⟨rfl, rfl⟩

theorem group_close2 {k : Env} {w : World} {A : Int → Nat} {B L : ByteArray → Nat} {R : Assn} {que : Int} {v : Value} {n gb la : Nat} {xs : List Value} {sp : List Sp} {cs : List Cn} {nm : ByteArray} (h : Sat k w (blk gb (.cells #[v, pt la] 62 (0, 0)) * (Own 56 1 v n xs * (LineR la sp que * (stars (connR A gb) cs * R)))))
    (hB : B nm = gb) (hL : L nm = la) (h1 : n = cs.length) (h2 : xs = cptr A cs) : Sat k w (groupR A B L que ⟨nm, cs, sp⟩ * R) := by
  subst hB; subst hL
  exact group_close h h1 h2

/-- Where a name is put in: behind the last one that is not greater. -/
def gtr (s t : ByteArray) : Bool := !(Op.bytesLess t.toList s.toList || t.toList == s.toList)
def insP (s : ByteArray) (N : List ByteArray) : Nat := (N.reverse.dropWhile (gtr s)).length
def insN (s : ByteArray) (N : List ByteArray) : List ByteArray := N.take (insP s N) ++ s :: N.drop (insP s N)
theorem insN_perm (s : ByteArray) (N : List ByteArray) : (insN s N).Perm (s :: N) := by
  unfold insN
  refine List.perm_middle.trans ?_
  rw [List.take_append_drop]

theorem strs_len (l : List ByteArray) : (strs l).length = l.length := by simp [strs]
theorem mput_new' {K V : Type} [DecidableEq K] {a : K} {v : V} {l : List (K × V)} (h : mget a l = none) : mput a v l = l ++ [(a, v)] := by
  induction l with
  | nil => rfl
  | cons x r ih =>
    rw [mget] at h
    by_cases hx : x.1 = a
    · rw [if_pos hx] at h; cases h
    · rw [if_neg hx] at h
      rw [mput, if_neg hx, ih h]; rfl

set_option maxHeartbeats 4000000 in
theorem group_new (k : Env) (w : World) (R : Assn) (b : Nat) (P : PP) (last : Int) (A : Int → Nat) (B L : ByteArray → Nat) (G : List Gp) (N : List ByteArray) (M K : List (Int × Int)) (s : ByteArray) (hP : P.ok) (hn : ∀ g ∈ G, g.name ≠ s) (hN : (N.length : Int) ≤ 1073741824)
    (h : Sat k w (PoolR b P last A B L G N M K * R)) :
    Calls Try.prog 22 #[pt b, .string s] w fun e w' => ∃ gb lb, e = .returned (pt gb) ∧ Sat k w' (PoolR b P last A (upd B s gb) (upd L s lb) (G ++ [⟨s, [], []⟩]) (insN s N) M K * R) := by
  obtain ⟨mG, vN, mC, mK, hs⟩ := pool_open h
  have c5 : w.cell? ⟨b, 5, none⟩ = some (.map (some mG)) := hs.cell 5
  have c1 : w.cell? ⟨b, 1, none⟩ = some (.int .i64 P.que) := hs.cell 1
  have hl := run_lookup_sat KStr mapG zeroG hs.swap s
  have hgn := gents_none (B := B) hn
  rw [hgn] at hl
  simp only [Option.getD_none] at hl
  have HN := Lib.hid hn
  have HG := Lib.hid hgn
  have HP := Lib.hid hP
  have q1 := hP.2.2.1
  have q2 := hP.2.2.2.1
  clear hn hgn hP h
  go_enter Try.func22, Try.ntmps22
  go_wp2_with fail
  refine (new_any k _ _ P.que q1 (by omega) hs).mono ?_
  rintro e w1 ⟨la, rfl, h1⟩
  clear c5 c1 hl hs
  have h2 := h1.alloc (.cells #[.slice none 0 0, pt la] 62)
  have c5 : w1.cell? ⟨b, 5, none⟩ = some (.map (some mG)) := h1.swap.cell 5
  have hb1 := h1.swap.lt
  go_upto_block 0 with (at_mapUpdate; (refine wpList_update_sat KStr mapG h2.get4 s (pt w1.heap.size) (.tmp 32) (.tmp 33) (.tmp 34) rfl rfl rfl rfl rfl ?_); intro w2 h3; have c6 : w2.cell? ⟨b, 6, none⟩ = some vN := h3.get4.cell 6; obtain ⟨va, vc, hv⟩ := own_val h3.get5; subst hv)
  have hjp : insP s N ≤ N.length := by
    unfold insP
    have := (List.dropWhile_sublist (gtr s) (l := N.reverse)).length_le
    simpa using this
  obtain ⟨ip, hip⟩ : ∃ ip, insP s N = ip := ⟨_, rfl⟩
  rw [hip] at hjp
  have HIP := Lib.hid hip
  clear hip
  go_cut [8] (fun i wx => i = .int .i64 ip ∧ wx = w2)
  case first =>
    go_wp2_with fail
    go_loopw [8] (fun i wr => ∃ j : Nat, j ≤ N.length ∧ i = .int .i64 j ∧ Hid (ip = ((N.take j).reverse.dropWhile (gtr s)).length) ∧ wr = w2) (fun i _ => (intOf i).toNat)
    case atStart => exact ⟨N.length, Nat.le_refl _, rfl, by unfold Hid; rw [List.take_length]; exact HIP.out.symm, rfl⟩
    case round =>
      obtain ⟨j, hj, rfl, HI, rfl⟩ := hrel
      rcases Nat.eq_zero_or_pos j with rfl | hjp
      · have HJ : Hid (ip = 0) := by unfold Hid; rw [HI.out]; simp
        clear HI
        go_wp2_with fail
        go_meet
        case rel => exact ⟨by rw [HJ.out]; first | done | rfl, by first | rfl | trivial⟩
      · obtain ⟨m, rfl⟩ : ∃ m, j = m + 1 := ⟨j - 1, by omega⟩
        obtain ⟨gn, rfl, hgn, e0⟩ := strs_get h3.get5 m (by omega)
        have HT : Hid ((N.take (m + 1)).reverse = N[m] :: (N.take m).reverse) := by unfold Hid; rw [List.take_succ_eq_append_getElem (by omega), List.reverse_append]; rfl
        have hm1 : (m : Int) + 1 ≤ N.length := by omega
        generalize N[m] = t at *
        cases hg : gtr s t with
        | true =>
          have HD : Hid (ip = ((N.take m).reverse.dropWhile (gtr s)).length) := by unfold Hid; rw [HI.out, HT.out, List.dropWhile_cons, if_pos hg]
          unfold gtr at hg
          rw [Bool.not_eq_true', Bool.or_eq_false_iff] at hg
          obtain ⟨g1, g2⟩ := hg
          clear HI HT
          go_wp2_with fail
          go_roundw
          case rel => exact ⟨m, by omega, by go_num, HD.out, by first | rfl | trivial⟩
          case measure => simp [intOf]
        | false =>
          have HD : Hid (ip = m + 1) := by unfold Hid; rw [HI.out, HT.out, List.dropWhile_cons, if_neg (by simp [hg])]; simp; omega
          unfold gtr at hg
          clear HI HT
          rw [Bool.not_eq_false', Bool.or_eq_true] at hg
          by_cases g1 : Op.bytesLess t.toList s.toList = true
          · go_wp2_with fail
            go_meet
            case rel => exact ⟨by rw [HD.out]; first | done | rfl, by first | rfl | trivial⟩
          · have g2 : (t.toList == s.toList) = true := by rcases hg with h | h; exact absurd h g1; exact h
            have g3 : Op.bytesLess t.toList s.toList = false := by simpa using g1
            clear g1 hg
            go_wp2_with fail
            go_meet
            case rel => exact ⟨by rw [HD.out]; first | done | rfl, by first | rfl | trivial⟩
  case rest =>
    obtain ⟨rfl, rfl⟩ := hcut
    go_wp2_with (at_builtin; refine wpList_append_sat TStrs (h3.get5.alloc' _) (.tmp 60) (.tmp 62) _ 1 1 [.string s] rfl rfl rfl rfl rfl (fun _ => ⟨_, rfl, new_cells_at _ _ _ _ (by first | rfl | simp)⟩) (strs_one [s]) (by simp [maxLen]; omega) (by omega) ?_; intro a3 c3 w4 h4; have e0 : w4.cell? ⟨b, 6, none⟩ = some (.slice va N.length vc) := h4.get5.cell 6; have e1 := h4.get5.frozen 6)
    have h5 := h4.get5.set 6 (.slice a3 (N.length + 1) c3)
    generalize hw5 : w4.setCell ⟨b, 6, none⟩ (.slice a3 (N.length + 1) c3) = w5 at *
    clear hw5 h4 h3
    have c6 : w5.cell? ⟨b, 6, none⟩ = some (.slice a3 (N.length + 1) c3) := h5.cell 6
    obtain ⟨hcap1, hcap2⟩ := own_cap h5.swap
    obtain ⟨gn, rfl, hgn, _⟩ := own_get h5.swap (by omega)
    unfold maxLen at hcap2
    have ww1 : IntKind.i64.wrap ((ip : Int) + 1) = (ip : Int) + 1 := IntWalk.i64_in _ (by omega)
    have p1 : (0 : Int) ≤ (ip : Int) + 1 := by omega
    have p2 : (ip : Int) + 1 ≤ (N.length : Int) + 1 := by omega
    have p3 : ((ip : Int) + 1).toNat = ip + 1 := by omega
    have p4 : (ip : Int) ≤ (N.length : Int) + 1 := by omega
    have p5 : ¬ c3 = ip := by omega
    obtain ⟨dp, hdp, hdp2⟩ : ∃ dp, (if c3 = ip + 1 then (some ⟨gn, 0, none⟩ : Option Addr) else some ⟨gn, ip + 1, none⟩) = dp ∧ Hid ((ip + 1 < N.length + 1 → dp = some ⟨gn, (ip + 1) * 1, none⟩) ∧ ∃ o, dp = some ⟨gn, o, none⟩ ∧ o ≤ (ip + 1) * 1) := by
      refine ⟨_, rfl, ?_, ?_⟩
      · intro h; rw [if_neg (by omega), Nat.mul_one]
      · split
        · exact ⟨0, rfl, by omega⟩
        · exact ⟨ip + 1, rfl, by omega⟩
    go_region_law (refine step_shift_sat TStrs h5.drew.swap (by rw [strs_snoc]; exact strs_one _) ip (by omega) (c3 - (ip + 1)) (c3 - ip) dp hdp2.out.1 hdp2.out.2 (.tmp 72) (.tmp 78) rfl rfl (by simp [Act.eval, Act.put]) (by simp [Act.eval, Act.put]) ?_; intro w6 h6)
    all_goals
      have e6 : w6.cell? ⟨b, 6, none⟩ = some (.slice (some ⟨gn, 0, none⟩) (N.length + 1) c3) := h6.swap.cell 6
      obtain ⟨u, _, e7, e8, _⟩ := own_at h6 ip (by omega)
      go_wp2_with fail
      go_ret
      refine ⟨w1.heap.size, la, rfl, ?_⟩
      have h7 := own_set2 h6 ip (.string s)
      have h8 : (shifted (strs N ++ [Value.string s]) ip 1 (N.length + 1)).set ip (.string s) = strs (insN s N) := by
        have := shifted_put (strs N) (.string s) (.string s) ip (by simpa [strs] using hjp)
        rw [strs_len] at this
        rw [this]
        unfold insN
        rw [HIP.out]
        simp [strs]
      rw [h8] at h7
      have hb1 : gents (upd B s w1.heap.size) (G ++ [⟨s, [], []⟩]) = mput s (pt w1.heap.size) (gents B G) := by
        rw [mput_new' HG.out]
        unfold gents
        rw [List.map_append, List.map_cons, List.map_nil, upd_new]
        congr 1
        exact List.map_congr_left fun g hg => by rw [upd_old B _ (HN.out g hg)]
      have hb2 : stars (groupR A (upd B s w1.heap.size) (upd L s la) P.que) G = stars (groupR A B L P.que) G := stars_congr fun g hg => by
        unfold groupR; rw [upd_old B _ (HN.out g hg), upd_old L _ (HN.out g hg)]
      have h11 := ((own_nil (e := 56) (size := 1) h7).get5.get6.put3).of_eq (show _ = blk w1.heap.size _ * (Own _ 1 (.slice none 0 0) 0 [] * (LineR la [] P.que * (stars (connR A w1.heap.size) [] * _))) by rw [stars, emp_star])
      have h12 := (group_close2 (B := upd B s w1.heap.size) (L := upd L s la) (nm := s) (cs := []) h11 (upd_new _ _ _) (upd_new _ _ _) rfl rfl).put6.put3
      refine pool_close (vN := .slice (some ⟨gn, 0, none⟩) (N.length + 1) c3) (mG := mG) (mC := mC) (mK := mK) (e1 := mput s (pt w1.heap.size) (gents B G)) (e2 := ments A M) (e3 := ments A K) (cs := ((cellsP P last mG (.slice va N.length vc) mC mK).setIfInBounds 6 (.slice (some ⟨gn, 0, none⟩) (N.length + 1) c3))) ?_ rfl hb1.symm rfl rfl
      rw [stars_snoc, hb2, star_assoc]
      have hl : (insN s N).length = N.length + 1 := by rw [(insN_perm s N).length_eq]; rfl
      unfold Strs
      rw [hl]
      exact h12

end Go.Proofs.Yticponkpgaofnaa
