/- Several texts in one: R12A, R12B. -/
import Derived.Test.YtlilogcojeoelaaSlruR4
import Derived.Test.YtlilogcojeoelaaRef11S
import Derived.Test.YtlilogcojeoelaaCacheE
import Derived.Deep.CutBlock
import Derived.Test.YtlilogcojeoelaaKeyQ
namespace Go.Proofs.Ytlilogcojeoelaa
set_option linter.all false
open Go Go.RowKit

abbrev PV := ByteArray × ByteArray
def EPr : Enc PV := ⟨fun x => [.string x.1, .string x.2], 2, fun _ => rfl, fun x u hu => by simp at hu; rcases hu with rfl | rfl <;> rfl⟩
theorem TPr : SliceT Try.prog 103 107 (.agg #[.string ByteArray.empty, .string ByteArray.empty]) 2 32 := ⟨Try.underlying103, by kernel_rfl, rfl, by decide⟩
def Prs (v : Value) (l : List PV) : Assn := RecS EPr 107 v l
def dropP (s : ByteArray) (l : List PV) : List PV := l.filter fun x => decide (x.1 ≠ s)
theorem dropP_snoc (s : ByteArray) (l : List PV) (x : PV) : dropP s (l ++ [x]) = if x.1 = s then dropP s l else dropP s l ++ [x] := by
  unfold dropP
  rw [List.filter_append]
  by_cases e : x.1 = s <;> simp [e]
theorem dropP_len (s : ByteArray) (l : List PV) : (dropP s l).length ≤ l.length := List.length_filter_le _ _

/-- What the document's cache holds: the budgets, the segments, the deadlines, the values. -/
structure DS where
  al : Int
  kp : Int
  mo : Int
  ttl : Int
  T : List KV
  K : List KV
  L : List KV
  P : List PV
def cellsD (s q : Nat) (v : Value) (ttl : Int) : Array Value := #[pq s, pq q, v, .int .i64 ttl]
def DocR (b : Nat) (d : DS) : Assn := ex fun p : Nat × Nat × Value => blk b (.cells (cellsD p.1 p.2.1 p.2.2 d.ttl) 105 (0, 0)) * (RefV p.1 d.al d.kp d.mo d.T d.K * (Q11 p.2.1 d.L * Prs p.2.2 d.P))
section
variable {k : Env} {w : World} {b : Nat} {d : DS} {R : Assn}
theorem dr_open (h : Sat k w (DocR b d * R)) : ∃ s q a c, Sat k w (blk b (.cells (cellsD s q (.slice a d.P.length c) d.ttl) 105 (0, 0)) * (RefV s d.al d.kp d.mo d.T d.K * (Q11 q d.L * (Prs (.slice a d.P.length c) d.P * R)))) := by
  obtain ⟨⟨s, q, v⟩, h⟩ := Sat.ex.1 h
  simp only [star_assoc] at h
  obtain ⟨a, c, rfl⟩ := rec_val h.get4
  exact ⟨s, q, a, c, h⟩
theorem dr_close {s q : Nat} {v : Value} {cs : Array Value} {al kp mo : Int} {T K L : List KV} {P : List PV} (h : Sat k w (blk b (.cells cs 105 (0, 0)) * (RefV s al kp mo T K * (Q11 q L * (Prs v P * R)))))
    (h0 : cs = cellsD s q v d.ttl) (h1 : al = d.al) (h2 : kp = d.kp) (h3 : mo = d.mo) (h4 : T = d.T) (h5 : K = d.K) (h6 : L = d.L) (h7 : P = d.P) : Sat k w (DocR b d * R) := by
  subst h0 h1 h2 h3 h4 h5 h6 h7
  exact Sat.ex.2 ⟨(s, q, v), by simp only [star_assoc]; exact h⟩
theorem pr_get {a : Option Addr} {c : Nat} {l : List PV} (h : Sat k w (Prs (.slice a l.length c) l * R)) (j : Nat) (hj : j < l.length) :
    ∃ g, a = some ⟨g, 0, none⟩ ∧ w.cell? ⟨g, j * 2, none⟩ = some (.string l[j].1) ∧ w.cell? ⟨g, j * 2 + 1, none⟩ = some (.string l[j].2) := by
  obtain ⟨g, e, _, hc⟩ := rec_get h (by decide) j hj
  exact ⟨g, e, hc 0 (by decide), hc 1 (by decide)⟩
end
def dgone (d : DS) (s : ByteArray) : DS := { d with T := dropV s d.T, K := dropV s d.K, L := dropV s d.L, P := dropP s d.P }

set_option maxRecDepth 100000 in
set_option maxHeartbeats 4000000 in
theorem rgone_any (k : Env) (w : World) (R : Assn) (b : Nat) (d : DS) (s : ByteArray) (hl : (d.L.length : Int) ≤ 1073741824) (hp : (d.P.length : Int) ≤ 1073741824) (ht : (d.T.length : Int) + d.K.length ≤ 1073741824) (h : Sat k w (DocR b d * R)) :
    Calls Try.prog 57 #[pq b, .string s] w fun e w' => e = .returned (.bool (mget s (d.T ++ d.K)).isSome) ∧ Sat k w' (DocR b (dgone d s) * R) := by
  obtain ⟨sb, qb, pa, pc, hs⟩ := dr_open h
  have c1 : w.cell? ⟨b, 1, none⟩ = some (pq qb) := hs.cell 1
  have C1 := Lib.hid (rqdrop_any k w _ qb d.L s (by omega) hs.get3)
  clear h hs
  go_enter Try.func57, Try.ntmps57
  go_wp2_with fail
  refine C1.out.mono ?_
  rintro e w1 ⟨rfl, h1⟩
  have h2 : Sat k w1 (Prs (.slice none 0 0) (dropP s (d.P.take 0)) * (blk b (.cells (cellsD sb qb (.slice pa d.P.length pc) d.ttl) 105 (0, 0)) * (Prs (.slice pa d.P.length pc) d.P * (RefV sb d.al d.kp d.mo d.T d.K * (Q11 qb (dropV s d.L) * R))))) := own_nil (h1.of_eq (by ac_rfl))
  clear c1 C1 h1
  go_wp2_with fail
  go_loopw [5, 6] (fun v5 i wr => ∃ j : Nat, j ≤ d.P.length ∧ i = .int .i64 j ∧ Sat k wr (Prs v5 (dropP s (d.P.take j)) * (blk b (.cells (cellsD sb qb (.slice pa d.P.length pc) d.ttl) 105 (0, 0)) * (Prs (.slice pa d.P.length pc) d.P * (RefV sb d.al d.kp d.mo d.T d.K * (Q11 qb (dropV s d.L) * R)))))) (fun _ i _ => d.P.length - (intOf i).toNat)
  case atStart => exact ⟨0, Nat.zero_le _, rfl, h2⟩
  case round =>
    clear h2
    obtain ⟨j, hj, rfl, hr⟩ := hrel
    obtain ⟨xa, xc, rfl⟩ := rec_val hr
    have c2 : wr.cell? ⟨b, 2, none⟩ = some (.slice pa d.P.length pc) := hr.swap.cell 2
    by_cases hlt : j < d.P.length
    · have hlt' : (j : Int) < d.P.length := by omega
      obtain ⟨g, rfl, e0, e1⟩ := pr_get hr.get3 j hlt
      have HSN : Hid (dropP s (d.P.take (j + 1)) = if d.P[j].1 = s then dropP s (d.P.take j) else dropP s (d.P.take j) ++ [d.P[j]]) := by
        have hsn : d.P.take (j + 1) = d.P.take j ++ [d.P[j]] := by rw [List.take_succ]; simp [hlt]
        unfold Hid; rw [hsn, dropP_snoc]
      have hfl : ((dropP s (d.P.take j)).length : Int) ≤ 1073741824 := by
        have := dropP_len s (d.P.take j)
        rw [List.length_take] at this
        omega
      generalize d.P[j] = x at *
      generalize dropP s (d.P.take j) = fl at *
      obtain ⟨x1, x2⟩ := x
      simp only at e0 e1 HSN
      have hcmp : (x1.toList == s.toList) = decide (x1 = s) := tl_beq _ _
      by_cases hx : x1 = s
      · rw [decide_eq_true hx] at hcmp
        rw [if_pos hx] at HSN
        have HX := Lib.hid hx
        clear hx
        go_wp2_with fail
        go_roundw
        case rel => exact ⟨j + 1, by omega, by go_num, by rw [HSN.out]; exact hr⟩
        case measure => simp [intOf]; omega
      · rw [decide_eq_false hx] at hcmp
        rw [if_neg hx] at HSN
        have HX := Lib.hid hx
        clear hx
        go_upto_region 7 with fail
        go_wp2_with (at_builtin; refine wpList_append_sat TPr (hr.alloc' _) (.tmp 32) (.tmp 40) _ 1 1 [.string x1, .string x2] rfl rfl rfl rfl rfl (fun _ => ⟨_, rfl, new_cells_at _ _ _ _ (by first | rfl | simp)⟩) (EPr.one (x1, x2)) (by simp only [maxLen]; omega) (by omega) ?_; intro a7 c7 w7 h7)
        go_roundw
        case rel => exact ⟨j + 1, by omega, by go_num, by rw [HSN.out]; exact rec_push (E := EPr) (x := (x1, x2)) h7⟩
        case measure => simp [intOf]; omega
    · have hjl : j = d.P.length := by omega
      subst hjl
      rw [List.take_length] at hr ⊢
      have f2 := hr.swap.frozen 2
      have h3 := hr.swap.set 2 (.slice xa (dropP s d.P).length xc)
      go_upto_region 9 with fail
      generalize wr.setCell ⟨b, 2, none⟩ (.slice xa (dropP s d.P).length xc) = w3 at *
      clear c2 f2 hr
      have c0 : w3.cell? ⟨b, 0, none⟩ = some (pq sb) := h3.cell 0
      go_wp2_with fail
      refine (rdrop_any k w3 _ sb d.al d.kp d.mo d.T d.K s ht h3.get4).mono ?_
      rintro e w4 ⟨rfl, h4⟩
      go_wp2_with fail
      go_ret
      refine ⟨rfl, ?_⟩
      have h5 : Sat k w4 (Prs (.slice pa d.P.length pc) d.P * (blk b (.cells (cellsD sb qb (.slice xa (dropP s d.P).length xc) d.ttl) 105 (0, 0)) * (RefV sb d.al d.kp d.mo (dropV s d.T) (dropV s d.K) * (Q11 qb (dropV s d.L) * (Prs (.slice xa (dropP s d.P).length xc) (dropP s d.P) * R))))) := h4.of_eq (by unfold cellsD; simp only [List.setIfInBounds_toArray, List.set_cons_zero, List.set_cons_succ]; ac_rfl)
      exact dr_close (d := dgone d s) h5.drop rfl rfl rfl rfl rfl rfl rfl rfl

end Go.Proofs.Ytlilogcojeoelaa

namespace Go.Proofs.Ytlilogcojeoelaa
set_option linter.all false
open Go Go.RowKit

theorem TKr : SliceT Try.prog 56 28 (.agg #[.string ByteArray.empty, .string ByteArray.empty, .int .i64 0, .string ByteArray.empty]) 4 56 := ⟨Try.underlying56, by kernel_rfl, rfl, by decide⟩
def KysR (v : Value) (l : List Ky) : Assn := RecS EKy 28 v l

set_option maxRecDepth 100000 in
set_option maxHeartbeats 4000000 in
theorem rkeysof_any (k : Env) (w : World) (R : Assn) (a : Option Addr) (cap : Nat) (l : List ByteArray) (hs : ∀ s ∈ l, s.size ≤ 300000) (hl : (l.length : Int) ≤ 1073741824) (h : Sat k w (Strs (.slice a l.length cap) l * R)) :
    Calls Try.prog 58 #[.slice a l.length cap] w fun e w' => ∃ v, e = .returned v ∧ Sat k w' (KysR v (l.map resP) * (Strs (.slice a l.length cap) l * R)) := by
  have h0 : Sat k w (KysR (.slice none 0 0) ((l.take 0).map resP) * (Strs (.slice a l.length cap) l * R)) := own_nil h
  have HS := Lib.hid hs
  clear h hs
  go_enter Try.func58, Try.ntmps58
  go_wp2_with fail
  go_loopw [3, 4] (fun v3 i wr => ∃ j : Nat, j ≤ l.length ∧ i = .int .i64 j ∧ Sat k wr (KysR v3 ((l.take j).map resP) * (Strs (.slice a l.length cap) l * R))) (fun _ i _ => l.length - (intOf i).toNat)
  case atStart => exact ⟨0, Nat.zero_le _, rfl, h0⟩
  case round =>
    clear h0
    obtain ⟨j, hj, rfl, hr⟩ := hrel
    by_cases hlt : j < l.length
    · have hlt' : (j : Int) < l.length := by omega
      obtain ⟨g, rfl, hg, dj⟩ := strs_get hr.swap j hlt
      have HSN : Hid ((l.take (j + 1)).map resP = (l.take j).map resP ++ [resP l[j]]) := by
        have hsn : l.take (j + 1) = l.take j ++ [l[j]] := by rw [List.take_succ]; simp [hlt]
        unfold Hid; rw [hsn, List.map_append]; rfl
      have HTL : Hid (((l.take j).map resP).length = j) := by unfold Hid; rw [List.length_map, List.length_take]; omega
      have hsz := HS.out l[j] (List.getElem_mem hlt)
      generalize (l.take j).map resP = yt at *
      generalize l[j] = s at *
      obtain ⟨xa, xc, huv⟩ := rec_val hr
      rw [HTL.out] at huv
      subst huv
      have C1 := Lib.hid (rparse_any k wr _ s hsz hr)
      clear hsz
      generalize resP s = y at *
      generalize isP s = tb at *
      unfold kyV at C1
      go_upto_region 6 with (go_at_call 11; (with_reducible refine C1.out.mono ?_); rintro e w2 ⟨rfl, h2⟩)
      have h3 := h2.alloc (.cells #[.string y.db, .string y.ro, .int .i64 y.fm, .string y.nm] 28)
      generalize w2.alloc (.cells #[.string y.db, .string y.ro, .int .i64 y.fm, .string y.nm] 28) = w3 at *
      generalize w2.heap.size = o8 at *
      have d0 : w3.cell? ⟨o8, 0, none⟩ = some (.string y.db) := h3.cell 0
      have d1 : w3.cell? ⟨o8, 1, none⟩ = some (.string y.ro) := h3.cell 1
      have d2 : w3.cell? ⟨o8, 2, none⟩ = some (.int .i64 y.fm) := h3.cell 2
      have d3 : w3.cell? ⟨o8, 3, none⟩ = some (.string y.nm) := h3.cell 3
      go_wp2_with (at_builtin; refine wpList_append_sat TKr (h3.drop.alloc' _) (.tmp 21) (.tmp 23) _ 1 1 (kyc y) rfl rfl rfl rfl rfl (fun _ => ⟨_, rfl, new_cells_at _ _ _ _ (by first | rfl | simp)⟩) (EKy.one y) (by simp only [HTL.out, maxLen]; omega) (by rw [HTL.out]; omega) ?_; intro a7 c7 w7 h7)
      go_roundw
      case rel => exact ⟨j + 1, by omega, by go_num, by rw [HSN.out]; exact rec_push (E := EKy) h7⟩
      case measure => simp [intOf]; omega
    · have hjl : j = l.length := by omega
      subst hjl
      rw [List.take_length] at hr
      go_wp2_with fail
      go_ret
      exact ⟨_, rfl, hr⟩

set_option maxRecDepth 100000 in
set_option maxHeartbeats 4000000 in
theorem rbytes_any (k : Env) (w : World) (R : Assn) (b : Nat) (d : DS) (hT : posV d.T) (hK : posV d.K) (h1 : sumV d.T ≤ 1073741824) (h2 : sumV d.K ≤ 1073741824) (h0 : 0 ≤ sumV d.T) (h0' : 0 ≤ sumV d.K) (h : Sat k w (DocR b d * R)) :
    Calls Try.prog 34 #[pq b] w fun e w' => e = .returned (.int .i64 (sumV d.K + sumV d.T)) ∧ Sat k w' (DocR b d * R) := by
  obtain ⟨sb, qb, pa, pc, hs⟩ := dr_open h
  obtain ⟨a1, c1, a2, c2, hr⟩ := rv_open hs.swap
  have e0 : w.cell? ⟨b, 0, none⟩ = some (pq sb) := hr.get4.cell 0
  have f0 : w.cell? ⟨sb, 0, none⟩ = some (.slice a1 d.T.length c1) := hr.cell 0
  have f1 : w.cell? ⟨sb, 1, none⟩ = some (.slice a2 d.K.length c2) := hr.cell 1
  have CT := Lib.hid (fun n' => (rsum_any k (w.drewN n') _ a1 c1 d.T hT (by omega) (hr.swap.drewN n')).mono fun _ _ ⟨p, q⟩ => And.intro p q.symm)
  have CK := Lib.hid (fun n' => (rsum_any k (w.drewN n') _ a2 c2 d.K hK (by omega) (hr.get3.drewN n')).mono fun _ _ ⟨p, q⟩ => And.intro p q.symm)
  have hw : IntKind.i64.wrap (sumV d.K + sumV d.T) = sumV d.K + sumV d.T := IntWalk.i64_in _ (by omega)
  clear hs hT hK hr
  go_enter Try.func34, Try.ntmps34
  go_upto_region 1 with fail
  go_quiet (first | (go_at_call 67; (with_reducible exact Calls.quiet_of_same (CK.out _))) | (go_at_call 67; (with_reducible exact Calls.quiet_of_same (CT.out _))))
  replace h := h.drewN nq
  go_wp2_with fail
  go_ret
  exact ⟨rfl, h⟩

end Go.Proofs.Ytlilogcojeoelaa
