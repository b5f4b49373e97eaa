/- Contracts of the document's queue of deadlines (pontoonref11). -/
import Derived.Test.YtlilogcojeoelaaMG
import Derived.Test.YtlilogcojeoelaaMA
namespace Go.Proofs.Ytlilogcojeoelaa
set_option linter.all false
open Go Go.RowKit

theorem TIt11 : SliceT Try.prog 100 143 (.agg #[.string ByteArray.empty, .int .i64 0]) 2 24 := ⟨by kernel_rfl, by kernel_rfl, rfl, by decide⟩
abbrev Its (v : Value) (l : List KV) : Assn := RecS EKV 143 v l
def Q11 (b : Nat) (l : List KV) : Assn := ex fun v : Value => blk b (.cells #[v] 102 (0, 0)) * Its v l
section
variable {k : Env} {w : World} {b : Nat} {l : List KV} {R : Assn}
theorem q11_open (h : Sat k w (Q11 b l * R)) : ∃ a c, Sat k w (blk b (.cells #[.slice a l.length c] 102 (0, 0)) * (Its (.slice a l.length c) l * R)) := by
  obtain ⟨v, h⟩ := Sat.ex.1 h
  simp only [star_assoc] at h
  obtain ⟨a, c, rfl⟩ := rec_val h.swap
  exact ⟨a, c, h⟩
theorem q11_close {v : Value} {cs : Array Value} (h : Sat k w (blk b (.cells cs 102 (0, 0)) * (Its v l * R))) (e : cs = #[v]) : Sat k w (Q11 b l * R) := by
  subst e
  exact Sat.ex.2 ⟨v, by simp only [star_assoc]; exact h⟩
theorem it_get {a : Option Addr} {c : Nat} (h : Sat k w (Its (.slice a l.length c) l * R)) (j : Nat) (hj : j < l.length) :
    ∃ g, a = some ⟨g, 0, none⟩ ∧ g < w.heap.size ∧ w.cell? ⟨g, j * 2, none⟩ = some (.string l[j].1) ∧ w.cell? ⟨g, j * 2 + 1, none⟩ = some (.int .i64 l[j].2) := by
  obtain ⟨g, rfl, hg, hc⟩ := rec_get h (by decide) j hj
  exact ⟨g, rfl, hg, hc 0 (by decide), hc 1 (by decide)⟩
end
theorem mget_drop (a : ByteArray) (l : List KV) (j : Nat) (hj : j < l.length) : mget a (l.drop j) = if l[j].1 = a then some l[j].2 else mget a (l.drop (j + 1)) := by
  rw [List.drop_eq_getElem_cons hj, mget]
def atV (o : Option Int) : Value := .tuple #[.int .i64 (o.getD 0), .bool o.isSome]

set_option maxHeartbeats 1000000 in
theorem rqat_any (k : Env) (w : World) (R : Assn) (b : Nat) (l : List KV) (s : ByteArray) (h : Sat k w (Q11 b l * R)) :
    Calls Try.prog 59 #[.pointer (some ⟨b, 0, none⟩), .string s] w fun e w' => e = .returned (atV (mget s l)) ∧ w = w' := by
  obtain ⟨a, c, h⟩ := q11_open h
  have hcap := rec_cap h.swap
  unfold maxLen at hcap
  have d0 : w.cell? ⟨b, 0, none⟩ = some (.slice a l.length c) := h.cell 0
  go_enter Try.func59, Try.ntmps59
  go_wp2
  go_loopw [6] (fun i wr => ∃ j : Nat, j ≤ l.length ∧ i = .int .i64 j ∧ Hid (mget s l = mget s (l.drop j)) ∧ w = wr) (fun i _ => l.length - (intOf i).toNat)
  case atStart => exact ⟨0, Nat.zero_le _, rfl, rfl, rfl⟩
  case round =>
    obtain ⟨j, hj, rfl, HP, rfl⟩ := hrel
    by_cases hlt : j < l.length
    · obtain ⟨g, rfl, hg, e0, e1⟩ := it_get h.swap j hlt
      have HD := Lib.hid (mget_drop s l j hlt)
      by_cases hq : l[j].1 = s
      · have hb : (l[j].1.toList == s.toList) = true := by rw [tl_beq]; simp [hq]
        have HQ := Lib.hid hq
        clear hq
        go_wp2
        go_ret2
        refine ⟨?_, by first | rfl | trivial⟩
        rw [HP.out, HD.out, if_pos HQ.out]; rfl
      · have hb : (l[j].1.toList == s.toList) = false := by rw [tl_beq]; simp [hq]
        have HQ := Lib.hid hq
        clear hq
        go_wp2
        go_roundw
        case rel => exact ⟨j + 1, by omega, by go_num, by unfold Hid; rw [HP.out, HD.out, if_neg HQ.out], by first | rfl | trivial⟩
        case measure => simp [intOf]; omega
    · obtain rfl : j = l.length := by omega
      go_wp2
      go_ret2
      exact ⟨by rw [HP.out]; simp [mget, atV], by first | rfl | trivial⟩

set_option maxHeartbeats 2000000 in
theorem rqdrop_any (k : Env) (w : World) (R : Assn) (b : Nat) (l : List KV) (s : ByteArray) (hb : (l.length : Int) ≤ 4294967296) (h : Sat k w (Q11 b l * R)) :
    Calls Try.prog 85 #[.pointer (some ⟨b, 0, none⟩), .string s] w fun e w' => e = .returned (.bool (decide ((dropV s l).length < l.length))) ∧ Sat k w' (Q11 b (dropV s l) * R) := by
  obtain ⟨a, c, h⟩ := q11_open h
  go_enter Try.func85, Try.ntmps85
  go_wp2
  go_loopw [5, 6] (fun v i wr => ∃ j : Nat, j ≤ l.length ∧ i = .int .i64 j ∧ Sat k wr (Its v (dropV s (l.take j)) * (blk b (.cells #[.slice a l.length c] 102 (0, 0)) * (Its (.slice a l.length c) l * R)))) (fun _ i _ => l.length - (intOf i).toNat)
  case atStart => exact ⟨0, Nat.zero_le _, rfl, rec_nil h⟩
  case round =>
    clear h
    obtain ⟨j, hj, rfl, hr⟩ := hrel
    have d0 : wr.cell? ⟨b, 0, none⟩ = some (.slice a l.length c) := hr.swap.cell 0
    by_cases hlt : j < l.length
    · obtain ⟨g, rfl, hg, e0, e1⟩ := it_get hr.get3 j hlt
      have HT := Lib.hid (dropV_snoc s (l.take j) l[j])
      have HU := Lib.hid (List.take_succ_eq_append_getElem hlt)
      have hdl : ((dropV s (l.take j)).length : Int) ≤ 4294967296 := by have := dropV_len s (l.take j); simp at this; omega
      obtain ⟨va, vc, rfl⟩ := rec_val hr
      by_cases hq : l[j].1 = s
      · have hbq : (l[j].1.toList == s.toList) = true := by rw [tl_beq]; simp [hq]
        have HQ := Lib.hid hq
        clear hq
        go_wp2
        go_roundw
        case rel => exact ⟨j + 1, by omega, by go_num, by rw [HU.out, HT.out, if_pos HQ.out]; exact hr⟩
        case measure => simp [intOf]; omega
      · have hbq : (l[j].1.toList == s.toList) = false := by rw [tl_beq]; simp [hq]
        have HQ := Lib.hid hq
        clear hq
        go_wp2_with (at_builtin; refine wpList_append_sat TIt11 (hr.alloc' _) (.tmp 27) (.tmp 35) _ 1 1 [.string l[j].1, .int .i64 l[j].2] rfl rfl rfl rfl rfl (fun _ => ⟨_, rfl, new_cells_at _ _ _ _ (by first | rfl | simp)⟩) (EKV.one (_, _)) (by simp [maxLen]; omega) (by omega) ?_; intro a3 c3 w3 h3)
        go_roundw
        case rel => exact ⟨j + 1, by omega, by go_num, by rw [HU.out, HT.out, if_neg HQ.out]; exact rec_push h3⟩
        case measure => simp [intOf]; omega
    · obtain rfl : j = l.length := by omega
      rw [List.take_length] at hr
      obtain ⟨va, vc, rfl⟩ := rec_val hr
      have hcap := rec_cap hr
      unfold maxLen at hcap
      have df := hr.swap.frozen
      have h2 := (hr.swap.set 0 (.slice va (dropV s l).length vc))
      generalize hdq : (dropV s l).length = dl at *
      go_wp2
      go_ret
      refine ⟨by congr 2; simp [hdq], ?_⟩
      exact q11_close (h2.of_eq (by rw [← hdq]; ac_rfl)).drop3 rfl

def dueL (l : List KV) (now : Int) : List ByteArray := (l.filter fun x => decide (x.2 ≤ now)).map Prod.fst
def restL (l : List KV) (now : Int) : List KV := l.filter fun x => decide (¬ x.2 ≤ now)
theorem dueL_snoc (l : List KV) (x : KV) (now : Int) : dueL (l ++ [x]) now = if x.2 ≤ now then dueL l now ++ [x.1] else dueL l now := by
  simp only [dueL, List.filter_append, List.filter_cons, List.filter_nil]
  split <;> simp_all
theorem restL_snoc (l : List KV) (x : KV) (now : Int) : restL (l ++ [x]) now = if x.2 ≤ now then restL l now else restL l now ++ [x] := by
  simp only [restL, List.filter_append, List.filter_cons, List.filter_nil]
  split <;> simp_all
theorem dueL_len (l : List KV) (now : Int) : (dueL l now).length ≤ l.length := by unfold dueL; rw [List.length_map]; exact List.length_filter_le _ _
theorem restL_len (l : List KV) (now : Int) : (restL l now).length ≤ l.length := List.length_filter_le _ _

set_option maxRecDepth 100000 in
set_option maxHeartbeats 2000000 in
theorem rqdue_any (k : Env) (w : World) (R : Assn) (b : Nat) (l : List KV) (now : Int) (hb : (l.length : Int) ≤ 4294967296) (h : Sat k w (Q11 b l * R)) :
    Calls Try.prog 62 #[.pointer (some ⟨b, 0, none⟩), .int .i64 now] w fun e w' => ∃ v, e = .returned v ∧ Sat k w' (Strs v (dueL l now) * (Q11 b (restL l now) * R)) := by
  obtain ⟨a, c, h⟩ := q11_open h
  go_enter Try.func62, Try.ntmps62
  go_wp2
  go_loopw [5, 6, 7] (fun v5 v6 i wr => ∃ j : Nat, j ≤ l.length ∧ i = .int .i64 j ∧ Sat k wr (Strs v5 (dueL (l.take j) now) * (Its v6 (restL (l.take j) now) * (blk b (.cells #[.slice a l.length c] 102 (0, 0)) * (Its (.slice a l.length c) l * R))))) (fun _ _ i _ => l.length - (intOf i).toNat)
  case atStart => exact ⟨0, Nat.zero_le _, rfl, own_nil (rec_nil h)⟩
  case round =>
    clear h
    obtain ⟨j, hj, rfl, hr⟩ := hrel
    have d0 : wr.cell? ⟨b, 0, none⟩ = some (.slice a l.length c) := hr.get3.cell 0
    by_cases hlt : j < l.length
    · obtain ⟨g, rfl, hg, e0, e1⟩ := it_get hr.get4 j hlt
      have HT := Lib.hid (dueL_snoc (l.take j) l[j] now)
      have HV := Lib.hid (restL_snoc (l.take j) l[j] now)
      have HU := Lib.hid (List.take_succ_eq_append_getElem hlt)
      have hdl : ((dueL (l.take j) now).length : Int) ≤ 4294967296 := by have := dueL_len (l.take j) now; simp at this; omega
      have hdl2 : ((restL (l.take j) now).length : Int) ≤ 4294967296 := by have := restL_len (l.take j) now; simp at this; omega
      obtain ⟨va, vc, rfl⟩ := rec_val hr.swap
      by_cases hq : l[j].2 ≤ now
      · go_wp2_with (at_builtin; refine wpList_append_sat TStrs (hr.alloc' _) (.tmp 27) (.tmp 36) _ 1 1 [.string l[j].1] rfl rfl rfl rfl rfl (fun _ => ⟨_, rfl, new_cells_at _ _ _ _ (by first | rfl | simp)⟩) (by simp [Value.oneCell']) (by simp [maxLen]; omega) (by omega) ?_; intro a3 c3 w3 h3)
        go_roundw
        case rel => exact ⟨j + 1, by omega, by go_num, by rw [HU.out, HT.out, HV.out, if_pos hq, if_pos hq]; exact strs_push h3⟩
        case measure => simp [intOf]; omega
      · have hq' : ¬ l[j].2 ≤ now := hq
        go_wp2_with (at_builtin; refine wpList_append_sat TIt11 (hr.swap.alloc' _) (.tmp 38) (.tmp 46) _ 1 1 [.string l[j].1, .int .i64 l[j].2] rfl rfl rfl rfl rfl (fun _ => ⟨_, rfl, new_cells_at _ _ _ _ (by first | rfl | simp)⟩) (EKV.one (_, _)) (by simp [maxLen]; omega) (by omega) ?_; intro a3 c3 w3 h3)
        go_roundw
        case rel => exact ⟨j + 1, by omega, by go_num, by rw [HU.out, HT.out, HV.out, if_neg hq', if_neg hq']; exact (rec_push h3).swap⟩
        case measure => simp [intOf]; omega
    · obtain rfl : j = l.length := by omega
      rw [List.take_length] at hr
      obtain ⟨va, vc, rfl⟩ := rec_val hr.swap
      have df := hr.get3.frozen
      have h2 := (hr.get3.set 0 (.slice va (restL l now).length vc))
      go_wp2
      go_ret
      refine ⟨_, rfl, ?_⟩
      exact (q11_close (R := Strs _ (dueL l now) * R) ((h2.of_eq (by ac_rfl)).drop4) rfl).swap

end Go.Proofs.Ytlilogcojeoelaa
