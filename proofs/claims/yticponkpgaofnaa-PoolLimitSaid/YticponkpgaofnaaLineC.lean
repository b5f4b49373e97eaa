/- Contracts of package line: Late, All, Copy; what is nil, what is zero. -/
import Derived.Test.YticponkpgaofnaaLineB
import Derived.Test.YticponkpgaofnaaIntsEq
import Derived.Deep.LoopGhost
namespace Go.Proofs.Yticponkpgaofnaa
set_option linter.all false
open Go Go.RowKit

def lateF (now : Int) (sp : List Sp) : List Int := (sp.filter (fun s => decide (s.2 ≤ now))).map (·.1)
def stayF (now : Int) (sp : List Sp) : List Sp := sp.filter (fun s => decide (now < s.2))

theorem late_snoc (now : Int) (d : List Sp) (s : Sp) : lateF now (d ++ [s]) = if s.2 ≤ now then lateF now d ++ [s.1] else lateF now d := by
  simp only [lateF, List.filter_append, List.map_append, List.filter_cons, List.filter_nil]
  split <;> simp_all
theorem stay_snoc (now : Int) (d : List Sp) (s : Sp) : stayF now (d ++ [s]) = if now < s.2 then stayF now d ++ [s] else stayF now d := by
  simp only [stayF, List.filter_append, List.filter_cons, List.filter_nil]
  split <;> simp_all
theorem late_len (now : Int) (d : List Sp) : (lateF now d).length ≤ d.length := by simp only [lateF, List.length_map]; exact List.length_filter_le _ _
theorem stay_len (now : Int) (d : List Sp) : (stayF now d).length ≤ d.length := List.length_filter_le _ _

set_option maxHeartbeats 1000000 in
theorem late_any (k : Env) (w : World) (R : Assn) (b : Nat) (sp : List Sp) (most now : Int) (h : Sat k w (LineR b sp most * R)) :
    Calls Try.prog 31 #[.pointer (some ⟨b, 0, none⟩), .int .i64 now] w fun e w' => ∃ v, e = .returned v ∧ Sat k w' (Ints v (lateF now sp) * (LineR b (stayF now sp) most * R)) := by
  obtain ⟨a, cap, hm0, hm1, hlen, hs⟩ := line_open h
  have c1 := hs.cell2 1
  simp at c1
  clear hs
  go_enter Try.func31, Try.ntmps31
  go_wp2_with (go_at_call 36; refine (there_any _ _ _ hm0 c1).mono ?_; rintro e w' ⟨rfl, rfl⟩)
  go_loopg [5, 6] sp.length (fun gk v i wr => ∃ d r : List Sp, gk = r.length ∧ sp = d ++ r ∧ i = .int .i64 (stayF now d).length ∧ Sat k wr (Ints v (lateF now d) * (LineR b (stayF now d ++ r) most * R)))
  case atStart => exact ⟨[], sp, rfl, rfl, rfl, own_nil h⟩
  case round =>
    obtain ⟨d, r, rfl, hsp, rfl, hr⟩ := hrel
    have HS := Lib.hid hsp
    have hll : (lateF now d).length ≤ 10000 := by have := late_len now d; have : sp.length = d.length + r.length := by rw [hsp]; simp
                                                  omega
    have hsl : (stayF now d).length ≤ 10000 := by have := stay_len now d; have : sp.length = d.length + r.length := by rw [hsp]; simp
                                                  omega
    clear hsp c1
    obtain ⟨a, cap, _, _, hlen', hs⟩ := line_open hr.swap
    have c0 := hs.cell2 0
    simp at c0
    cases r with
    | nil =>
      simp only [List.length_nil, Nat.add_zero] at c0
      go_wp2
      go_ret
      refine ⟨_, rfl, ?_⟩
      rw [HS.out, List.append_nil]
      simpa using hr
    | cons s r =>
      obtain ⟨g, rfl, hg, d0, d1⟩ := spot_get hs (stayF now d).length (by simp)
      simp only [List.getElem_append_right (Nat.le_refl _), Nat.sub_self, List.getElem_cons_zero] at d0 d1
      simp only [List.length_cons] at c0
      by_cases hq : now < s.2
      · go_wp2
        go_roundg r.length
        case measure => simp
        case rel => exact ⟨d ++ [s], r, rfl, by rw [HS.out]; simp, by rw [stay_snoc, if_pos hq]; simp, by rw [stay_snoc, if_pos hq, late_snoc, if_neg (by omega), List.append_assoc]; exact hr⟩
      · obtain ⟨va, vc, rfl⟩ := own_val hr
        go_wp2_with (first | (at_builtin; refine wpList_append_sat TInts (hr.alloc' _) (.tmp 29) (.tmp 38) _ 1 1 [.int .i64 s.1] rfl rfl rfl rfl rfl (fun _ => ⟨_, rfl, new_cells_at _ _ _ _ (by simp)⟩) (ints_one [s.1]) (by simp [maxLen]; omega) (by omega) ?_; intro a2 c2 w2 h2) | (go_at_call 37; refine (cut_any k _ _ b _ most _ (by simp) h2.swap).mono ?_; rintro e w' ⟨rfl, h3⟩))
        go_roundg r.length
        case measure => simp
        case rel =>
          refine ⟨d ++ [s], r, rfl, by rw [HS.out]; simp, by rw [stay_snoc, if_neg (by omega)], ?_⟩
          rw [stay_snoc, if_neg (by omega), late_snoc, if_pos (by omega)]
          have h4 := ints_push h3.swap
          simpa using h4

set_option maxHeartbeats 1000000 in
theorem all_any (k : Env) (w : World) (R : Assn) (b : Nat) (sp : List Sp) (most : Int) (h : Sat k w (LineR b sp most * R)) :
    Calls Try.prog 23 #[.pointer (some ⟨b, 0, none⟩)] w fun e w' => ∃ v, e = .returned v ∧ Sat k w' (Ints v (sp.map (·.1)) * (LineR b sp most * R)) := by
  obtain ⟨a, cap, hm0, hm1, hlen, hs⟩ := line_open h
  have c1 := hs.cell2 1
  have c0 := hs.cell2 0
  simp at c0 c1
  go_enter Try.func23, Try.ntmps23
  go_wp2_with (go_at_call 36; refine (there_any _ _ _ hm0 c1).mono ?_; rintro e w' ⟨rfl, rfl⟩)
  go_loopw [3, 5, 14] (fun v _ i wr => ∃ j : Nat, j ≤ sp.length ∧ i = .int .i64 j ∧ Sat k wr (Own 3 1 v j (ints ((sp.take j).map (·.1))) * (Own 84 2 (.slice a sp.length cap) sp.length (spcs sp) * (blk b (.cells #[.slice a sp.length cap, .int .i64 most] 82 (0, 0)) * R)))) (fun _ _ i _ => sp.length - (intOf i).toNat)
  case atStart => exact ⟨0, Nat.zero_le _, rfl, own_nil hs⟩
  case round =>
    obtain ⟨j, hj, rfl, hr⟩ := hrel
    by_cases hlt : j < sp.length
    · obtain ⟨g, rfl, hg, d0, d1⟩ := spot_get hr.drop j hlt
      obtain ⟨va, vc, rfl⟩ := own_val hr
      have HT : Hid ((sp.take (j + 1)).map (·.1) = (sp.take j).map (·.1) ++ [sp[j].1]) := by
        unfold Hid; rw [List.take_succ_eq_append_getElem hlt, List.map_append]; rfl
      go_wp2_with (at_builtin; go_loud (refine wpList_append_sat TInts ((hr.alloc' _).alloc' _) (.tmp 18) (.tmp 21) _ 1 1 [.int .i64 sp[j].1] rfl rfl rfl rfl rfl (fun _ => ⟨_, rfl, new_cells_at _ _ _ _ (by simp)⟩) (ints_one [sp[j].1]) (by simp [maxLen]; omega) (by omega) ?_); intro a2 c2 w2 h2)
      go_roundw
      case rel => exact ⟨j + 1, by omega, by go_num, by rw [HT.out, ← ints_snoc]; exact h2⟩
      case measure => simp [intOf]; omega
    · obtain rfl : j = sp.length := by omega
      go_wp2
      go_ret
      rw [List.take_length] at hr
      refine ⟨_, rfl, ?_⟩
      unfold Ints
      rw [List.length_map]
      exact (line_close hr.swap.swap2 rfl rfl hm0 hm1 hlen).swap

theorem copy_any (k : Env) (w : World) (R : Assn) (b : Nat) (sp : List Sp) (most : Int) (h : Sat k w (LineR b sp most * R)) :
    Calls Try.prog 33 #[.pointer (some ⟨b, 0, none⟩)] w fun e w' => ∃ c, e = .returned (.pointer (some ⟨c, 0, none⟩)) ∧ Sat k w' (LineR c sp most * (LineR b sp most * R)) := by
  obtain ⟨a, cap, hm0, hm1, hlen, hs⟩ := line_open h
  have c1 := hs.cell2 1
  have c0 := hs.cell2 0
  simp at c0 c1
  obtain ⟨hc1, hc2⟩ := own_cap hs
  have HN : Hid (0 < sp.length → ∃ ad', a = some ad' ∧ ∀ j u, (spcs sp)[j]? = some u → w.drew.cell? (ad'.add j) = some u) := by
    intro hp
    obtain ⟨g, rfl, _, hc, _⟩ := own_get hs hp
    refine ⟨_, rfl, fun j u hu => ?_⟩
    have := (List.getElem?_eq_some_iff.1 hu).1
    rw [spcs_len] at this
    rw [Addr.add_lit, Nat.zero_add]
    exact (hc _ this).trans hu
  go_enter Try.func33, Try.ntmps33
  go_wp2_with (go_at_call 36; refine (there_any _ _ _ hm0 c1).mono ?_; rintro e w' ⟨rfl, rfl⟩)
  go_region_law (refine step_append_sat TSpot (own_nil hs.drew) (.const (.slice none 0 0)) (.tmp 9) a sp.length cap (spcs sp) rfl rfl rfl (by simp [Act.eval, Act.put]) (spcs_len _) HN.out (spcs_one _) (by unfold maxLen at *; omega) (by omega) ?_; intro a2 c2 w2 h2; simp only [Nat.zero_add, List.nil_append] at h2; have d2 := h2.drop.cell2 1; simp at d2)
  all_goals (go_wp2; go_ret)
  all_goals
    refine ⟨_, rfl, ?_⟩
    have h3 := line_close (h2.alloc _).swap (sp := sp) (most := most) rfl rfl hm0 hm1 hlen
    exact (line_close h3.swap.swap2 rfl rfl hm0 hm1 hlen).swap

section
variable (k : Env) (w : World) (R : Assn) (id til : Int)
theorem place_nil : Calls Try.prog 34 #[.pointer none, .int .i64 id] w fun e w' => e = .returned (.int .i64 (-1)) ∧ w = w' := by
  go_enter Try.func34, Try.ntmps34
  go_wp2_with (go_at_call 36; refine (there_nil _).mono ?_; rintro e w' ⟨rfl, rfl⟩)
  go_ret
  exact ⟨rfl, rfl⟩
theorem join_nil : Calls Try.prog 27 #[.pointer none, .int .i64 id, .int .i64 til] w fun e w' => e = .returned (.int .i64 12) ∧ w = w' := by
  go_enter Try.func27, Try.ntmps27
  go_wp2_with (go_at_call 36; refine (there_nil _).mono ?_; rintro e w' ⟨rfl, rfl⟩)
  go_ret
  exact ⟨rfl, rfl⟩
theorem first_nil : Calls Try.prog 28 #[.pointer none] w fun e w' => e = .returned (.tuple #[.int .i64 0, .bool false]) ∧ w = w' := by
  go_enter Try.func28, Try.ntmps28
  go_wp2_with (go_at_call 36; refine (there_nil _).mono ?_; rintro e w' ⟨rfl, rfl⟩)
  go_ret2
  exact ⟨rfl, rfl⟩
theorem leave_nil : Calls Try.prog 30 #[.pointer none, .int .i64 id] w fun e w' => e = .returned (.bool false) ∧ w = w' := by
  go_enter Try.func30, Try.ntmps30
  go_wp2_with (go_at_call 34; refine (place_nil _ _).mono ?_; rintro e w' ⟨rfl, rfl⟩)
  go_ret
  exact ⟨rfl, rfl⟩
theorem late_nil : Calls Try.prog 31 #[.pointer none, .int .i64 til] w fun e w' => e = .returned (.slice none 0 0) ∧ w = w' := by
  go_enter Try.func31, Try.ntmps31
  go_wp2_with (go_at_call 36; refine (there_nil _).mono ?_; rintro e w' ⟨rfl, rfl⟩)
  go_ret
  exact ⟨rfl, rfl⟩
theorem copy_nil : Calls Try.prog 33 #[.pointer none] w fun e w' => e = .returned (.pointer none) ∧ w = w' := by
  go_enter Try.func33, Try.ntmps33
  go_wp2_with (go_at_call 36; refine (there_nil _).mono ?_; rintro e w' ⟨rfl, rfl⟩)
  go_ret
  exact ⟨rfl, rfl⟩
variable {w : World} {b : Nat} (h : w.cell? ⟨b, 1, none⟩ = some (.int .i64 0))
include h
theorem place_zero : Calls Try.prog 34 #[.pointer (some ⟨b, 0, none⟩), .int .i64 id] w fun e w' => e = .returned (.int .i64 (-1)) ∧ w = w' := by
  go_enter Try.func34, Try.ntmps34
  go_wp2_with (go_at_call 36; refine (there_zero _ _ h).mono ?_; rintro e w' ⟨rfl, rfl⟩)
  go_ret
  exact ⟨rfl, rfl⟩
theorem join_zero : Calls Try.prog 27 #[.pointer (some ⟨b, 0, none⟩), .int .i64 id, .int .i64 til] w fun e w' => e = .returned (.int .i64 12) ∧ w = w' := by
  go_enter Try.func27, Try.ntmps27
  go_wp2_with (go_at_call 36; refine (there_zero _ _ h).mono ?_; rintro e w' ⟨rfl, rfl⟩)
  go_ret
  exact ⟨rfl, rfl⟩
theorem first_zero : Calls Try.prog 28 #[.pointer (some ⟨b, 0, none⟩)] w fun e w' => e = .returned (.tuple #[.int .i64 0, .bool false]) ∧ w = w' := by
  go_enter Try.func28, Try.ntmps28
  go_wp2_with (go_at_call 36; refine (there_zero _ _ h).mono ?_; rintro e w' ⟨rfl, rfl⟩)
  go_ret2
  exact ⟨rfl, rfl⟩
theorem leave_zero : Calls Try.prog 30 #[.pointer (some ⟨b, 0, none⟩), .int .i64 id] w fun e w' => e = .returned (.bool false) ∧ w = w' := by
  go_enter Try.func30, Try.ntmps30
  go_wp2_with (go_at_call 34; refine (place_zero _ h).mono ?_; rintro e w' ⟨rfl, rfl⟩)
  go_ret
  exact ⟨rfl, rfl⟩
theorem all_zero : Calls Try.prog 23 #[.pointer (some ⟨b, 0, none⟩)] w fun e w' => e = .returned (.slice none 0 0) ∧ w = w' := by
  go_enter Try.func23, Try.ntmps23
  go_wp2_with (go_at_call 36; refine (there_zero _ _ h).mono ?_; rintro e w' ⟨rfl, rfl⟩)
  go_ret
  exact ⟨rfl, rfl⟩
theorem copy_zero : Calls Try.prog 33 #[.pointer (some ⟨b, 0, none⟩)] w fun e w' => e = .returned (.pointer none) ∧ w = w' := by
  go_enter Try.func33, Try.ntmps33
  go_wp2_with (go_at_call 36; refine (there_zero _ _ h).mono ?_; rintro e w' ⟨rfl, rfl⟩)
  go_ret
  exact ⟨rfl, rfl⟩
end

end Go.Proofs.Yticponkpgaofnaa
