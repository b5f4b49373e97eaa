/- Contracts of package line: Join, cut, First, Leave. -/
import Derived.Test.YticponkpgaofnaaLineA
namespace Go.Proofs.Yticponkpgaofnaa
set_option linter.all false
open Go Go.RowKit

theorem plc_range (id : Int) (l : List Sp) (i : Nat) : plc id l i = -1 ∨ ((i : Int) ≤ plc id l i ∧ plc id l i < i + l.length) := by
  induction l generalizing i with
  | nil => exact .inl rfl
  | cons s r ih =>
    simp only [plc, List.length_cons]
    split
    · right; omega
    · rcases ih (i + 1) with h | h
      · exact .inl h
      · right; omega

def joinE (sp : List Sp) (most id til : Int) : Int :=
  if til < 0 ∨ 1099511627776 < til then 1 else if plc id sp 0 ≠ -1 then 9 else if most ≤ sp.length then 11 else 0
def joinL (sp : List Sp) (most id til : Int) : List Sp := if joinE sp most id til = 0 then sp ++ [(id, til)] else sp

set_option maxHeartbeats 1000000 in
theorem join_any (k : Env) (w : World) (R : Assn) (b : Nat) (sp : List Sp) (most id til : Int) (h : Sat k w (LineR b sp most * R)) :
    Calls Try.prog 27 #[.pointer (some ⟨b, 0, none⟩), .int .i64 id, .int .i64 til] w fun e w' => e = .returned (.int .i64 (joinE sp most id til)) ∧ Sat k w' (LineR b (joinL sp most id til) most * R) := by
  obtain ⟨a, cap, hm0, hm1, hlen, hs⟩ := line_open h
  have c1 := hs.drop.cell 1
  simp at c1
  by_cases ht : til < 0 ∨ 1099511627776 < til
  · have e1 : joinE sp most id til = 1 := by rw [joinE, if_pos ht]
    have e2 : joinL sp most id til = sp := by rw [joinL, if_neg (by omega)]
    rw [e1, e2]
    clear e1 e2
    rcases ht with ht | ht
    · go_enter Try.func27, Try.ntmps27
      go_wp2_with (go_at_call 36; refine (there_any _ _ _ hm0 c1).mono ?_; rintro e w' ⟨rfl, rfl⟩)
      go_ret
      exact ⟨rfl, h⟩
    · have ht' : ¬ til < 0 := by omega
      go_enter Try.func27, Try.ntmps27
      go_wp2_with (go_at_call 36; refine (there_any _ _ _ hm0 c1).mono ?_; rintro e w' ⟨rfl, rfl⟩)
      go_ret
      exact ⟨rfl, h⟩
  · have ht1 : ¬ til < 0 := by omega
    have ht2 : ¬ 1099511627776 < til := by omega
    by_cases hp : plc id sp 0 = -1
    · by_cases hf : most ≤ sp.length
      · have e1 : joinE sp most id til = 11 := by rw [joinE, if_neg ht, if_neg (by omega), if_pos hf]
        have e2 : joinL sp most id til = sp := by rw [joinL, if_neg (by omega)]
        rw [e1, e2]
        clear e1 e2 ht
        go_enter Try.func27, Try.ntmps27
        go_wp2_with (go_at_call 36; refine (there_any _ _ _ hm0 c1).mono ?_; rintro e w' ⟨rfl, rfl⟩)
        refine (place_any k _ R b sp most id h).mono ?_
        rintro e w1 ⟨rfl, h1⟩
        rw [hp]
        clear hs c1 hp
        obtain ⟨a, cap, _, _, _, hs⟩ := line_open h1
        have c1 := hs.drop.cell 1
        have c0 := hs.drop.cell 0
        simp at c1 c0
        go_wp2_with fail
        go_quiet (fail)
        go_wp2
        go_ret
        exact ⟨rfl, h1.drewN _⟩
      · have e1 : joinE sp most id til = 0 := by rw [joinE, if_neg ht, if_neg (by omega), if_neg hf]
        have e2 : joinL sp most id til = sp ++ [(id, til)] := by rw [joinL, if_pos e1]
        rw [e1, e2]
        clear e1 e2 ht
        go_enter Try.func27, Try.ntmps27
        go_wp2_with (go_at_call 36; refine (there_any _ _ _ hm0 c1).mono ?_; rintro e w' ⟨rfl, rfl⟩)
        refine (place_any k _ R b sp most id h).mono ?_
        rintro e w1 ⟨rfl, h1⟩
        rw [hp]
        clear hs c1 hp
        obtain ⟨a, cap, _, _, _, hs⟩ := line_open h1
        have c1 := hs.drop.cell 1
        have c0 := hs.drop.cell 0
        have f0 := hs.drop.frozen 0
        have hsz := hs.drop.lt
        simp at c1 c0
        go_wp2_with fail
        go_quiet (fail)
        go_wp2_with (at_builtin; refine wpList_append_sat TSpot ((hs.drewN _).alloc _).drop (.tmp 38) (.tmp 42) _ 1 1 [.int .i64 id, .int .i64 til] rfl rfl rfl rfl rfl (fun _ => ⟨_, rfl, new_cells _ _ _⟩) (spcs_one [(id, til)]) (by simp [maxLen]; omega) (by omega) ?_; intro a2 c2 w2 h2; have d2 := h2.drop.cell 0; have f2 := h2.drop.frozen 0; simp at d2)
        go_ret
        exact ⟨rfl, line_close (h2.set2 0 _) (by simp) (by rw [spcs_append]; rfl) hm0 hm1 (by simp; omega)⟩
    · have e1 : joinE sp most id til = 9 := by rw [joinE, if_neg ht, if_pos hp]
      have e2 : joinL sp most id til = sp := by rw [joinL, if_neg (by omega)]
      rw [e1, e2]
      clear e1 e2 ht
      go_enter Try.func27, Try.ntmps27
      go_wp2_with (go_at_call 36; refine (there_any _ _ _ hm0 c1).mono ?_; rintro e w' ⟨rfl, rfl⟩)
      refine (place_any k _ R b sp most id h).mono ?_
      rintro e w1 ⟨rfl, h1⟩
      have hp' : (plc id sp 0 != -1) = true := by simpa using hp
      go_wp2_with fail
      go_ret
      exact ⟨rfl, h1⟩

set_option maxHeartbeats 1000000 in
theorem cut_any (k : Env) (w : World) (R : Assn) (b : Nat) (sp : List Sp) (most : Int) (i : Nat) (hi : i < sp.length) (h : Sat k w (LineR b sp most * R)) :
    Calls Try.prog 37 #[.pointer (some ⟨b, 0, none⟩), .int .i64 i] w fun e w' => e = .returned (.tuple #[]) ∧ Sat k w' (LineR b (sp.take i ++ sp.drop (i + 1)) most * R) := by
  obtain ⟨a, cap, hm0, hm1, hlen, hs⟩ := line_open h
  obtain ⟨hc1, hc2⟩ := own_cap hs
  obtain ⟨g, rfl, hg, hc, hf⟩ := own_get hs (by omega)
  have c0 := hs.cell2 0
  have f0 := hs.frozen2 0
  simp at c0
  have hsub := own_sub (m := i) (c := i) hs (by omega) (by omega) (by omega) (by omega)
  rw [spcs_take] at hsub
  -- where 's[i+1:]' begins: at the array's end the old address stays
  obtain ⟨A, hA, hnews⟩ : ∃ A : Addr, (if cap = i + 1 then some (⟨g, 0, none⟩ : Addr) else some ⟨g, (i + 1) * 2, none⟩) = some A ∧ RowKit.Hid (0 < sp.length - (i + 1) → ∃ ad', some A = some ad' ∧ ∀ j u, (spcs (sp.drop (i + 1)))[j]? = some u → w.drew.cell? (ad'.add j) = some u) := by
    by_cases h : cap = i + 1
    · exact ⟨⟨g, 0, none⟩, by simp [h], fun h' => by omega⟩
    · refine ⟨⟨g, (i + 1) * 2, none⟩, by simp [h], fun _ => ⟨_, rfl, fun j u hu => ?_⟩⟩
      rw [← spcs_drop, List.getElem?_drop] at hu
      have := (List.getElem?_eq_some_iff.1 hu).1
      rw [spcs_len] at this
      rw [Addr.add_lit]
      exact (hc _ (by omega)).trans hu
  have hwr : IntKind.i64.wrap ((i : Int) + 1) = (i : Int) + 1 := by rw [IntKind.wrap_i64]; unfold maxLen at hc2; omega
  have hp0 : (0 : Int) ≤ (i : Int) + 1 := by omega
  have hp1 : (i : Int) + 1 ≤ (sp.length : Int) := by omega
  have hp2 : ((i : Int) + 1).toNat = i + 1 := by omega
  have hcap : (i : Int) ≤ cap := by omega
  clear hc
  go_enter Try.func37, Try.ntmps37
  go_wp2_with fail
  go_region_law (refine step_append_sat TSpot hsub.drew (.tmp 11) (.tmp 18) (some A) (sp.length - (i + 1)) (cap - (i + 1)) (spcs (sp.drop (i + 1))) rfl rfl (by simp [Act.eval, Act.put]) (by simp [Act.eval, Act.put]) (by simp [spcs_len]) hnews.out (spcs_one _) (by omega) (by omega) ?_; intro a2 c2 w2 h2; have d2 := h2.cell2 0; have f2 := h2.frozen2 0; simp at d2)
  all_goals (go_wp2; go_end0)
  all_goals exact ⟨rfl, line_close (h2.set2 0 _) (by simp; omega) (by rw [spcs_append]) hm0 hm1 (by simp; omega)⟩

theorem take_drop_len {α : Type} (l : List α) (i : Nat) (h : i < l.length) : (l.take i ++ l.drop (i + 1)).length = l.length - 1 := by
  simp; omega

/-- Who is first, and those behind. -/
theorem first_any (k : Env) (w : World) (R : Assn) (b : Nat) (s : Sp) (sp : List Sp) (most : Int) (h : Sat k w (LineR b (s :: sp) most * R)) :
    Calls Try.prog 28 #[.pointer (some ⟨b, 0, none⟩)] w fun e w' => e = .returned (.tuple #[.int .i64 s.1, .bool true]) ∧ Sat k w' (LineR b sp most * R) := by
  obtain ⟨a, cap, hm0, hm1, hlen, hs⟩ := line_open h
  obtain ⟨g, rfl, hg, d0, d1⟩ := spot_get hs 0 (by simp)
  have c0 := hs.cell2 0
  have c1 := hs.cell2 1
  have hz : ((((s :: sp).length : Nat) : Int) == 0) = false := by simp; omega
  have hp : 0 < (s :: sp).length := by simp
  simp only [List.getElem?_toArray, List.getElem?_cons_zero, List.getElem?_cons_succ] at c0 c1
  simp only [List.getElem_cons_zero] at d0
  clear hg d1 hs
  generalize hn : (s :: sp).length = n at *
  clear hn
  go_enter Try.func28, Try.ntmps28
  go_wp2_with (go_at_call 36; refine (there_any _ _ _ hm0 c1).mono ?_; rintro e w' ⟨rfl, rfl⟩)
  refine (cut_any k _ R b (s :: sp) most 0 (by simp) h).mono ?_
  rintro e w1 ⟨rfl, h2⟩
  go_wp2_with fail
  go_ret2
  exact ⟨rfl, h2⟩

theorem first_nobody (k : Env) (w : World) (R : Assn) (b : Nat) (most : Int) (h : Sat k w (LineR b [] most * R)) :
    Calls Try.prog 28 #[.pointer (some ⟨b, 0, none⟩)] w fun e w' => e = .returned (.tuple #[.int .i64 0, .bool false]) ∧ Sat k w' (LineR b [] most * R) := by
  obtain ⟨a, cap, hm0, hm1, hlen, hs⟩ := line_open h
  have c0 := hs.cell2 0
  have c1 := hs.cell2 1
  simp at c0 c1
  go_enter Try.func28, Try.ntmps28
  go_wp2_with (go_at_call 36; refine (there_any _ _ _ hm0 c1).mono ?_; rintro e w' ⟨rfl, rfl⟩)
  go_ret2
  exact ⟨rfl, h⟩

def leaveL (id : Int) (sp : List Sp) : List Sp := if plc id sp 0 = -1 then sp else sp.take (plc id sp 0).toNat ++ sp.drop ((plc id sp 0).toNat + 1)

theorem leave_any (k : Env) (w : World) (R : Assn) (b : Nat) (sp : List Sp) (most id : Int) (h : Sat k w (LineR b sp most * R)) :
    Calls Try.prog 30 #[.pointer (some ⟨b, 0, none⟩), .int .i64 id] w fun e w' => e = .returned (.bool (decide (plc id sp 0 ≠ -1))) ∧ Sat k w' (LineR b (leaveL id sp) most * R) := by
  by_cases hp : plc id sp 0 = -1
  · rw [leaveL, if_pos hp]
    have hp' : (plc id sp 0 == -1) = true := by simpa using hp
    have hd : decide (plc id sp 0 ≠ -1) = false := by simpa using hp
    rw [hd]
    clear hp hd
    go_enter Try.func30, Try.ntmps30
    go_wp2_with fail
    refine (place_any k w R b sp most id h).mono ?_
    rintro e w1 ⟨rfl, h1⟩
    go_wp2_with fail
    go_ret
    exact ⟨rfl, h1⟩
  · rw [leaveL, if_neg hp]
    have hp' : (plc id sp 0 == -1) = false := by simpa using hp
    have hd : decide (plc id sp 0 ≠ -1) = true := by simpa using hp
    rw [hd]
    obtain ⟨i, hi⟩ : ∃ i : Nat, plc id sp 0 = i := ⟨(plc id sp 0).toNat, by rcases plc_range id sp 0 with h | h <;> omega⟩
    have hil : i < sp.length := by rcases plc_range id sp 0 with h | h <;> omega
    rw [hi] at hp' ⊢
    clear hp hd
    go_enter Try.func30, Try.ntmps30
    go_wp2_with fail
    refine (place_any k w R b sp most id h).mono ?_
    rintro e w1 ⟨rfl, h1⟩
    rw [hi]
    clear hi
    go_wp2_with fail
    refine (cut_any k _ R b sp most i hil h1).mono ?_
    rintro e w1 ⟨rfl, h2⟩
    go_wp2_with fail
    go_ret
    exact ⟨rfl, h2⟩

end Go.Proofs.Yticponkpgaofnaa
