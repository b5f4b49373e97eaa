/- Contracts of the document's line. -/
import Derived.Test.YtmiekmgicfnooaaLinePl
import Derived.Deep.LoopGhost
namespace Go.Proofs.Ytmiekmgicfnooaa
open Go Go.RowKit

theorem TRSpot : SliceT Try.prog 56 60 (.agg #[.int .i64 0, .int .i64 0]) 2 16 := ⟨by kernel_rfl, by kernel_rfl, rfl, by decide⟩

def RefR (b : Nat) (sp : List Sp) (most : Int) : Assn :=
  ex fun v => pur (0 < most ∧ most ≤ 10000 ∧ (sp.length : Int) ≤ most) * (blk b (.cells #[v, .int .i64 most] 58 (0, 0)) * Own 60 2 v sp.length (spcs sp))

section
variable {k : Env} {w : World} {b : Nat} {sp : List Sp} {most : Int} {R : Assn}
theorem ref_open (h : Sat k w (RefR b sp most * R)) :
    ∃ a cap, 0 < most ∧ most ≤ 10000 ∧ (sp.length : Int) ≤ most ∧ Sat k w (Own 60 2 (.slice a sp.length cap) sp.length (spcs sp) * (blk b (.cells #[.slice a sp.length cap, .int .i64 most] 58 (0, 0)) * R)) := by
  obtain ⟨v, h⟩ := Sat.ex.1 h
  simp only [star_assoc] at h
  obtain ⟨⟨a, b, c⟩, h⟩ := Sat.pure.1 h
  rw [star_left_comm] at h
  obtain ⟨a', cap, rfl⟩ := own_val h
  exact ⟨a', cap, a, b, c, h⟩
theorem ref_close {v : Value} {n : Nat} {xs : List Value} (h : Sat k w (Own 60 2 v n xs * (blk b (.cells #[v, .int .i64 most] 58 (0, 0)) * R)))
    (hn : n = sp.length) (hx : xs = spcs sp) (h0 : 0 < most) (h1 : most ≤ 10000) (h2 : (sp.length : Int) ≤ most) : Sat k w (RefR b sp most * R) := by
  subst hn; subst hx
  rw [star_left_comm] at h
  exact Sat.ex.2 ⟨v, by simp only [star_assoc]; exact Sat.pure.2 ⟨⟨h0, h1, h2⟩, h⟩⟩
end

theorem rnew_bad (k : Env) (w : World) (R : Assn) (most : Int) (h : most < 1 ∨ 10000 < most) (hs : Sat k w R) :
    Calls Try.prog 17 #[.int .i64 most] w fun e w' => ∃ b, e = .returned (.tuple #[.pointer (some ⟨b, 0, none⟩), .int .i64 1]) ∧ Sat k w' R := by
  rcases h with h | h
  · go_enter Try.func17, Try.ntmps17
    go_wp2
    go_ret2
    first | exact ⟨_, rfl, hs.alloc' _⟩ | exact ⟨⟨_, rfl⟩, hs.alloc' _⟩
  · have h' : ¬ most < 1 := by omega
    go_enter Try.func17, Try.ntmps17
    go_wp2
    go_ret2
    first | exact ⟨_, rfl, hs.alloc' _⟩ | exact ⟨⟨_, rfl⟩, hs.alloc' _⟩
theorem rnew_any (k : Env) (w : World) (R : Assn) (most : Int) (h0 : 1 ≤ most) (h1 : most ≤ 10000) (h : Sat k w R) :
    Calls Try.prog 17 #[.int .i64 most] w fun e w' => ∃ b, e = .returned (.tuple #[.pointer (some ⟨b, 0, none⟩), .int .i64 0]) ∧ Sat k w' (RefR b [] most * R) := by
  have h0' : ¬ most < 1 := by omega
  have h1' : ¬ 10000 < most := by omega
  go_enter Try.func17, Try.ntmps17
  go_wp2
  go_ret2
  exact ⟨_, rfl, ref_close (own_nil (h.alloc _)) rfl rfl (by omega) h1 (by simp; omega)⟩

set_option maxHeartbeats 400000 in
theorem rplace_any (k : Env) (w : World) (R : Assn) (b : Nat) (sp : List Sp) (most id : Int) (h : Sat k w (RefR b sp most * R)) :
    Calls Try.prog 23 #[.pointer (some ⟨b, 0, none⟩), .int .i64 id] w fun e w' => e = .returned (.int .i64 (plc id sp 0)) ∧ Sat k w' (RefR b sp most * R) := by
  obtain ⟨a, cap, hm0, hm1, hlen, hs⟩ := ref_open h
  have c0 := hs.cell2 0
  simp at c0
  go_enter Try.func23, Try.ntmps23
  go_wp2_with fail
  go_loopw [5] (fun i wr => ∃ j : Nat, j ≤ sp.length ∧ i = .int .i64 j ∧ Hid (plc id sp 0 = plc id (sp.drop j) j) ∧ wr = w) (fun i _ => sp.length - (intOf i).toNat)
  case atStart => exact ⟨0, Nat.zero_le _, rfl, rfl, rfl⟩
  case round =>
    obtain ⟨j, hj, rfl, Hp, rfl⟩ := hrel
    by_cases hlt : j < sp.length
    · obtain ⟨g, rfl, hg, d0, d1⟩ := spot_get hs j hlt
      go_wp2
      · go_ret
        rename_i hq
        refine ⟨ret_int ?_, h⟩
        rw [Hp.out, plc_drop _ _ _ hlt, if_pos (by simpa using hq)]
      · rename_i hq
        go_roundw
        case rel => exact ⟨j + 1, by omega, by go_num, by unfold Hid; rw [Hp.out, plc_drop _ _ _ hlt, if_neg (by simpa using hq)], by first | rfl | trivial⟩
        case measure => simp [intOf]; omega
    · obtain rfl : j = sp.length := by omega
      go_wp2
      go_ret
      exact ⟨ret_int (by rw [Hp.out]; simp [plc]), h⟩

set_option maxHeartbeats 1000000 in
theorem rjoin_any (k : Env) (w : World) (R : Assn) (b : Nat) (sp : List Sp) (most id til : Int) (h : Sat k w (RefR b sp most * R)) :
    Calls Try.prog 18 #[.pointer (some ⟨b, 0, none⟩), .int .i64 id, .int .i64 til] w fun e w' => e = .returned (.int .i64 (joinE sp most id til)) ∧ Sat k w' (RefR b (joinL sp most id til) most * R) := by
  by_cases ht : til < 0 ∨ 1099511627776 < til
  · have e1 : joinE sp most id til = 1 := by rw [joinE, if_pos ht]
    have e2 : joinL sp most id til = sp := by rw [joinL, if_neg (by omega)]
    rw [e1, e2]
    clear e1 e2
    rcases ht with ht | ht
    · go_enter Try.func18, Try.ntmps18
      go_wp2_with fail
      go_ret
      exact ⟨rfl, h⟩
    · have ht' : ¬ til < 0 := by omega
      go_enter Try.func18, Try.ntmps18
      go_wp2_with fail
      go_ret
      exact ⟨rfl, h⟩
  · have ht1 : ¬ til < 0 := by omega
    have ht2 : ¬ 1099511627776 < til := by omega
    by_cases hp : plc id sp 0 = -1
    · by_cases hf : most ≤ sp.length
      · have e1 : joinE sp most id til = 11 := by rw [joinE, if_neg ht, if_neg (by omega), if_pos hf]
        have e2 : joinL sp most id til = sp := by rw [joinL, if_neg (by omega)]
        rw [e1, e2]
        clear e1 e2 ht
        go_enter Try.func18, Try.ntmps18
        go_wp2_with fail
        refine (rplace_any k _ R b sp most id h).mono ?_
        rintro e w1 ⟨rfl, h1⟩
        rw [hp]
        clear hp
        obtain ⟨a, cap, _, _, _, hs⟩ := ref_open h1
        have c1 := hs.drop.cell 1
        have c0 := hs.drop.cell 0
        simp at c1 c0
        go_wp2_with fail
        go_quiet (fail)
        go_wp2
        go_ret
        exact ⟨rfl, h1.drewN _⟩
      · have e1 : joinE sp most id til = 0 := by rw [joinE, if_neg ht, if_neg (by omega), if_neg hf]
        have e2 : joinL sp most id til = sp ++ [(id, til)] := by rw [joinL, if_pos e1]
        rw [e1, e2]
        clear e1 e2 ht
        go_enter Try.func18, Try.ntmps18
        go_wp2_with fail
        refine (rplace_any k _ R b sp most id h).mono ?_
        rintro e w1 ⟨rfl, h1⟩
        rw [hp]
        clear hp
        obtain ⟨a, cap, hm0, hm1, _, hs⟩ := ref_open h1
        have c1 := hs.drop.cell 1
        have c0 := hs.drop.cell 0
        simp at c1 c0
        go_wp2_with fail
        go_quiet (fail)
        go_wp2_with (at_builtin; refine wpList_append_sat TRSpot ((hs.drewN _).alloc _).drop (.tmp 31) (.tmp 35) _ 1 1 [.int .i64 id, .int .i64 til] rfl rfl rfl rfl rfl (fun _ => ⟨_, rfl, new_cells _ _ _⟩) (spcs_one [(id, til)]) (by simp [maxLen]; omega) (by omega) ?_; intro a2 c2 w2 h2; have d2 := h2.drop.cell 0; have f2 := h2.drop.frozen 0; simp at d2)
        go_ret
        exact ⟨rfl, ref_close (h2.set2 0 _) (by simp) (by rw [spcs_append]; rfl) hm0 hm1 (by simp; omega)⟩
    · have e1 : joinE sp most id til = 9 := by rw [joinE, if_neg ht, if_pos hp]
      have e2 : joinL sp most id til = sp := by rw [joinL, if_neg (by omega)]
      have hp' : 0 ≤ plc id sp 0 := by rcases plc_range id sp 0 with h' | h' <;> omega
      rw [e1, e2]
      clear e1 e2 ht
      go_enter Try.func18, Try.ntmps18
      go_wp2_with fail
      refine (rplace_any k _ R b sp most id h).mono ?_
      rintro e w1 ⟨rfl, h1⟩
      go_wp2_with fail
      go_ret
      exact ⟨rfl, h1⟩

def restF (id : Int) (sp : List Sp) : List Sp := sp.filter (fun s => decide (s.1 ≠ id))
theorem restF_snoc (id : Int) (d : List Sp) (s : Sp) : restF id (d ++ [s]) = if s.1 ≠ id then restF id d ++ [s] else restF id d := by
  simp only [restF, List.filter_append, List.filter_cons, List.filter_nil]
  split <;> simp_all
theorem restF_len (id : Int) (d : List Sp) : (restF id d).length ≤ d.length := List.length_filter_le _ _

theorem spc_eq (s : Sp) : [Value.int .i64 s.1, Value.int .i64 s.2] = spcs [s] := rfl
theorem spcs_snoc (l : List Sp) (s : Sp) : spcs l ++ [Value.int .i64 s.1, Value.int .i64 s.2] = spcs (l ++ [s]) := by rw [spcs_append]; rfl

set_option maxHeartbeats 1000000 in
theorem rleave_any (k : Env) (w : World) (R : Assn) (b : Nat) (sp : List Sp) (most id : Int) (h : Sat k w (RefR b sp most * R)) :
    Calls Try.prog 20 #[.pointer (some ⟨b, 0, none⟩), .int .i64 id] w fun e w' => e = .returned (.bool (decide ((restF id sp).length < sp.length))) ∧ Sat k w' (RefR b (restF id sp) most * R) := by
  obtain ⟨a, cap, hm0, hm1, hlen, hs⟩ := ref_open h
  go_enter Try.func20, Try.ntmps20
  go_wp2_with fail
  go_loopw [5, 6] (fun v i wr => ∃ j : Nat, j ≤ sp.length ∧ i = .int .i64 j ∧ Sat k wr (Own 60 2 v (restF id (sp.take j)).length (spcs (restF id (sp.take j))) * (Own 60 2 (.slice a sp.length cap) sp.length (spcs sp) * (blk b (.cells #[.slice a sp.length cap, .int .i64 most] 58 (0, 0)) * R)))) (fun _ i _ => sp.length - (intOf i).toNat)
  case atStart => exact ⟨0, Nat.zero_le _, rfl, own_nil hs⟩
  case round =>
    obtain ⟨j, hj, rfl, hr⟩ := hrel
    have c0 := hr.drop.cell2 0
    simp at c0
    have hb : (restF id (sp.take j)).length ≤ sp.length := by have := restF_len id (sp.take j); simp at this; omega
    obtain ⟨va, vc, rfl⟩ := own_val hr
    by_cases hlt : j < sp.length
    · obtain ⟨g, rfl, hg, d0, d1⟩ := spot_get hr.drop j hlt
      have HT : Hid (sp.take (j + 1) = sp.take j ++ [sp[j]]) := List.take_succ_eq_append_getElem hlt
      by_cases hq : sp[j].1 = id
      · have HQ : Hid (restF id (sp.take (j + 1)) = restF id (sp.take j)) := by unfold Hid; rw [HT.out, restF_snoc, if_neg (by simpa using hq)]
        have hqb : (sp[j].1 != id) = false := by simpa using hq
        clear hq
        go_wp2_with fail
        go_roundw
        case rel => exact ⟨j + 1, by omega, by go_num, by rw [HQ.out]; exact hr⟩
        case measure => simp [intOf]; omega
      · have HQ : Hid (restF id (sp.take (j + 1)) = restF id (sp.take j) ++ [sp[j]]) := by unfold Hid; rw [HT.out, restF_snoc, if_pos hq]
        have hqb : (sp[j].1 != id) = true := by simpa using hq
        go_wp2_with (at_builtin; refine wpList_append_sat TRSpot (hr.alloc' _) (.tmp 27) (.tmp 35) _ 1 1 [.int .i64 sp[j].1, .int .i64 sp[j].2] rfl rfl rfl rfl rfl (fun _ => ⟨_, rfl, new_cells_at _ _ _ _ (by simp)⟩) (spcs_one [sp[j]]) (by simp [maxLen]; omega) (by omega) ?_; intro a2 c2 w2 h2)
        go_roundw
        case rel => exact ⟨j + 1, by omega, by go_num, by rw [HQ.out, ← spcs_snoc, List.length_append]; exact h2⟩
        case measure => simp [intOf]; omega
    · obtain rfl : j = sp.length := by omega
      rw [List.take_length] at hr hb
      simp only [List.take_length]
      have c0 := hr.drop.cell2 0
      have f0 := hr.drop.frozen2 0
      simp at c0
      go_wp2_with fail
      go_ret
      refine ⟨?_, ref_close (hr.swap.drop.set2 0 _) rfl rfl hm0 hm1 (by omega)⟩
      simp

set_option maxHeartbeats 400000 in
theorem rfirst_any (k : Env) (w : World) (R : Assn) (b : Nat) (s : Sp) (sp : List Sp) (most : Int) (h : Sat k w (RefR b (s :: sp) most * R)) :
    Calls Try.prog 19 #[.pointer (some ⟨b, 0, none⟩)] w fun e w' => e = .returned (.tuple #[.int .i64 s.1, .bool true]) ∧ Sat k w' (RefR b (restF s.1 (s :: sp)) most * R) := by
  obtain ⟨a, cap, hm0, hm1, hlen, hs⟩ := ref_open h
  obtain ⟨g, rfl, hg, d0, d1⟩ := spot_get hs 0 (by simp)
  have c0 := hs.cell2 0
  have hz : ((((s :: sp).length : Nat) : Int) == 0) = false := by simp; omega
  have hp : 0 < (s :: sp).length := by simp
  simp only [List.getElem?_toArray, List.getElem?_cons_zero, List.getElem?_cons_succ] at c0
  simp only [List.getElem_cons_zero] at d0
  clear hg d1 hs hlen
  generalize hn : (s :: sp).length = n at *
  clear hn
  go_enter Try.func19, Try.ntmps19
  go_wp2_with fail
  refine (rleave_any k _ R b (s :: sp) most _ h).mono ?_
  rintro e w1 ⟨rfl, h2⟩
  go_wp2_with fail
  go_ret2
  exact ⟨rfl, h2⟩

theorem rfirst_nobody (k : Env) (w : World) (R : Assn) (b : Nat) (most : Int) (h : Sat k w (RefR b [] most * R)) :
    Calls Try.prog 19 #[.pointer (some ⟨b, 0, none⟩)] w fun e w' => e = .returned (.tuple #[.int .i64 0, .bool false]) ∧ Sat k w' (RefR b [] most * R) := by
  obtain ⟨a, cap, hm0, hm1, hlen, hs⟩ := ref_open h
  have c0 := hs.cell2 0
  simp at c0
  go_enter Try.func19, Try.ntmps19
  go_wp2_with fail
  go_ret2
  exact ⟨rfl, h⟩

set_option maxHeartbeats 1000000 in
theorem rlate_any (k : Env) (w : World) (R : Assn) (b : Nat) (sp : List Sp) (most now : Int) (h : Sat k w (RefR b sp most * R)) :
    Calls Try.prog 21 #[.pointer (some ⟨b, 0, none⟩), .int .i64 now] w fun e w' => ∃ v, e = .returned v ∧ Sat k w' (Ints v (lateF now sp) * (RefR b (stayF now sp) most * R)) := by
  obtain ⟨a, cap, hm0, hm1, hlen, hs⟩ := ref_open h
  go_enter Try.func21, Try.ntmps21
  go_wp2_with fail
  go_loopw [5, 6, 7] (fun lv v i wr => ∃ j : Nat, j ≤ sp.length ∧ i = .int .i64 j ∧ Sat k wr (Ints lv (lateF now (sp.take j)) * (Own 60 2 v (stayF now (sp.take j)).length (spcs (stayF now (sp.take j))) * (Own 60 2 (.slice a sp.length cap) sp.length (spcs sp) * (blk b (.cells #[.slice a sp.length cap, .int .i64 most] 58 (0, 0)) * R))))) (fun _ _ i _ => sp.length - (intOf i).toNat)
  case atStart => exact ⟨0, Nat.zero_le _, rfl, own_nil (own_nil hs)⟩
  case round =>
    obtain ⟨j, hj, rfl, hr⟩ := hrel
    have c0 := hr.drop.drop.cell2 0
    simp at c0
    have hb : (stayF now (sp.take j)).length ≤ sp.length := by have := stay_len now (sp.take j); simp at this; omega
    have hb2 : (lateF now (sp.take j)).length ≤ sp.length := by have := late_len now (sp.take j); simp at this; omega
    obtain ⟨la, lc, rfl⟩ := own_val hr
    obtain ⟨va, vc, rfl⟩ := own_val hr.swap
    by_cases hlt : j < sp.length
    · obtain ⟨g, rfl, hg, d0, d1⟩ := spot_get hr.drop.drop j hlt
      have HT : Hid (sp.take (j + 1) = sp.take j ++ [sp[j]]) := List.take_succ_eq_append_getElem hlt
      by_cases hq : sp[j].2 ≤ now
      · have HQ : Hid (lateF now (sp.take (j + 1)) = lateF now (sp.take j) ++ [sp[j].1]) := by unfold Hid; rw [HT.out, late_snoc, if_pos hq]
        have HQ2 : Hid (stayF now (sp.take (j + 1)) = stayF now (sp.take j)) := by unfold Hid; rw [HT.out, stay_snoc, if_neg (by omega)]
        go_wp2_with (at_builtin; refine wpList_append_sat TInts (hr.alloc' _) (.tmp 27) (.tmp 36) _ 1 1 [.int .i64 sp[j].1] rfl rfl rfl rfl rfl (fun _ => ⟨_, rfl, new_cells_at _ _ _ _ (by simp)⟩) (ints_one [sp[j].1]) (by simp [maxLen]; omega) (by omega) ?_; intro a2 c2 w2 h2)
        go_roundw
        case rel => exact ⟨j + 1, by omega, by go_num, by rw [HQ.out, HQ2.out]; exact ints_push h2⟩
        case measure => simp [intOf]; omega
      · have HQ : Hid (lateF now (sp.take (j + 1)) = lateF now (sp.take j)) := by unfold Hid; rw [HT.out, late_snoc, if_neg hq]
        have HQ2 : Hid (stayF now (sp.take (j + 1)) = stayF now (sp.take j) ++ [sp[j]]) := by unfold Hid; rw [HT.out, stay_snoc, if_pos (by omega)]
        go_wp2_with (at_builtin; refine wpList_append_sat TRSpot (hr.swap.alloc' _) (.tmp 38) (.tmp 46) _ 1 1 [.int .i64 sp[j].1, .int .i64 sp[j].2] rfl rfl rfl rfl rfl (fun _ => ⟨_, rfl, new_cells_at _ _ _ _ (by simp)⟩) (spcs_one [sp[j]]) (by simp [maxLen]; omega) (by omega) ?_; intro a2 c2 w2 h2)
        go_roundw
        case rel => exact ⟨j + 1, by omega, by go_num, by rw [HQ.out, HQ2.out, ← spcs_snoc, List.length_append]; exact h2.swap⟩
        case measure => simp [intOf]; omega
    · obtain rfl : j = sp.length := by omega
      rw [List.take_length] at hr hb
      simp only [List.take_length]
      have c0 := hr.drop.drop.cell2 0
      have f0 := hr.drop.drop.frozen2 0
      simp at c0
      go_wp2_with fail
      go_ret
      exact ⟨_, rfl, (ref_close (hr.get3.drop.swap.swap2.set2 0 _) rfl rfl hm0 hm1 (by omega)).swap⟩

set_option maxHeartbeats 1000000 in
theorem rall_any (k : Env) (w : World) (R : Assn) (b : Nat) (sp : List Sp) (most : Int) (h : Sat k w (RefR b sp most * R)) :
    Calls Try.prog 24 #[.pointer (some ⟨b, 0, none⟩)] w fun e w' => ∃ v, e = .returned v ∧ Sat k w' (Ints v (sp.map (·.1)) * (RefR b sp most * R)) := by
  obtain ⟨a, cap, hm0, hm1, hlen, hs⟩ := ref_open h
  go_enter Try.func24, Try.ntmps24
  go_wp2_with fail
  go_loopw [3, 4] (fun v i wr => ∃ j : Nat, j ≤ sp.length ∧ i = .int .i64 j ∧ Sat k wr (Own 3 1 v j (ints ((sp.take j).map (·.1))) * (Own 60 2 (.slice a sp.length cap) sp.length (spcs sp) * (blk b (.cells #[.slice a sp.length cap, .int .i64 most] 58 (0, 0)) * R)))) (fun _ i _ => sp.length - (intOf i).toNat)
  case atStart => exact ⟨0, Nat.zero_le _, rfl, own_nil hs⟩
  case round =>
    obtain ⟨j, hj, rfl, hr⟩ := hrel
    have c0 := hr.drop.cell2 0
    simp at c0
    by_cases hlt : j < sp.length
    · obtain ⟨g, rfl, hg, d0, d1⟩ := spot_get hr.drop j hlt
      obtain ⟨va, vc, rfl⟩ := own_val hr
      have HT : Hid ((sp.take (j + 1)).map (·.1) = (sp.take j).map (·.1) ++ [sp[j].1]) := by
        unfold Hid; rw [List.take_succ_eq_append_getElem hlt, List.map_append]; rfl
      go_wp2_with (at_builtin; refine wpList_append_sat TInts (hr.alloc' _) (.tmp 14) (.tmp 23) _ 1 1 [.int .i64 sp[j].1] rfl rfl rfl rfl rfl (fun _ => ⟨_, rfl, new_cells_at _ _ _ _ (by simp)⟩) (ints_one [sp[j].1]) (by simp [maxLen]; omega) (by omega) ?_; intro a2 c2 w2 h2)
      go_roundw
      case rel => exact ⟨j + 1, by omega, by go_num, by rw [HT.out, ← ints_snoc]; exact h2⟩
      case measure => simp [intOf]; omega
    · obtain rfl : j = sp.length := by omega
      go_wp2
      go_ret
      rw [List.take_length] at hr
      refine ⟨_, rfl, ?_⟩
      unfold Ints
      rw [List.length_map]
      exact (ref_close hr.swap.swap2 rfl rfl hm0 hm1 hlen).swap

end Go.Proofs.Ytmiekmgicfnooaa
