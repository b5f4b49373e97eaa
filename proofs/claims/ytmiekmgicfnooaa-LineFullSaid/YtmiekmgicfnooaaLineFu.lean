/- The law LineFull, walked. -/
import Derived.Test.YtmiekmgicfnooaaLineK
import Derived.Test.YtmiekmgicfnooaaLinePl
import Derived.Test.YtmiekmgicfnooaaRw
import Derived.OpenShut
namespace Go.Proofs.Ytmiekmgicfnooaa
open Go Go.RowKit

set_option maxRecDepth 100000 in
set_option maxHeartbeats 2000000 in
theorem walkLineFull (W : World) (most : Int) (w0 : (Lit.int .u8 most).wf = true) (a : Option Addr) (len cap : Nat) (zs : List Int) (z : IsRow .u8 W a len cap zs) (_y : len * 1 ≤ 140737488351232) :
    Calls Try.prog 4 #[.int .u8 most, .slice a len cap] W fun e w' => e = .returned (.bool true) ∧ Below W.heap.size W w' := by
  obtain ⟨n0, n1⟩ := bounds_u8 w0
  clear w0
  go_enter Try.func4, Try.ntmps4
  go_wp2_with fail
  obtain ⟨m, hm, hm1, hm2⟩ : ∃ m : Int, 1 + most % 20 = m ∧ 1 ≤ m ∧ m ≤ 20 := ⟨_, rfl, by omega, by omega⟩
  simp only [hm]
  clear hm
  refine (new_any _ _ _ m (by omega) (by omega) (Sat.whole W)).mono ?_
  rintro e w1 ⟨b, rfl, h1⟩
  go_wp2_with fail
  go_loopw [8, 9, 10, 11] (fun i _ _ _ wr => ∃ (j : Nat) (sp : List Sp), j ≤ len ∧ j ≤ 100 ∧ i = .int .i64 j ∧ nod sp ∧ (sp.length : Int) ≤ m ∧ Sat (World.env W) wr (LineR b sp m * whole W)) (fun i _ _ _ _ => 100 - (intOf i).toNat)
  case atStart => exact ⟨0, [], Nat.zero_le _, Nat.zero_le _, rfl, by simp [nod], by simp; omega, h1⟩
  case round =>
    obtain ⟨j, sp, hj, hj2, rfl, hn, hlm, hr⟩ := hrel
    by_cases hlt : j < len ∧ j < 100
    · obtain ⟨hlt, hlt2⟩ := hlt
      obtain ⟨g, o, u, rfl, HW, hw, _⟩ := row_at z j hlt
      obtain ⟨u0, u1⟩ := bounds_u8 hw
      obtain ⟨hg1, hc1⟩ := whole_at hr.drop HW
      clear hw
      by_cases hp : plc u sp 0 = -1
      · have HE : Hid (joinE sp m u 7 = if m ≤ sp.length then 11 else 0) := by
          unfold Hid; rw [joinE, if_neg (by omega), if_neg (by omega)]
        have hn' := nod_join sp m u 7 hn
        have hl' := join_len sp m u 7 hlm
        by_cases hf : m ≤ sp.length
        · rw [if_pos hf] at HE
          go_wp2_with fail
          refine (place_any _ _ _ b _ _ _ hr).mono ?_
          rintro e w2 ⟨rfl, h2⟩
          rw [hp]
          clear hp
          go_wp2_with fail
          refine (all_any _ _ _ b _ _ h2).mono ?_
          rintro e w3 ⟨v, rfl, h3⟩
          obtain ⟨va, vc, rfl⟩ := own_val h3
          rw [List.length_map]
          have h3 := h3.drop
          obtain ⟨hg3, hc3⟩ := whole_at h3.drop HW
          go_wp2_with fail
          refine (join_any _ _ _ b _ _ _ _ h3).mono ?_
          rintro e w4 ⟨rfl, h4⟩
          rw [HE.out]
          go_wp2_with fail
          refine (all_any _ _ _ b _ _ h4).mono ?_
          rintro e w5 ⟨v, rfl, h5⟩
          obtain ⟨va, vc, rfl⟩ := own_val h5
          rw [List.length_map]
          go_wp2_with fail
          go_roundw
          case rel => exact ⟨j + 1, _, by omega, by omega, by go_num, hn', hl', h5.drop⟩
          case measure => simp [intOf]; omega
        · rw [if_neg hf] at HE
          go_wp2_with fail
          refine (place_any _ _ _ b _ _ _ hr).mono ?_
          rintro e w2 ⟨rfl, h2⟩
          rw [hp]
          clear hp
          go_wp2_with fail
          refine (all_any _ _ _ b _ _ h2).mono ?_
          rintro e w3 ⟨v, rfl, h3⟩
          obtain ⟨va, vc, rfl⟩ := own_val h3
          rw [List.length_map]
          have h3 := h3.drop
          obtain ⟨hg3, hc3⟩ := whole_at h3.drop HW
          go_wp2_with fail
          refine (join_any _ _ _ b _ _ _ _ h3).mono ?_
          rintro e w4 ⟨rfl, h4⟩
          rw [HE.out]
          go_wp2_with fail
          refine (all_any _ _ _ b _ _ h4).mono ?_
          rintro e w5 ⟨v, rfl, h5⟩
          obtain ⟨va, vc, rfl⟩ := own_val h5
          rw [List.length_map]
          go_wp2_with fail
          go_roundw
          case rel => exact ⟨j + 1, _, by omega, by omega, by go_num, hn', hl', h5.drop⟩
          case measure => simp [intOf]; omega
      · have HE : Hid (joinE sp m u 7 = 9) := by unfold Hid; rw [joinE, if_neg (by omega), if_pos hp]
        have HL : Hid (joinL sp m u 7 = sp) := by unfold Hid; rw [joinL, if_neg (by rw [HE.out]; omega)]
        have hn' := nod_leave sp u hn
        have hl' := leave_len sp u hp
        have hp' := leave_plc sp u hn
        have hpos : 0 < sp.length := by rcases plc_range u sp 0 with h' | h' <;> omega
        have HE2 : Hid (joinE (leaveL u sp) m u 7 = 0) := by unfold Hid; rw [joinE, if_neg (by omega), if_neg (by omega), if_neg (by omega)]
        have HL2 : Hid (joinL (leaveL u sp) m u 7 = leaveL u sp ++ [(u, 7)]) := by unfold Hid; rw [joinL, if_pos HE2.out]
        have hn2 : nod (leaveL u sp ++ [(u, 7)]) := nod_snoc _ (u, 7) hn' hp'
        have HP : Hid (plc u (leaveL u sp ++ [(u, 7)]) 0 = (sp.length : Int) - 1) := by unfold Hid; rw [snoc_plc _ (u, 7) hp']; omega
        have hl2 : ((leaveL u sp ++ [(u, 7)]).length : Int) ≤ m := by simp; omega
        have HD : Hid (decide (plc u sp 0 ≠ -1) = true) := by unfold Hid; simpa using hp
        have hge : 0 ≤ plc u sp 0 := by rcases plc_range u sp 0 with h' | h' <;> omega
        clear hl' hp'
        go_wp2_with fail
        refine (place_any _ _ _ b _ _ _ hr).mono ?_
        rintro e w2 ⟨rfl, h2⟩
        go_wp2_with fail
        refine (all_any _ _ _ b _ _ h2).mono ?_
        rintro e w3 ⟨v, rfl, h3⟩
        obtain ⟨va, vc, rfl⟩ := own_val h3
        rw [List.length_map]
        have h3 := h3.drop
        obtain ⟨hg3, hc3⟩ := whole_at h3.drop HW
        go_wp2_with fail
        refine (join_any _ _ _ b _ _ _ _ h3).mono ?_
        rintro e w4 ⟨rfl, h4⟩
        rw [HE.out]
        rw [HL.out] at h4
        go_wp2_with fail
        refine (all_any _ _ _ b _ _ h4).mono ?_
        rintro e w5 ⟨v, rfl, h5⟩
        obtain ⟨va, vc, rfl⟩ := own_val h5
        rw [List.length_map]
        have h5 := h5.drop
        obtain ⟨hg5, hc5⟩ := whole_at h5.drop HW
        go_wp2_with fail
        refine (leave_any _ _ _ b _ _ _ h5).mono ?_
        rintro e w6 ⟨rfl, h6⟩
        obtain ⟨hg6, hc6⟩ := whole_at h6.drop HW
        go_wp2_with fail
        refine (join_any _ _ _ b _ _ _ _ h6).mono ?_
        rintro e w7 ⟨rfl, h7⟩
        rw [HE2.out]
        rw [HL2.out] at h7
        obtain ⟨hg7, hc7⟩ := whole_at h7.drop HW
        go_wp2_with fail
        refine (place_any _ _ _ b _ _ _ h7).mono ?_
        rintro e w8 ⟨rfl, h8⟩
        rw [HP.out]
        go_wp2_with fail
        go_roundw
        case rel => exact ⟨j + 1, _, by omega, by omega, by go_num, hn2, hl2, h8⟩
        case measure => simp [intOf]; omega
    · have hlt' : ¬ (j : Int) < len ∨ ((j : Int) < len ∧ ¬ (j : Int) < 100) := by omega
      clear hlt
      rcases hlt' with hq | ⟨hq, hq2⟩
      all_goals
        go_wp2_with fail
        refine (known_any _ _ _ hr.drop).mono ?_
        rintro e w6 ⟨rfl, h6⟩
        go_wp2_with fail
        go_ret
        exact ⟨rfl, h6.below⟩

end Go.Proofs.Ytmiekmgicfnooaa
