/- The fixed calls of the laws of package line. -/
import Derived.Test.YtmiekmgicfnooaaLineC
namespace Go.Proofs.Ytmiekmgicfnooaa
open Go Go.RowKit

set_option maxHeartbeats 2000000 in
theorem known_any (k : Env) (w : World) (R : Assn) (h : Sat k w R) :
    Calls Try.prog 9 #[] w fun e w' => e = .returned (.bool true) ∧ Sat k w' R := by
  go_enter Try.func9, Try.ntmps9
  go_wp2_with fail
  refine (new_any k w R 3 (by omega) (by omega) h).mono ?_
  rintro e w1 ⟨b, rfl, h1⟩
  go_wp2_with fail
  refine (new_bad w1 0 (by omega)).mono ?_
  rintro e w2 ⟨rfl, rfl⟩
  go_wp2_with fail
  refine (join_any k _ R b [] 3 1 5 h1).mono ?_
  rintro e w2 ⟨rfl, h2⟩
  rw [show joinE [] 3 1 5 = 0 from by decide]
  rw [show joinL [] 3 1 5 = [(1, 5)] from by decide] at h2
  go_wp2_with fail
  refine (join_any k _ R b _ 3 2 3 h2).mono ?_
  rintro e w3 ⟨rfl, h3⟩
  rw [show joinE [(1, 5)] 3 2 3 = 0 from by decide]
  rw [show joinL [(1, 5)] 3 2 3 = [(1, 5), (2, 3)] from by decide] at h3
  go_wp2_with fail
  refine (join_any k _ R b _ 3 3 9 h3).mono ?_
  rintro e w4 ⟨rfl, h4⟩
  rw [show joinE [(1, 5), (2, 3)] 3 3 9 = 0 from by decide]
  rw [show joinL [(1, 5), (2, 3)] 3 3 9 = [(1, 5), (2, 3), (3, 9)] from by decide] at h4
  go_wp2_with fail
  refine (join_any k _ R b _ 3 2 9 h4).mono ?_
  rintro e w5 ⟨rfl, h5⟩
  rw [show joinE [(1, 5), (2, 3), (3, 9)] 3 2 9 = 9 from by decide]
  rw [show joinL [(1, 5), (2, 3), (3, 9)] 3 2 9 = [(1, 5), (2, 3), (3, 9)] from by decide] at h5
  go_wp2_with fail
  refine (join_any k _ R b _ 3 4 9 h5).mono ?_
  rintro e w6 ⟨rfl, h6⟩
  rw [show joinE [(1, 5), (2, 3), (3, 9)] 3 4 9 = 11 from by decide]
  rw [show joinL [(1, 5), (2, 3), (3, 9)] 3 4 9 = [(1, 5), (2, 3), (3, 9)] from by decide] at h6
  go_wp2_with fail
  refine (late_any k _ R b _ 3 4 h6).mono ?_
  rintro e w7 ⟨v, rfl, h7⟩
  rw [show lateF 4 [(1, 5), (2, 3), (3, 9)] = [2] from by decide, show stayF 4 [(1, 5), (2, 3), (3, 9)] = [(1, 5), (3, 9)] from by decide] at h7
  go_wp2_with fail
  refine (place_any k _ _ b _ 3 3 h7.swap).mono ?_
  rintro e w8 ⟨rfl, h8⟩
  rw [show plc 3 [(1, 5), (3, 9)] 0 = 1 from by decide]
  go_wp2_with fail
  refine (first_any k _ _ b (1, 5) [(3, 9)] 3 h8).mono ?_
  rintro e w9 ⟨rfl, h9⟩
  go_wp2_with fail
  refine (ints_eq k _ _ _ _ _ _ ((ints_lit [2] (by simp [maxLen]) h9 _ rfl).swap2.swap)).mono ?_
  rintro e w10 ⟨rfl, h10⟩
  go_wp2_with fail
  refine (all_any k _ _ b [(3, 9)] 3 (h10.drop.swap)).mono ?_
  rintro e w11 ⟨v2, rfl, h11⟩
  go_wp2_with fail
  refine (ints_eq k _ _ _ _ _ _ (ints_lit [3] (by simp [maxLen]) h11 _ rfl).swap).mono ?_
  rintro e w12 ⟨rfl, h12⟩
  go_wp2_with fail
  refine (leave_any k _ _ b _ 3 3 h12.drop.swap).mono ?_
  rintro e w13 ⟨rfl, h13⟩
  rw [show decide (plc 3 [(3, 9)] 0 ≠ -1) = true from by decide]
  rw [show leaveL 3 [(3, 9)] = [] from by decide] at h13
  go_wp2_with fail
  refine (leave_any k _ _ b _ 3 3 h13).mono ?_
  rintro e w14 ⟨rfl, h14⟩
  rw [show decide (plc 3 [] 0 ≠ -1) = false from by decide]
  rw [show leaveL 3 [] = [] from by decide] at h14
  go_wp2_with fail
  refine (place_any k _ _ b _ 3 3 h14).mono ?_
  rintro e w15 ⟨rfl, h15⟩
  rw [show plc 3 [] 0 = -1 from by decide]
  go_wp2_with fail
  go_ret
  exact ⟨rfl, h15.drop.drop.drop⟩

end Go.Proofs.Ytmiekmgicfnooaa
