/- The law LineLeaves, walked. -/
import Derived.Test.YtmiekmgicfnooaaLineK
import Derived.Test.YtmiekmgicfnooaaLinePl
import Derived.Test.YtmiekmgicfnooaaRw
import Derived.OpenShut
namespace Go.Proofs.Ytmiekmgicfnooaa
open Go Go.RowKit

set_option maxHeartbeats 2000000 in
theorem walkLineLeaves (W : World) (n : Int) (w0 : (Lit.int .u8 n).wf = true) (who : Int) (w1 : (Lit.int .u8 who).wf = true) :
    Calls Try.prog 5 #[.int .u8 n, .int .u8 who] W fun e w' => e = .returned (.bool true) ∧ Below W.heap.size W w' := by
  obtain ⟨n0, n1⟩ := bounds_u8 w0
  obtain ⟨m0, m1⟩ := bounds_u8 w1
  clear w0 w1
  go_enter Try.func5, Try.ntmps5
  go_wp2_with fail
  refine (new_any _ _ _ 10000 (by omega) (by omega) (Sat.whole W)).mono ?_
  rintro e w1 ⟨b, rfl, h1⟩
  go_wp2_with fail
  obtain ⟨m, hm, hm1, hm2⟩ : ∃ m : Nat, 1 + n % 60 = m ∧ 1 ≤ m ∧ m ≤ 60 := ⟨(1 + n % 60).toNat, by omega, by omega, by omega⟩
  simp only [hm]
  obtain ⟨v, hv, hv1⟩ : ∃ v : Nat, who % (m : Int) = v ∧ v < m := by
    have h0 := Int.emod_nonneg who (show (m : Int) ≠ 0 by omega)
    have h1 := Int.emod_lt_of_pos who (show (0 : Int) < m by omega)
    exact ⟨(who % (m : Int)).toNat, by omega, by omega⟩
  simp only [hv]
  clear hm hv
  go_loopw [9] (fun i wr => ∃ j : Nat, j ≤ m ∧ i = .int .i64 j ∧ Sat (World.env W) wr (LineR b (seqF (fun _ => 5) j) 10000 * whole W)) (fun i _ => m - (intOf i).toNat)
  case atStart => exact ⟨0, Nat.zero_le _, rfl, h1⟩
  case round =>
    obtain ⟨j, hj, rfl, hr⟩ := hrel
    by_cases hlt : j < m
    · obtain ⟨e1, e2⟩ := seqF_join (fun _ => 5) j 10000 (by omega) (by omega) (by omega)
      have E1 := Lib.hid e1
      have E2 := Lib.hid e2
      clear e1 e2
      go_wp2_with fail
      refine (join_any _ _ _ b _ _ _ _ hr).mono ?_
      rintro e w' ⟨rfl, h2⟩
      rw [E2.out] at h2
      go_wp2_with fail
      go_roundw
      case rel => exact ⟨j + 1, by omega, by go_num, h2⟩
      case measure => simp [intOf]; omega
    · obtain rfl : j = m := by omega
      go_wp2_with fail
      refine (leave_any _ _ _ b _ _ _ hr).mono ?_
      rintro e w2 ⟨rfl, h2⟩
      rw [seqF_left _ _ _ hv1] at h2
      rw [show decide (plc v (seqF (fun _ => 5) j) 0 ≠ -1) = true by rw [seqF_plc _ _ _ hv1]; simp]
      go_wp2_with fail
      refine (leave_any _ _ _ b _ _ _ h2).mono ?_
      rintro e w3 ⟨rfl, h3⟩
      have hnv : plc v ((seqF (fun _ => 5) j).take v ++ (seqF (fun _ => 5) j).drop (v + 1)) 0 = -1 := by rw [left_plc _ _ _ _ hv1 hv1, if_pos rfl]
      rw [leaveL, if_pos hnv] at h3
      rw [hnv]
      clear hnv
      go_wp2_with fail
      refine (all_any _ _ _ b _ _ h3).mono ?_
      rintro e w4 ⟨va, rfl, h4⟩
      obtain ⟨aa, ac, rfl⟩ := own_val h4
      rw [List.length_map, left_len _ _ _ hv1]
      have hjj : (((j - 1 : Nat) : Int) != (j : Int) - 1) = false := by simp; omega
      go_wp2_with fail
      go_loopw [10, 11] (fun i _ wr => ∃ t : Nat, t ≤ j ∧ i = .int .i64 t ∧ Sat (World.env W) wr (LineR b ((seqF (fun _ => 5) j).take v ++ (seqF (fun _ => 5) j).drop (v + 1)) 10000 * whole W)) (fun i _ _ => j - (intOf i).toNat)
      case atStart => exact ⟨0, Nat.zero_le _, rfl, h4.drop⟩
      case round =>
        obtain ⟨t, ht, rfl, hr⟩ := hrel
        by_cases hlt : t < j
        · have HP := Lib.hid (left_plc (fun _ => 5) j v t hv1 hlt)
          by_cases c1 : t = v
          · subst c1
            have HP' : Hid (plc t ((seqF (fun _ => 5) j).take t ++ (seqF (fun _ => 5) j).drop (t + 1)) 0 = -1) := by unfold Hid; rw [HP.out, if_pos rfl]
            go_wp2_with fail
            refine (place_any _ _ _ b _ _ _ hr).mono ?_
            rintro e w5 ⟨rfl, h5⟩
            rw [HP'.out]
            go_wp2_with fail
            go_roundw
            case rel => exact ⟨t + 1, by omega, by go_num, h5⟩
            case measure => simp [intOf]; omega
          · by_cases c2 : v < t
            · have HP' : Hid (plc t ((seqF (fun _ => 5) j).take v ++ (seqF (fun _ => 5) j).drop (v + 1)) 0 = (t : Int) - 1) := by unfold Hid; rw [HP.out, if_neg c1, if_pos c2]
              have c3 : ((t : Int) == (v : Int)) = false := by simp; omega
              go_wp2_with fail
              refine (place_any _ _ _ b _ _ _ hr).mono ?_
              rintro e w5 ⟨rfl, h5⟩
              rw [HP'.out]
              go_wp2_with fail
              go_roundw
              case rel => exact ⟨t + 1, by omega, by go_num, h5⟩
              case measure => simp [intOf]; omega
            · have HP' : Hid (plc t ((seqF (fun _ => 5) j).take v ++ (seqF (fun _ => 5) j).drop (v + 1)) 0 = (t : Int)) := by unfold Hid; rw [HP.out, if_neg c1, if_neg c2]
              have c3 : ((t : Int) == (v : Int)) = false := by simp; omega
              go_wp2_with fail
              refine (place_any _ _ _ b _ _ _ hr).mono ?_
              rintro e w5 ⟨rfl, h5⟩
              rw [HP'.out]
              go_wp2_with fail
              go_roundw
              case rel => exact ⟨t + 1, by omega, by go_num, h5⟩
              case measure => simp [intOf]; omega
        · obtain rfl : t = j := by omega
          go_wp2_with fail
          refine (known_any _ _ _ hr).mono ?_
          rintro e w6 ⟨rfl, h6⟩
          go_wp2_with fail
          go_ret
          exact ⟨rfl, h6.drop.below⟩

end Go.Proofs.Ytmiekmgicfnooaa
