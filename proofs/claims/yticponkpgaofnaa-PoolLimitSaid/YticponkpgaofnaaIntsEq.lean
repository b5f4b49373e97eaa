/- Two slices of ints compared by the document's Ints. -/
import Derived.Test.YticponkpgaofnaaInts
namespace Go.Proofs.Yticponkpgaofnaa
set_option linter.all false
open Go Go.RowKit

set_option maxHeartbeats 1000000 in
theorem ints_eq (k : Env) (w : World) (R : Assn) (v1 v2 : Value) (l1 l2 : List Int) (h : Sat k w (Ints v1 l1 * (Ints v2 l2 * R))) :
    Calls Try.prog 32 #[v1, v2] w fun e w' => e = .returned (.bool (decide (l1 = l2))) ∧ Sat k w' (Ints v1 l1 * (Ints v2 l2 * R)) := by
  obtain ⟨a1, c1, rfl⟩ := own_val h
  obtain ⟨a2, c2, rfl⟩ := own_val h.swap
  have hb1 := own_cap h
  have hb2 := own_cap h.swap
  unfold maxLen at hb1 hb2
  by_cases hl : l1.length = l2.length
  · have hlb : (((l1.length : Nat) : Int) != (l2.length : Nat)) = false := by simp [hl]
    have HL := Lib.hid hl
    clear hl
    go_enter Try.func32, Try.ntmps32
    go_wp2
    go_loopw [5] (fun i wr => ∃ j : Nat, j ≤ l1.length ∧ i = .int .i64 j ∧ Hid (l1.take j = l2.take j) ∧ Sat k wr (Ints (.slice a1 l1.length c1) l1 * (Ints (.slice a2 l2.length c2) l2 * R))) (fun i _ => l1.length - (intOf i).toNat)
    case atStart => exact ⟨0, Nat.zero_le _, rfl, rfl, h⟩
    case round =>
      obtain ⟨j, hj, rfl, HT, hr⟩ := hrel
      by_cases hlt : j < l1.length
      · have hlt2 : j < l2.length := by rw [← HL.out]; exact hlt
        obtain ⟨g1, rfl, hg1, d1⟩ := ints_get hr j hlt
        obtain ⟨g2, rfl, hg2, d2⟩ := ints_get hr.swap j hlt2
        have q1 : (j : Int) < l1.length := by omega
        have q2 : (j : Int) < l2.length := by omega
        by_cases hq : l1[j] = l2[j]
        · have hqb : (l1[j] != l2[j]) = false := by simp [hq]
          have HQ := Lib.hid hq
          clear hq
          go_wp2_with fail
          go_quiet (fail)
          go_wp2
          go_roundw
          case rel => exact ⟨j + 1, by omega, by go_num, by unfold Hid; rw [List.take_succ_eq_append_getElem hlt, List.take_succ_eq_append_getElem hlt2, HT.out, HQ.out], hr.drewN _⟩
          case measure => simp [intOf]; omega
        · have hqb : (l1[j] != l2[j]) = true := by simp [hq]
          have hd : decide (l1 = l2) = false := by
            rw [decide_eq_false_iff_not]; intro he; exact hq (by simp [he])
          clear hq
          go_wp2_with fail
          go_quiet (fail)
          go_wp2
          go_ret
          exact ⟨by rw [hd]; rfl, hr.drewN _⟩
      · obtain rfl : j = l1.length := by omega
        have hd : decide (l1 = l2) = true := by
          have h1 := HT.out
          rw [List.take_length, HL.out, List.take_length] at h1
          simp [h1]
        clear hlb
        go_wp2_with fail
        go_ret
        exact ⟨by rw [hd]; rfl, hr⟩
  · have hlb : (((l1.length : Nat) : Int) != (l2.length : Nat)) = true := by rw [bne_iff_ne]; omega
    have hd : decide (l1 = l2) = false := by
      rw [decide_eq_false_iff_not]; intro he; exact hl (by simp [he])
    rw [hd]
    clear hl hd
    go_enter Try.func32, Try.ntmps32
    go_wp2
    go_ret
    exact ⟨rfl, h⟩

end Go.Proofs.Yticponkpgaofnaa
