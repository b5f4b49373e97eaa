/- Contracts of package octet. -/
import Derived.Test.YtbeidnddahglbaaBytesS
import Derived.Test.YtbeidnddahglbaaMA
import Derived.StillTailTactics
import Derived.Laws.DeepStrings4
namespace Go.Proofs.Ytbeidnddahglbaa
set_option linter.all false
open Go Go.RowKit

/-- Where the first 0 is; -1: nowhere. -/
def endL : List UInt8 → Nat → Int
  | [], _ => -1
  | c :: r, i => if c = 0 then i else endL r (i + 1)
def endB (s : ByteArray) : Int := endL s.data.toList 0

theorem endL_range (l : List UInt8) (i : Nat) : endL l i = -1 ∨ ((i : Int) ≤ endL l i ∧ endL l i < i + l.length) := by
  induction l generalizing i with
  | nil => exact .inl rfl
  | cons c r ih =>
    rw [endL]
    split
    · right; simp; omega
    · rcases ih (i + 1) with h | h
      · exact .inl h
      · right; simp; omega
theorem endB_range (s : ByteArray) : endB s = -1 ∨ (0 ≤ endB s ∧ endB s < s.size) := by
  rcases endL_range s.data.toList 0 with h | h
  · exact .inl h
  · right; unfold endB
    have : s.data.toList.length = s.size := by simp
    omega

set_option maxHeartbeats 1000000 in
theorem oend_any (w : World) (s : ByteArray) (hs : s.size ≤ maxLen) :
    Calls Try.prog 85 #[.string s] w fun e w' => e = .returned (.int .i64 (endB s)) ∧ w = w' := by
  have hs' : (s.size : Int) ≤ 9223372036854775807 := by simp [maxLen] at hs; omega
  go_enter Try.func85, Try.ntmps85
  go_wp2_with fail
  go_loopw [3, 6] (fun _ u6 wr => ∃ j : Nat, j ≤ s.size ∧ u6 = .int .i64 j ∧ Hid (endL (s.data.toList.drop j) j = endB s) ∧ wr = w) (fun _ u6 _ => s.size - (intOf u6).toNat)
  case atStart => exact ⟨0, Nat.zero_le _, rfl, rfl, rfl⟩
  case round =>
    obtain ⟨j, hj, rfl, HE, rfl⟩ := hrel
    by_cases hlt : j < s.size
    · have hlt' : (j : Int) < s.size := by omega
      have hd : s.data.toList.drop j = s[j] :: s.data.toList.drop (j + 1) := by
        rw [List.drop_eq_getElem_cons (by simpa using hlt)]; rfl
      have HD : Hid (endL (s[j] :: s.data.toList.drop (j + 1)) j = endB s) := by
        unfold Hid; rw [← hd]; exact HE.out
      clear hd HE
      by_cases hc : s[j] = 0
      · have hb : ((s[j].toNat : Int) == 0) = true := by simp [hc]
        have HR : Hid (endB s = j) := by unfold Hid; rw [← HD.out, endL, if_pos hc]
        clear HD hc
        go_wp2_with fail
        go_ret
        rw [HR.out]
        exact ⟨rfl, rfl⟩
      · have hb : ((s[j].toNat : Int) == 0) = false := by
          have : s[j].toNat ≠ 0 := fun e => hc (UInt8.toNat_inj.1 (by simpa using e))
          simpa using this
        have HR : Hid (endL (s.data.toList.drop (j + 1)) (j + 1) = endB s) := by unfold Hid; rw [← HD.out, endL, if_neg hc]
        clear HD hc
        go_wp2_with fail
        go_roundw
        case rel => exact ⟨j + 1, by omega, by go_num, HR, trivial⟩
        case measure => simp [intOf]; omega
    · have hjs : j = s.size := by omega
      have HR : Hid (endB s = -1) := by
        unfold Hid
        rw [← HE.out, List.drop_eq_nil_of_le (by simp [hjs])]; rfl
      have hlt' : ¬ (j : Int) < s.size := by omega
      clear HE hlt
      go_wp2_with fail
      go_ret
      rw [HR.out]
      exact ⟨rfl, rfl⟩

abbrev zb : ByteArray := ⟨#[0]⟩
/-- A text up to its first 0. -/
def cutB (t : ByteArray) : ByteArray := if endB t = -1 then t else t.extract 0 (endB t).toNat
theorem cutB_size (t : ByteArray) : (cutB t).size ≤ t.size := by
  unfold cutB; split
  · exact Nat.le_refl _
  · simp; omega

theorem oputText_any (w : World) (s t : ByteArray) (hs : s.size + t.size ≤ 1000000000) :
    Calls Try.prog 72 #[.string s, .string t] w fun e w' => e = .returned (.string (s ++ cutB t ++ zb)) ∧ w = w' := by
  have hr := endB_range t
  have hm : t.size ≤ maxLen := by unfold maxLen; omega
  have hcs := cutB_size t
  by_cases he : endB t = -1
  · have hc : cutB t = t := if_pos he
    rw [hc]
    go_enter Try.func72, Try.ntmps72
    go_wp2_with (go_at_call 85; refine (oend_any _ t hm).mono ?_; rintro e w' ⟨rfl, rfl⟩; rw [he])
    go_ret
    exact ⟨rfl, rfl⟩
  · have hc : Hid (cutB t = t.extract 0 (endB t).toNat) := if_neg he
    have hr' : 0 ≤ endB t ∧ endB t < t.size := by rcases hr with h | h; exact absurd h he; exact h
    have hh := Lib.hid (oend_any w t hm)
    generalize endB t = i at *
    obtain ⟨i, rfl⟩ : ∃ n : Nat, i = n := ⟨i.toNat, by omega⟩
    clear hr he
    obtain ⟨hr1, hr2⟩ := hr'
    go_enter Try.func72, Try.ntmps72
    go_wp2_with (go_at_call 85; refine hh.out.mono ?_; rintro e w' ⟨rfl, rfl⟩)
    go_ret
    rw [hc.out]
    exact ⟨by first | rfl | simp, rfl⟩

theorem TBytes : SliceT Try.prog 152 5 (.int .u8 0) 1 1 := ⟨Try.underlying152, by kernel_rfl, rfl, by decide⟩

end Go.Proofs.Ytbeidnddahglbaa
