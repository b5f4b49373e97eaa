/- Contracts of package lexer: letter, digit, run, begins. -/
import Derived.Test.YtoeepbjnbgpmpaaLexM
import Derived.StillTailTactics
import Derived.Laws.DeepStrings4
namespace Go.Proofs.Ytoeepbjnbgpmpaa
set_option linter.all false
open Go Go.RowKit

theorem letter_any (w : World) (c : UInt8) : Calls Try.prog 82 #[.int .i32 c.toNat] w fun e w' => e = .returned (.bool (isLet c)) ∧ w = w' := by
  go_enter Try.func82, Try.ntmps82
  go_wp2
  all_goals
    go_ret
    refine ⟨congrArg (fun b => Ending.returned (Value.bool b)) ?_, rfl⟩
    rw [Bool.eq_iff_iff]
    simp [isLet]
    omega
theorem digit_any (w : World) (c : UInt8) : Calls Try.prog 84 #[.int .i32 c.toNat] w fun e w' => e = .returned (.bool (isDig c)) ∧ w = w' := by
  go_enter Try.func84, Try.ntmps84
  go_wp2
  all_goals
    go_ret
    refine ⟨congrArg (fun b => Ending.returned (Value.bool b)) ?_, rfl⟩
    rw [Bool.eq_iff_iff]
    simp [isDig]
    omega
theorem tag1_any (w : World) (c : UInt8) : Calls Try.prog 97 #[.int .i32 c.toNat] w fun e w' => e = .returned (.bool (pLD c)) ∧ w = w' := by
  unfold pLD
  have H1 := Lib.hid (fun w => letter_any w c)
  have H2 := Lib.hid (fun w => digit_any w c)
  generalize isLet c = p at *
  generalize isDig c = q at *
  cases p
  all_goals
    go_enter Try.func97, Try.ntmps97
    go_wp2_with (first | (go_at_call 82; (with_reducible refine (H1.out _).mono ?_); rintro e w1 ⟨rfl, rfl⟩) | (go_at_call 84; (with_reducible refine (H2.out _).mono ?_); rintro e w1 ⟨rfl, rfl⟩))
    go_ret
    exact ⟨rfl, rfl⟩
theorem one1_any (w : World) (c : UInt8) : Calls Try.prog 83 #[.int .i32 c.toNat] w fun e w' => e = .returned (.bool (pWord c)) ∧ w = w' := by
  unfold pWord
  have H1 := Lib.hid (fun w => letter_any w c)
  have H2 := Lib.hid (fun w => digit_any w c)
  generalize isLet c = p at *
  generalize isDig c = q at *
  cases p <;> cases q
  all_goals
    go_enter Try.func83, Try.ntmps83
    go_wp2_with (first | (go_at_call 82; (with_reducible refine (H1.out _).mono ?_); rintro e w1 ⟨rfl, rfl⟩) | (go_at_call 84; (with_reducible refine (H2.out _).mono ?_); rintro e w1 ⟨rfl, rfl⟩))
    go_ret
    refine ⟨congrArg (fun b => Ending.returned (Value.bool b)) ?_, rfl⟩
    rw [Bool.eq_iff_iff]
    simp
    try omega
theorem one2_any (w : World) (c : UInt8) : Calls Try.prog 86 #[.int .i32 c.toNat] w fun e w' => e = .returned (.bool (pNum c)) ∧ w = w' := by
  unfold pNum
  have H2 := Lib.hid (fun w => digit_any w c)
  generalize isDig c = q at *
  cases q
  all_goals
    go_enter Try.func86, Try.ntmps86
    go_wp2_with (first | (go_at_call 84; (with_reducible refine (H2.out _).mono ?_); rintro e w1 ⟨rfl, rfl⟩))
    go_ret
    refine ⟨congrArg (fun b => Ending.returned (Value.bool b)) ?_, rfl⟩
    rw [Bool.eq_iff_iff]
    simp
    try omega
theorem scan1_any (w : World) (c : UInt8) : Calls Try.prog 72 #[.int .i32 c.toNat] w fun e w' => e = .returned (.bool (pLine c)) ∧ w = w' := by
  go_enter Try.func72, Try.ntmps72
  go_wp2
  go_ret
  refine ⟨congrArg (fun b => Ending.returned (Value.bool b)) ?_, rfl⟩
  rw [Bool.eq_iff_iff]
  simp [pLine]
  try omega

--<<
set_option maxHeartbeats 1000000 in
theorem run_digit (w : World) (s : ByteArray) (hs : s.size ≤ 1000000000) : Calls Try.prog 71 #[.string s, .func (.func 84) #[] #[]] w fun e w' => e = .returned (.int .i64 (runL isDig (bl s) : Nat)) ∧ w = w' := by
  have C := Lib.hid digit_any
  go_enter Try.func71, Try.ntmps71
  go_wp2_with fail
  go_loopw [5, 8] (fun s5 s8 wr => ∃ j : Nat, j ≤ s.size ∧ s8 = .int .i64 j ∧ Hid (runL isDig (bl s) = j + runL isDig ((bl s).drop j)) ∧ w = wr) (fun _ s8 _ => s.size - (intOf s8).toNat)
  case atStart => exact ⟨0, Nat.zero_le _, rfl, by unfold Hid; simp, rfl⟩
  case round =>
    obtain ⟨j, hj, rfl, HR, rfl⟩ := hrel
    by_cases hlt : j < s.size
    · have hlt' : (j : Int) < s.size := by omega
      have HC : Hid (runL isDig ((bl s).drop j) = if isDig s[j] = true then runL isDig ((bl s).drop (j + 1)) + 1 else 0) := by
        unfold Hid; rw [bl_drop s j hlt, runL_cons]
      have hw : wrap32 (s[j].toNat : Int) = s[j].toNat := by have := s[j].toNat_lt; unfold wrap32; omega
      have D := C.out w s[j]
      cases hd : isDig s[j] with
      | true =>
        have HC2 : Hid (runL isDig ((bl s).drop j) = runL isDig ((bl s).drop (j + 1)) + 1) := HC.out.trans (if_pos hd)
        rw [hd] at D
        have D' := Lib.hid D
        clear D hd HC
        go_wp2_with (go_at_call 84; (with_reducible refine (D'.out).mono ?_); rintro e w1 ⟨rfl, rfl⟩)
        go_roundw
        case rel => exact ⟨j + 1, by omega, by go_num, by unfold Hid; rw [HR.out, HC2.out]; omega, trivial⟩
        case measure => simp [intOf]; omega
      | false =>
        have HC2 : Hid (runL isDig (bl s) = j) := by
          unfold Hid; rw [HR.out, HC.out, if_neg (by rw [hd]; decide)]; rfl
        rw [hd] at D
        have D' := Lib.hid D
        clear D hd HC
        go_wp2_with (go_at_call 84; (with_reducible refine (D'.out).mono ?_); rintro e w1 ⟨rfl, rfl⟩)
        go_ret
        exact ⟨by rw [HC2.out]; rfl, rfl⟩
    · have hjs : j = s.size := by omega
      subst hjs
      have HE : Hid (runL isDig (bl s) = s.size) := by
        unfold Hid
        rw [HR.out, List.drop_eq_nil_of_le (by rw [bl_len]; exact Nat.le_refl _), runL_nil]; rfl
      go_wp2_with fail
      go_ret
      exact ⟨by rw [HE.out]; rfl, rfl⟩

set_option maxHeartbeats 1000000 in
theorem run_tag (w : World) (s : ByteArray) (hs : s.size ≤ 1000000000) : Calls Try.prog 71 #[.string s, .func (.func 97) #[] #[]] w fun e w' => e = .returned (.int .i64 (runL pLD (bl s) : Nat)) ∧ w = w' := by
  have C := Lib.hid tag1_any
  go_enter Try.func71, Try.ntmps71
  go_wp2_with fail
  go_loopw [5, 8] (fun s5 s8 wr => ∃ j : Nat, j ≤ s.size ∧ s8 = .int .i64 j ∧ Hid (runL pLD (bl s) = j + runL pLD ((bl s).drop j)) ∧ w = wr) (fun _ s8 _ => s.size - (intOf s8).toNat)
  case atStart => exact ⟨0, Nat.zero_le _, rfl, by unfold Hid; simp, rfl⟩
  case round =>
    obtain ⟨j, hj, rfl, HR, rfl⟩ := hrel
    by_cases hlt : j < s.size
    · have hlt' : (j : Int) < s.size := by omega
      have HC : Hid (runL pLD ((bl s).drop j) = if pLD s[j] = true then runL pLD ((bl s).drop (j + 1)) + 1 else 0) := by
        unfold Hid; rw [bl_drop s j hlt, runL_cons]
      have hw : wrap32 (s[j].toNat : Int) = s[j].toNat := by have := s[j].toNat_lt; unfold wrap32; omega
      have D := C.out w s[j]
      cases hd : pLD s[j] with
      | true =>
        have HC2 : Hid (runL pLD ((bl s).drop j) = runL pLD ((bl s).drop (j + 1)) + 1) := HC.out.trans (if_pos hd)
        rw [hd] at D
        have D' := Lib.hid D
        clear D hd HC
        go_wp2_with (go_at_call 97; (with_reducible refine (D'.out).mono ?_); rintro e w1 ⟨rfl, rfl⟩)
        go_roundw
        case rel => exact ⟨j + 1, by omega, by go_num, by unfold Hid; rw [HR.out, HC2.out]; omega, trivial⟩
        case measure => simp [intOf]; omega
      | false =>
        have HC2 : Hid (runL pLD (bl s) = j) := by
          unfold Hid; rw [HR.out, HC.out, if_neg (by rw [hd]; decide)]; rfl
        rw [hd] at D
        have D' := Lib.hid D
        clear D hd HC
        go_wp2_with (go_at_call 97; (with_reducible refine (D'.out).mono ?_); rintro e w1 ⟨rfl, rfl⟩)
        go_ret
        exact ⟨by rw [HC2.out]; rfl, rfl⟩
    · have hjs : j = s.size := by omega
      subst hjs
      have HE : Hid (runL pLD (bl s) = s.size) := by
        unfold Hid
        rw [HR.out, List.drop_eq_nil_of_le (by rw [bl_len]; exact Nat.le_refl _), runL_nil]; rfl
      go_wp2_with fail
      go_ret
      exact ⟨by rw [HE.out]; rfl, rfl⟩

set_option maxHeartbeats 1000000 in
theorem run_word (w : World) (s : ByteArray) (hs : s.size ≤ 1000000000) : Calls Try.prog 71 #[.string s, .func (.func 83) #[] #[]] w fun e w' => e = .returned (.int .i64 (runL pWord (bl s) : Nat)) ∧ w = w' := by
  have C := Lib.hid one1_any
  go_enter Try.func71, Try.ntmps71
  go_wp2_with fail
  go_loopw [5, 8] (fun s5 s8 wr => ∃ j : Nat, j ≤ s.size ∧ s8 = .int .i64 j ∧ Hid (runL pWord (bl s) = j + runL pWord ((bl s).drop j)) ∧ w = wr) (fun _ s8 _ => s.size - (intOf s8).toNat)
  case atStart => exact ⟨0, Nat.zero_le _, rfl, by unfold Hid; simp, rfl⟩
  case round =>
    obtain ⟨j, hj, rfl, HR, rfl⟩ := hrel
    by_cases hlt : j < s.size
    · have hlt' : (j : Int) < s.size := by omega
      have HC : Hid (runL pWord ((bl s).drop j) = if pWord s[j] = true then runL pWord ((bl s).drop (j + 1)) + 1 else 0) := by
        unfold Hid; rw [bl_drop s j hlt, runL_cons]
      have hw : wrap32 (s[j].toNat : Int) = s[j].toNat := by have := s[j].toNat_lt; unfold wrap32; omega
      have D := C.out w s[j]
      cases hd : pWord s[j] with
      | true =>
        have HC2 : Hid (runL pWord ((bl s).drop j) = runL pWord ((bl s).drop (j + 1)) + 1) := HC.out.trans (if_pos hd)
        rw [hd] at D
        have D' := Lib.hid D
        clear D hd HC
        go_wp2_with (go_at_call 83; (with_reducible refine (D'.out).mono ?_); rintro e w1 ⟨rfl, rfl⟩)
        go_roundw
        case rel => exact ⟨j + 1, by omega, by go_num, by unfold Hid; rw [HR.out, HC2.out]; omega, trivial⟩
        case measure => simp [intOf]; omega
      | false =>
        have HC2 : Hid (runL pWord (bl s) = j) := by
          unfold Hid; rw [HR.out, HC.out, if_neg (by rw [hd]; decide)]; rfl
        rw [hd] at D
        have D' := Lib.hid D
        clear D hd HC
        go_wp2_with (go_at_call 83; (with_reducible refine (D'.out).mono ?_); rintro e w1 ⟨rfl, rfl⟩)
        go_ret
        exact ⟨by rw [HC2.out]; rfl, rfl⟩
    · have hjs : j = s.size := by omega
      subst hjs
      have HE : Hid (runL pWord (bl s) = s.size) := by
        unfold Hid
        rw [HR.out, List.drop_eq_nil_of_le (by rw [bl_len]; exact Nat.le_refl _), runL_nil]; rfl
      go_wp2_with fail
      go_ret
      exact ⟨by rw [HE.out]; rfl, rfl⟩

set_option maxHeartbeats 1000000 in
theorem run_num (w : World) (s : ByteArray) (hs : s.size ≤ 1000000000) : Calls Try.prog 71 #[.string s, .func (.func 86) #[] #[]] w fun e w' => e = .returned (.int .i64 (runL pNum (bl s) : Nat)) ∧ w = w' := by
  have C := Lib.hid one2_any
  go_enter Try.func71, Try.ntmps71
  go_wp2_with fail
  go_loopw [5, 8] (fun s5 s8 wr => ∃ j : Nat, j ≤ s.size ∧ s8 = .int .i64 j ∧ Hid (runL pNum (bl s) = j + runL pNum ((bl s).drop j)) ∧ w = wr) (fun _ s8 _ => s.size - (intOf s8).toNat)
  case atStart => exact ⟨0, Nat.zero_le _, rfl, by unfold Hid; simp, rfl⟩
  case round =>
    obtain ⟨j, hj, rfl, HR, rfl⟩ := hrel
    by_cases hlt : j < s.size
    · have hlt' : (j : Int) < s.size := by omega
      have HC : Hid (runL pNum ((bl s).drop j) = if pNum s[j] = true then runL pNum ((bl s).drop (j + 1)) + 1 else 0) := by
        unfold Hid; rw [bl_drop s j hlt, runL_cons]
      have hw : wrap32 (s[j].toNat : Int) = s[j].toNat := by have := s[j].toNat_lt; unfold wrap32; omega
      have D := C.out w s[j]
      cases hd : pNum s[j] with
      | true =>
        have HC2 : Hid (runL pNum ((bl s).drop j) = runL pNum ((bl s).drop (j + 1)) + 1) := HC.out.trans (if_pos hd)
        rw [hd] at D
        have D' := Lib.hid D
        clear D hd HC
        go_wp2_with (go_at_call 86; (with_reducible refine (D'.out).mono ?_); rintro e w1 ⟨rfl, rfl⟩)
        go_roundw
        case rel => exact ⟨j + 1, by omega, by go_num, by unfold Hid; rw [HR.out, HC2.out]; omega, trivial⟩
        case measure => simp [intOf]; omega
      | false =>
        have HC2 : Hid (runL pNum (bl s) = j) := by
          unfold Hid; rw [HR.out, HC.out, if_neg (by rw [hd]; decide)]; rfl
        rw [hd] at D
        have D' := Lib.hid D
        clear D hd HC
        go_wp2_with (go_at_call 86; (with_reducible refine (D'.out).mono ?_); rintro e w1 ⟨rfl, rfl⟩)
        go_ret
        exact ⟨by rw [HC2.out]; rfl, rfl⟩
    · have hjs : j = s.size := by omega
      subst hjs
      have HE : Hid (runL pNum (bl s) = s.size) := by
        unfold Hid
        rw [HR.out, List.drop_eq_nil_of_le (by rw [bl_len]; exact Nat.le_refl _), runL_nil]; rfl
      go_wp2_with fail
      go_ret
      exact ⟨by rw [HE.out]; rfl, rfl⟩

set_option maxHeartbeats 1000000 in
theorem run_line (w : World) (s : ByteArray) (hs : s.size ≤ 1000000000) : Calls Try.prog 71 #[.string s, .func (.func 72) #[] #[]] w fun e w' => e = .returned (.int .i64 (runL pLine (bl s) : Nat)) ∧ w = w' := by
  have C := Lib.hid scan1_any
  go_enter Try.func71, Try.ntmps71
  go_wp2_with fail
  go_loopw [5, 8] (fun s5 s8 wr => ∃ j : Nat, j ≤ s.size ∧ s8 = .int .i64 j ∧ Hid (runL pLine (bl s) = j + runL pLine ((bl s).drop j)) ∧ w = wr) (fun _ s8 _ => s.size - (intOf s8).toNat)
  case atStart => exact ⟨0, Nat.zero_le _, rfl, by unfold Hid; simp, rfl⟩
  case round =>
    obtain ⟨j, hj, rfl, HR, rfl⟩ := hrel
    by_cases hlt : j < s.size
    · have hlt' : (j : Int) < s.size := by omega
      have HC : Hid (runL pLine ((bl s).drop j) = if pLine s[j] = true then runL pLine ((bl s).drop (j + 1)) + 1 else 0) := by
        unfold Hid; rw [bl_drop s j hlt, runL_cons]
      have hw : wrap32 (s[j].toNat : Int) = s[j].toNat := by have := s[j].toNat_lt; unfold wrap32; omega
      have D := C.out w s[j]
      cases hd : pLine s[j] with
      | true =>
        have HC2 : Hid (runL pLine ((bl s).drop j) = runL pLine ((bl s).drop (j + 1)) + 1) := HC.out.trans (if_pos hd)
        rw [hd] at D
        have D' := Lib.hid D
        clear D hd HC
        go_wp2_with (go_at_call 72; (with_reducible refine (D'.out).mono ?_); rintro e w1 ⟨rfl, rfl⟩)
        go_roundw
        case rel => exact ⟨j + 1, by omega, by go_num, by unfold Hid; rw [HR.out, HC2.out]; omega, trivial⟩
        case measure => simp [intOf]; omega
      | false =>
        have HC2 : Hid (runL pLine (bl s) = j) := by
          unfold Hid; rw [HR.out, HC.out, if_neg (by rw [hd]; decide)]; rfl
        rw [hd] at D
        have D' := Lib.hid D
        clear D hd HC
        go_wp2_with (go_at_call 72; (with_reducible refine (D'.out).mono ?_); rintro e w1 ⟨rfl, rfl⟩)
        go_ret
        exact ⟨by rw [HC2.out]; rfl, rfl⟩
    · have hjs : j = s.size := by omega
      subst hjs
      have HE : Hid (runL pLine (bl s) = s.size) := by
        unfold Hid
        rw [HR.out, List.drop_eq_nil_of_le (by rw [bl_len]; exact Nat.le_refl _), runL_nil]; rfl
      go_wp2_with fail
      go_ret
      exact ⟨by rw [HE.out]; rfl, rfl⟩

end Go.Proofs.Ytoeepbjnbgpmpaa
