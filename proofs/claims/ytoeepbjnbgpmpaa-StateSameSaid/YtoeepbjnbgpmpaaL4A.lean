/- Contracts of the document's lexer (pontoonref04): letter, digit, starts, row, sign, remark. -/
import Derived.Test.YtoeepbjnbgpmpaaLexF
namespace Go.Proofs.Ytoeepbjnbgpmpaa
set_option linter.all false
open Go Go.RowKit

theorem rletter_any (w : World) (c : UInt8) : Calls Try.prog 62 #[.int .u8 c.toNat] w fun e w' => e = .returned (.bool (isLet c)) ∧ w = w' := by
  go_enter Try.func62, Try.ntmps62
  go_wp2
  all_goals
    go_ret
    refine ⟨congrArg (fun b => Ending.returned (Value.bool b)) ?_, rfl⟩
    rw [Bool.eq_iff_iff]
    simp [isLet]
    omega
theorem rdigit_any (w : World) (c : UInt8) : Calls Try.prog 65 #[.int .u8 c.toNat] w fun e w' => e = .returned (.bool (isDig c)) ∧ w = w' := by
  go_enter Try.func65, Try.ntmps65
  go_wp2
  all_goals
    go_ret
    refine ⟨congrArg (fun b => Ending.returned (Value.bool b)) ?_, rfl⟩
    rw [Bool.eq_iff_iff]
    simp [isDig]
    omega

theorem pre_at (s h : ByteArray) (j : Nat) (hl : j + h.size ≤ s.size) : ((s.extract j (j + h.size)).toList == h.toList) = (bl h).isPrefixOf ((bl s).drop j) := by
  rw [tl_beq, Bool.eq_iff_iff, decide_eq_true_iff, List.isPrefixOf_iff_prefix, List.prefix_iff_eq_take, bl_len]
  constructor
  · intro e
    have := congrArg bl e
    rw [bl_ex, Nat.add_sub_cancel_left] at this
    exact this.symm
  · intro e
    have : bl (s.extract j (j + h.size)) = bl h := by rw [bl_ex, Nat.add_sub_cancel_left]; exact e.symm
    rw [← mk_bl (s.extract j (j + h.size)), this, mk_bl]
set_option maxHeartbeats 1000000 in
theorem starts_any (w : World) (s h : ByteArray) (j : Nat) (hs : s.size ≤ 1000000000) (hh : h.size ≤ 1000000000) (hj : j ≤ s.size) :
    Calls Try.prog 60 #[.string s, .int .i64 j, .string h] w fun e w' => e = .returned (.bool ((bl h).isPrefixOf ((bl s).drop j))) ∧ w = w' := by
  obtain ⟨m, hm⟩ : ∃ m : Nat, m = j + h.size := ⟨_, rfl⟩
  have hwm : IntKind.i64.wrap ((j : Int) + h.size) = m := by rw [IntWalk.i64_in _ (by omega)]; omega
  have HM := Lib.hid hm
  by_cases hl : j + h.size ≤ s.size
  · have hp := pre_at s h j hl
    rw [← hm] at hp
    have hjI : (j : Int) ≤ m := by omega
    have hl' : (m : Int) ≤ s.size := by omega
    have hjs : (j : Int) ≤ s.size := by omega
    generalize (bl h).isPrefixOf ((bl s).drop j) = p at *
    clear hm hl
    go_enter Try.func60, Try.ntmps60
    go_wp2
    go_ret
    exact ⟨rfl, rfl⟩
  · have hp : (bl h).isPrefixOf ((bl s).drop j) = false := pre_far (by rw [List.length_drop, bl_len, bl_len]; omega)
    rw [hp]
    have hl' : ¬ (m : Int) ≤ s.size := by omega
    clear hm hl hp
    go_enter Try.func60, Try.ntmps60
    go_wp2
    go_ret
    exact ⟨rfl, rfl⟩

set_option maxRecDepth 100000 in
set_option maxHeartbeats 4000000 in
theorem rsign_any (w : World) (c : UInt8) : Calls Try.prog 69 #[.int .u8 c.toNat] w fun e w' => e = .returned (.bool (decide (c ∈ signSet))) ∧ w = w' := by
  obtain ⟨p, hp⟩ : ∃ p, decide (c ∈ signSet) = p := ⟨_, rfl⟩
  rw [hp]
  have HP := Lib.hid hp
  clear hp
  have hsz : sigB.size = 24 := rfl
  have hsg : sigB = ⟨#[40, 41, 44, 59, 46, 61, 60, 62, 43, 45, 42, 47, 37, 38, 124, 94, 126, 33, 64, 35, 63, 58, 91, 93]⟩ := rfl
  go_enter Try.func69, Try.ntmps69
  rw [← hsg]
  clear hsg
  go_wp2_with fail
  go_loopw [4] (fun s4 wr => ∃ j : Nat, j ≤ 24 ∧ s4 = .int .i64 j ∧ Hid (∀ i (hi : i < 24), i < j → sigB[i]'(by exact hi) ≠ c) ∧ w = wr) (fun s4 _ => 24 - (intOf s4).toNat)
  case atStart => exact ⟨0, Nat.zero_le _, rfl, fun i _ hi => absurd hi (by omega), rfl⟩
  case round =>
    obtain ⟨j, hj, rfl, HN, rfl⟩ := hrel
    by_cases hlt : j < 24
    · have hlt' : (j : Int) < 24 := by omega
      have hlt2 : j < sigB.size := hlt
      have hlt3 : (j : Int) < sigB.size := by rw [hsz]; exact hlt'
      have HC : Hid (∀ (q : sigB[j]'(by exact hlt) = c), p = true) := fun q => by rw [← HP.out]; exact decide_eq_true ((sig_mem c).2 ⟨j, hlt, q⟩)
      have HN2 : Hid (sigB[j]'(by exact hlt) ≠ c → ∀ i (hi : i < 24), i < j + 1 → sigB[i]'(by exact hi) ≠ c) := by
        intro q i hi hij
        by_cases e : i = j
        · subst e; exact q
        · exact HN.out i hi (by omega)
      obtain ⟨d, hd⟩ : ∃ d, sigB[j]'hlt2 = d := ⟨_, rfl⟩
      by_cases hdc : d = c
      · have hp := HC.out (hd.trans hdc)
        subst hp
        have hbd : ((d.toNat : Int) == c.toNat) = true := by rw [hdc]; simp
        clear HC HN2 HN hdc
        go_wp2_with fail
        go_ret
        exact ⟨rfl, rfl⟩
      · have HN3 := Lib.hid (HN2.out (fun e => hdc (hd.symm.trans e)))
        have hbd : ((d.toNat : Int) == c.toNat) = false := by
          simp only [beq_eq_false_iff_ne, ne_eq, Int.natCast_inj]; exact fun e => hdc (UInt8.toNat_inj.1 e)
        clear HC HN2 HN hdc
        go_wp2_with fail
        go_roundw
        case rel => exact ⟨j + 1, by omega, by go_num, HN3, trivial⟩
        case measure => simp [intOf]; omega
    · have hj24 : j = 24 := by omega
      subst hj24
      have hnin : p = false := by
        rw [← HP.out]
        refine decide_eq_false ?_
        rw [sig_mem]
        rintro ⟨i, hi, e⟩
        exact HN.out i hi hi e
      subst hnin
      have hlt3 : ¬ (24 : Int) < sigB.size := by rw [hsz]; omega
      clear HN
      go_wp2_with fail
      go_ret
      exact ⟨rfl, rfl⟩

set_option maxHeartbeats 2000000 in
theorem row_dig (w : World) (s : ByteArray) (a : Nat) (ha : a ≤ s.size) (hs : s.size ≤ 1000000000) :
    Calls Try.prog 63 #[.string s, .int .i64 a, .int .i64 0] w fun e w' => e = .returned (.int .i64 ((a + runL isDig ((bl s).drop a) : Nat) : Int)) ∧ w = w' := by
  obtain ⟨m, HM⟩ : ∃ m, Hid (a + runL isDig ((bl s).drop a) = m) := ⟨_, rfl⟩
  rw [HM.out]
  have CL := Lib.hid (fun w (c : UInt8) => rletter_any w c)
  have CD := Lib.hid (fun w (c : UInt8) => rdigit_any w c)
  go_enter Try.func63, Try.ntmps63
  go_wp2_with fail
  go_loopw [1] (fun s1 wr => ∃ j : Nat, j ≤ s.size ∧ s1 = .int .i64 j ∧ Hid (j + runL isDig ((bl s).drop j) = m) ∧ w = wr) (fun s1 _ => s.size - (intOf s1).toNat)
  case atStart => exact ⟨a, ha, rfl, HM, rfl⟩
  case round =>
    clear HM
    obtain ⟨j, hj, rfl, HR, rfl⟩ := hrel
    by_cases hlt : j < s.size
    · have hlt' : (j : Int) < s.size := by omega
      have HC : Hid (runL isDig ((bl s).drop j) = if isDig s[j] = true then runL isDig ((bl s).drop (j + 1)) + 1 else 0) := by
        unfold Hid; rw [bl_drop s j hlt, runL_cons]
      have HY : Hid (isDig s[j] = true → j + 1 + runL isDig ((bl s).drop (j + 1)) = m) := fun q => by rw [← HR.out, HC.out, if_pos q]; omega
      have HN : Hid (isDig s[j] = false → j = m) := fun q => by rw [← HR.out, HC.out, if_neg (by rw [q]; decide)]; rfl
      have C1 := CL.out w s[j]
      have C2 := CD.out w s[j]
      have HSP : Hid (isDig s[j] = isDig s[j]) := rfl
      clear HC HR
      cases hD : isDig s[j] with
      | true =>
        rw [hD] at C2
        have hy : isDig s[j] = true := by first | (rw [HSP.out, hD]; done) | (rw [HSP.out, hD]; rfl)
        have HY2 := Lib.hid (HY.out hy)
        have D1 := Lib.hid C1
        have D2 := Lib.hid C2
        clear C1 C2 hy HY HN HSP hD
        go_wp2_with (first | (go_at_call 65; (with_reducible refine (D2.out).mono ?_); rintro e w1 ⟨rfl, rfl⟩) | (go_at_call 62; (with_reducible refine (D1.out).mono ?_); rintro e w1 ⟨rfl, rfl⟩))
        go_roundw
        case rel => exact ⟨j + 1, by omega, by go_num, HY2, trivial⟩
        case measure => simp [intOf]; omega
      | false =>
        rw [hD] at C2
        have hy : isDig s[j] = false := by first | (rw [HSP.out, hD]; done) | (rw [HSP.out, hD]; rfl)
        have hm := HN.out hy
        subst hm
        have D1 := Lib.hid C1
        have D2 := Lib.hid C2
        clear C1 C2 hy HY HN HSP hD
        go_wp2_with (first | (go_at_call 65; (with_reducible refine (D2.out).mono ?_); rintro e w1 ⟨rfl, rfl⟩) | (go_at_call 62; (with_reducible refine (D1.out).mono ?_); rintro e w1 ⟨rfl, rfl⟩))
        go_ret
        exact ⟨rfl, rfl⟩
    · have hjs : j = s.size := by omega
      have hm : s.size = m := by
        have := HR.out
        rw [List.drop_eq_nil_of_le (by rw [bl_len]; omega), runL_nil] at this
        omega
      have hlt' : ¬ (j : Int) < s.size := by omega
      clear HR hlt
      subst hm
      subst hjs
      go_wp2_with fail
      go_ret
      exact ⟨rfl, rfl⟩

set_option maxHeartbeats 2000000 in
theorem row_word (w : World) (s : ByteArray) (a : Nat) (ha : a ≤ s.size) (hs : s.size ≤ 1000000000) :
    Calls Try.prog 63 #[.string s, .int .i64 a, .int .i64 1] w fun e w' => e = .returned (.int .i64 ((a + runL pWord ((bl s).drop a) : Nat) : Int)) ∧ w = w' := by
  obtain ⟨m, HM⟩ : ∃ m, Hid (a + runL pWord ((bl s).drop a) = m) := ⟨_, rfl⟩
  rw [HM.out]
  have CL := Lib.hid (fun w (c : UInt8) => rletter_any w c)
  have CD := Lib.hid (fun w (c : UInt8) => rdigit_any w c)
  go_enter Try.func63, Try.ntmps63
  go_wp2_with fail
  go_loopw [1] (fun s1 wr => ∃ j : Nat, j ≤ s.size ∧ s1 = .int .i64 j ∧ Hid (j + runL pWord ((bl s).drop j) = m) ∧ w = wr) (fun s1 _ => s.size - (intOf s1).toNat)
  case atStart => exact ⟨a, ha, rfl, HM, rfl⟩
  case round =>
    clear HM
    obtain ⟨j, hj, rfl, HR, rfl⟩ := hrel
    by_cases hlt : j < s.size
    · have hlt' : (j : Int) < s.size := by omega
      have HC : Hid (runL pWord ((bl s).drop j) = if pWord s[j] = true then runL pWord ((bl s).drop (j + 1)) + 1 else 0) := by
        unfold Hid; rw [bl_drop s j hlt, runL_cons]
      have HY : Hid (pWord s[j] = true → j + 1 + runL pWord ((bl s).drop (j + 1)) = m) := fun q => by rw [← HR.out, HC.out, if_pos q]; omega
      have HN : Hid (pWord s[j] = false → j = m) := fun q => by rw [← HR.out, HC.out, if_neg (by rw [q]; decide)]; rfl
      have C1 := CL.out w s[j]
      have C2 := CD.out w s[j]
      have HSP : Hid (pWord s[j] = (isLet s[j] || isDig s[j] || decide (s[j].toNat = 36))) := rfl
      clear HC HR
      cases hD : isDig s[j] with
      | true =>
        rw [hD] at C2
        cases hL : isLet s[j] with
        | true =>
          rw [hL] at C1
          have hy : pWord s[j] = true := by first | (rw [HSP.out, hL]; done) | (rw [HSP.out, hL]; rfl)
          have HY2 := Lib.hid (HY.out hy)
          have D1 := Lib.hid C1
          have D2 := Lib.hid C2
          clear C1 C2 hy HY HN HSP hD hL
          go_wp2_with (first | (go_at_call 65; (with_reducible refine (D2.out).mono ?_); rintro e w1 ⟨rfl, rfl⟩) | (go_at_call 62; (with_reducible refine (D1.out).mono ?_); rintro e w1 ⟨rfl, rfl⟩))
          go_roundw
          case rel => exact ⟨j + 1, by omega, by go_num, HY2, trivial⟩
          case measure => simp [intOf]; omega
        | false =>
          rw [hL] at C1
          have hy : pWord s[j] = true := by first | (rw [HSP.out, hL, hD]; done) | (rw [HSP.out, hL, hD]; rfl)
          have HY2 := Lib.hid (HY.out hy)
          have D1 := Lib.hid C1
          have D2 := Lib.hid C2
          clear C1 C2 hy HY HN HSP hD hL
          go_wp2_with (first | (go_at_call 65; (with_reducible refine (D2.out).mono ?_); rintro e w1 ⟨rfl, rfl⟩) | (go_at_call 62; (with_reducible refine (D1.out).mono ?_); rintro e w1 ⟨rfl, rfl⟩))
          go_roundw
          case rel => exact ⟨j + 1, by omega, by go_num, HY2, trivial⟩
          case measure => simp [intOf]; omega
      | false =>
        rw [hD] at C2
        cases hL : isLet s[j] with
        | true =>
          rw [hL] at C1
          have hy : pWord s[j] = true := by first | (rw [HSP.out, hL]; done) | (rw [HSP.out, hL]; rfl)
          have HY2 := Lib.hid (HY.out hy)
          have D1 := Lib.hid C1
          have D2 := Lib.hid C2
          clear C1 C2 hy HY HN HSP hD hL
          go_wp2_with (first | (go_at_call 65; (with_reducible refine (D2.out).mono ?_); rintro e w1 ⟨rfl, rfl⟩) | (go_at_call 62; (with_reducible refine (D1.out).mono ?_); rintro e w1 ⟨rfl, rfl⟩))
          go_roundw
          case rel => exact ⟨j + 1, by omega, by go_num, HY2, trivial⟩
          case measure => simp [intOf]; omega
        | false =>
          rw [hL] at C1
          by_cases h36 : s[j].toNat = 36
          · have hb : ((s[j].toNat : Int) == 36) = true := by simp [h36]
            have hdd : decide (s[j].toNat = 36) = true := by simp [h36]
            have hy : pWord s[j] = true := by first | (rw [HSP.out, hL, hD, hdd]; done) | (rw [HSP.out, hL, hD, hdd]; rfl)
            have HY2 := Lib.hid (HY.out hy)
            have D1 := Lib.hid C1
            have D2 := Lib.hid C2
            clear C1 C2 hy HY HN HSP hD hL h36 hdd
            go_wp2_with (first | (go_at_call 65; (with_reducible refine (D2.out).mono ?_); rintro e w1 ⟨rfl, rfl⟩) | (go_at_call 62; (with_reducible refine (D1.out).mono ?_); rintro e w1 ⟨rfl, rfl⟩))
            go_roundw
            case rel => exact ⟨j + 1, by omega, by go_num, HY2, trivial⟩
            case measure => simp [intOf]; omega
          · have hb : ((s[j].toNat : Int) == 36) = false := by simp; omega
            have hdd : decide (s[j].toNat = 36) = false := by simp [h36]
            have hy : pWord s[j] = false := by first | (rw [HSP.out, hL, hD, hdd]; done) | (rw [HSP.out, hL, hD, hdd]; rfl)
            have hm := HN.out hy
            subst hm
            have D1 := Lib.hid C1
            have D2 := Lib.hid C2
            clear C1 C2 hy HY HN HSP hD hL h36 hdd
            go_wp2_with (first | (go_at_call 65; (with_reducible refine (D2.out).mono ?_); rintro e w1 ⟨rfl, rfl⟩) | (go_at_call 62; (with_reducible refine (D1.out).mono ?_); rintro e w1 ⟨rfl, rfl⟩))
            go_ret
            exact ⟨rfl, rfl⟩
    · have hjs : j = s.size := by omega
      have hm : s.size = m := by
        have := HR.out
        rw [List.drop_eq_nil_of_le (by rw [bl_len]; omega), runL_nil] at this
        omega
      have hlt' : ¬ (j : Int) < s.size := by omega
      clear HR hlt
      subst hm
      subst hjs
      go_wp2_with fail
      go_ret
      exact ⟨rfl, rfl⟩

set_option maxHeartbeats 2000000 in
theorem row_num (w : World) (s : ByteArray) (a : Nat) (ha : a ≤ s.size) (hs : s.size ≤ 1000000000) :
    Calls Try.prog 63 #[.string s, .int .i64 a, .int .i64 4] w fun e w' => e = .returned (.int .i64 ((a + runL pNum ((bl s).drop a) : Nat) : Int)) ∧ w = w' := by
  obtain ⟨m, HM⟩ : ∃ m, Hid (a + runL pNum ((bl s).drop a) = m) := ⟨_, rfl⟩
  rw [HM.out]
  have CL := Lib.hid (fun w (c : UInt8) => rletter_any w c)
  have CD := Lib.hid (fun w (c : UInt8) => rdigit_any w c)
  go_enter Try.func63, Try.ntmps63
  go_wp2_with fail
  go_loopw [1] (fun s1 wr => ∃ j : Nat, j ≤ s.size ∧ s1 = .int .i64 j ∧ Hid (j + runL pNum ((bl s).drop j) = m) ∧ w = wr) (fun s1 _ => s.size - (intOf s1).toNat)
  case atStart => exact ⟨a, ha, rfl, HM, rfl⟩
  case round =>
    clear HM
    obtain ⟨j, hj, rfl, HR, rfl⟩ := hrel
    by_cases hlt : j < s.size
    · have hlt' : (j : Int) < s.size := by omega
      have HC : Hid (runL pNum ((bl s).drop j) = if pNum s[j] = true then runL pNum ((bl s).drop (j + 1)) + 1 else 0) := by
        unfold Hid; rw [bl_drop s j hlt, runL_cons]
      have HY : Hid (pNum s[j] = true → j + 1 + runL pNum ((bl s).drop (j + 1)) = m) := fun q => by rw [← HR.out, HC.out, if_pos q]; omega
      have HN : Hid (pNum s[j] = false → j = m) := fun q => by rw [← HR.out, HC.out, if_neg (by rw [q]; decide)]; rfl
      have C1 := CL.out w s[j]
      have C2 := CD.out w s[j]
      have HSP : Hid (pNum s[j] = (isDig s[j] || decide (s[j].toNat = 46))) := rfl
      clear HC HR
      cases hD : isDig s[j] with
      | true =>
        rw [hD] at C2
        have hy : pNum s[j] = true := by first | (rw [HSP.out, hD]; done) | (rw [HSP.out, hD]; rfl)
        have HY2 := Lib.hid (HY.out hy)
        have D1 := Lib.hid C1
        have D2 := Lib.hid C2
        clear C1 C2 hy HY HN HSP hD
        go_wp2_with (first | (go_at_call 65; (with_reducible refine (D2.out).mono ?_); rintro e w1 ⟨rfl, rfl⟩) | (go_at_call 62; (with_reducible refine (D1.out).mono ?_); rintro e w1 ⟨rfl, rfl⟩))
        go_roundw
        case rel => exact ⟨j + 1, by omega, by go_num, HY2, trivial⟩
        case measure => simp [intOf]; omega
      | false =>
        rw [hD] at C2
        by_cases h46 : s[j].toNat = 46
        · have hb : ((s[j].toNat : Int) == 46) = true := by simp [h46]
          have hdd : decide (s[j].toNat = 46) = true := by simp [h46]
          have hy : pNum s[j] = true := by first | (rw [HSP.out, hD, hdd]; done) | (rw [HSP.out, hD, hdd]; rfl)
          have HY2 := Lib.hid (HY.out hy)
          have D1 := Lib.hid C1
          have D2 := Lib.hid C2
          clear C1 C2 hy HY HN HSP hD h46 hdd
          go_wp2_with (first | (go_at_call 65; (with_reducible refine (D2.out).mono ?_); rintro e w1 ⟨rfl, rfl⟩) | (go_at_call 62; (with_reducible refine (D1.out).mono ?_); rintro e w1 ⟨rfl, rfl⟩))
          go_roundw
          case rel => exact ⟨j + 1, by omega, by go_num, HY2, trivial⟩
          case measure => simp [intOf]; omega
        · have hb : ((s[j].toNat : Int) == 46) = false := by simp; omega
          have hdd : decide (s[j].toNat = 46) = false := by simp [h46]
          have hy : pNum s[j] = false := by first | (rw [HSP.out, hD, hdd]; done) | (rw [HSP.out, hD, hdd]; rfl)
          have hm := HN.out hy
          subst hm
          have D1 := Lib.hid C1
          have D2 := Lib.hid C2
          clear C1 C2 hy HY HN HSP hD h46 hdd
          go_wp2_with (first | (go_at_call 65; (with_reducible refine (D2.out).mono ?_); rintro e w1 ⟨rfl, rfl⟩) | (go_at_call 62; (with_reducible refine (D1.out).mono ?_); rintro e w1 ⟨rfl, rfl⟩))
          go_ret
          exact ⟨rfl, rfl⟩
    · have hjs : j = s.size := by omega
      have hm : s.size = m := by
        have := HR.out
        rw [List.drop_eq_nil_of_le (by rw [bl_len]; omega), runL_nil] at this
        omega
      have hlt' : ¬ (j : Int) < s.size := by omega
      clear HR hlt
      subst hm
      subst hjs
      go_wp2_with fail
      go_ret
      exact ⟨rfl, rfl⟩

end Go.Proofs.Ytoeepbjnbgpmpaa
