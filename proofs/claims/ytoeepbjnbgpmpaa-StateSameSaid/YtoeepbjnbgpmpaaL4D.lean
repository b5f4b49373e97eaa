/- Contracts of the document's lexer (pontoonref04): tag, dollar, small. -/
import Derived.Test.YtoeepbjnbgpmpaaL4C
namespace Go.Proofs.Ytoeepbjnbgpmpaa
set_option linter.all false
open Go Go.RowKit


theorem tagL_end (t : List UInt8) : (t.drop (tagN t) = [] ∧ tagL t = none) ∨ ∃ c r, t.drop (tagN t) = c :: r ∧ tagL t = if c.toNat = 36 then some (tagN t + 2) else none := by
  unfold tagL
  cases t.drop (tagN t) with
  | nil => exact .inl ⟨rfl, rfl⟩
  | cons c r => exact .inr ⟨c, r, rfl, rfl⟩

set_option maxRecDepth 100000 in
set_option maxHeartbeats 8000000 in
theorem rtag_any (w : World) (s : ByteArray) (a : Nat) (ha : a < s.size) (hs : s.size ≤ 1000000000) :
    Calls Try.prog 67 #[.string s, .int .i64 a] w fun e w' => e = .returned (.int .i64 (optA a (tagL ((bl s).drop (a + 1))))) ∧ w = w' := by
  obtain ⟨n, hn⟩ : ∃ n, tagN ((bl s).drop (a + 1)) = n := ⟨_, rfl⟩
  obtain ⟨res, hres⟩ : ∃ res, tagL ((bl s).drop (a + 1)) = res := ⟨_, rfl⟩
  have hend := tagL_end ((bl s).drop (a + 1))
  rw [hn, hres, List.drop_drop] at hend
  have HEND := Lib.hid hend
  have HT : Hid (n = if h : a + 1 < s.size then (if isLet s[a + 1] = true then runL pLD ((bl s).drop (a + 1)) else 0) else 0) := by
    unfold Hid
    rw [← hn]
    by_cases h : a + 1 < s.size
    · rw [dif_pos h, bl_drop s _ h]; rfl
    · rw [dif_neg h, List.drop_eq_nil_of_le (by rw [bl_len]; omega)]; rfl
  rw [hres]
  have CL := Lib.hid (fun w (c : UInt8) => rletter_any w c)
  have CD := Lib.hid (fun w (c : UInt8) => rdigit_any w c)
  have hnle : a + 1 + n ≤ s.size := by
    rw [← hn]
    unfold tagN
    split
    · omega
    · rename_i c r e
      have h1 := runL_le pLD (c :: r)
      have h2 : (c :: r).length = s.size - (a + 1) := by rw [← e, List.length_drop, bl_len]
      split <;> omega
  clear hn hres hend
  go_enter Try.func67, Try.ntmps67
  go_wp2_with fail
  go_loopw [5] (fun s5 wr => ∃ m : Nat, m ≤ n ∧ s5 = .int .i64 (a + 1 + m : Nat) ∧ Hid (m = 0 ∨ n = m + runL pLD ((bl s).drop (a + 1 + m))) ∧ w = wr) (fun s5 _ => s.size - (intOf s5).toNat)
  case atStart => exact ⟨0, Nat.zero_le _, by go_num, .inl rfl, rfl⟩
  case round =>
    obtain ⟨m, hm, rfl, HR, rfl⟩ := hrel
    obtain ⟨j, hj⟩ : ∃ j, j = a + 1 + m := ⟨_, rfl⟩
    rw [← hj]
    have HJ := Lib.hid hj
    have hjs : j ≤ s.size := by omega
    -- the end
    have HFIN : Hid (m = n → ((∃ h : j < s.size, s[j].toNat = 36 ∧ res = some (n + 2)) ∨ (∃ h : j < s.size, s[j].toNat ≠ 36 ∧ res = none) ∨ (j = s.size ∧ res = none))) := by
      rintro rfl
      have hend := HEND.out
      rw [← hj] at hend
      by_cases hlt : j < s.size
      · rw [bl_drop s j hlt] at hend
        rcases hend with ⟨h1, _⟩ | ⟨c, r, h1, h2⟩
        · cases h1
        · simp only [List.cons.injEq] at h1
          rw [← h1.1] at h2
          by_cases h36 : s[j].toNat = 36
          · left; exact ⟨hlt, h36, by rw [h2, if_pos h36]⟩
          · right; left; exact ⟨hlt, h36, by rw [h2, if_neg h36]⟩
      · right; right
        refine ⟨by omega, ?_⟩
        rw [List.drop_eq_nil_of_le (by rw [bl_len]; omega)] at hend
        rcases hend with ⟨_, h2⟩ | ⟨c, r, h1, _⟩
        · exact h2
        · cases h1
    by_cases hlt : j < s.size
    · have hlt' : (j : Int) < s.size := by omega
      have C1 := fun w => CL.out w s[j]
      have C2 := fun w => CD.out w s[j]
      have HSTEP : Hid (n = m + (if m = 0 then (if isLet s[j] = true then runL pLD ((bl s).drop j) else 0) else (if pLD s[j] = true then runL pLD ((bl s).drop (j + 1)) + 1 else 0))) := by
        unfold Hid
        by_cases h0 : m = 0
        · rw [if_pos h0]
          have ht := HT.out
          have hja : j = a + 1 := by omega
          subst hja
          rw [dif_pos hlt] at ht
          omega
        · rw [if_neg h0]
          rcases HR.out with q | q
          · exact absurd q h0
          · rw [← hj, bl_drop s j hlt, runL_cons] at q
            exact q
      have HL1 : Hid (isLet s[j] = true → m + 1 ≤ n ∧ n = m + 1 + runL pLD ((bl s).drop (j + 1))) := by
        intro q
        have h := HSTEP.out
        have hp : pLD s[j] = true := by unfold pLD; rw [q]; rfl
        have hr : runL pLD ((bl s).drop j) = runL pLD ((bl s).drop (j + 1)) + 1 := by rw [bl_drop s j hlt, runL_cons, if_pos hp]
        by_cases h0 : m = 0
        · rw [if_pos h0, if_pos q, hr] at h; omega
        · rw [if_neg h0, if_pos hp] at h; omega
      have HL0 : Hid (isLet s[j] = false → m = 0 → m = n) := by
        intro q h0
        have h := HSTEP.out
        rw [if_pos h0, if_neg (by rw [q]; decide)] at h
        omega
      have HD1 : Hid (isDig s[j] = true → m ≠ 0 → m + 1 ≤ n ∧ n = m + 1 + runL pLD ((bl s).drop (j + 1))) := by
        intro q h0
        have h := HSTEP.out
        have hp : pLD s[j] = true := by unfold pLD; rw [q]; simp
        rw [if_neg h0, if_pos hp] at h; omega
      have HD0 : Hid (isLet s[j] = false → isDig s[j] = false → m = n) := by
        intro q q2
        have h := HSTEP.out
        have hp : pLD s[j] = false := by unfold pLD; rw [q, q2]; rfl
        by_cases h0 : m = 0
        · rw [if_pos h0, if_neg (by rw [q]; decide)] at h; omega
        · rw [if_neg h0, if_neg (by rw [hp]; decide)] at h; omega
      clear HSTEP HT HEND
      cases hL : isLet s[j] with
      | true =>
        rw [hL] at C1
        obtain ⟨g1, g2⟩ := HL1.out hL
        have D1 := Lib.hid C1
        have HG := Lib.hid g2
        clear C1 C2 hL HL1 HL0 HD1 HD0 HR HFIN hj g2
        go_wp2_with (go_at_call 62; (with_reducible refine (D1.out _).mono ?_); rintro e w1 ⟨rfl, rfl⟩)
        go_roundw
        case rel => exact ⟨m + 1, g1, by have := HJ.out; go_num, .inr (by have := HJ.out; have := HG.out; rw [show a + 1 + (m + 1) = j + 1 by omega]; exact this), trivial⟩
        case measure => simp [intOf]; omega
      | false =>
        rw [hL] at C1
        have D1 := Lib.hid C1
        by_cases h0 : m = 0
        · have hmn := HL0.out hL h0
          have hja : (j : Int) = a + 1 := by omega
          have hng : ¬ (a : Int) + 1 < j := by omega
          have hfin := HFIN.out hmn
          have HMN := Lib.hid hmn
          clear C1 C2 hL HL1 HL0 HD1 HD0 HR HFIN hj hmn h0 hja
          rcases hfin with ⟨_, h36, rfl⟩ | ⟨_, h36, rfl⟩ | ⟨h1, _⟩
          · have hb : ((s[j].toNat : Int) == 36) = true := by simp [h36]
            clear h36
            go_wp2_with (
              first | (go_at_call 62; (with_reducible refine (D1.out _).mono ?_); rintro e w1 ⟨rfl, rfl⟩) | (go_at_call 65; (with_reducible refine (D2.out _).mono ?_); rintro e w1 ⟨rfl, rfl⟩))
            go_ret
            exact ⟨by have := HJ.out; have := HMN.out; simp only [optA]; go_num, rfl⟩
          · have hb : ((s[j].toNat : Int) == 36) = false := by simp; omega
            clear h36
            go_wp2_with (
              first | (go_at_call 62; (with_reducible refine (D1.out _).mono ?_); rintro e w1 ⟨rfl, rfl⟩) | (go_at_call 65; (with_reducible refine (D2.out _).mono ?_); rintro e w1 ⟨rfl, rfl⟩))
            go_ret
            exact ⟨rfl, rfl⟩
          · omega
        · have hng : (a : Int) + 1 < j := by omega
          cases hD : isDig s[j] with
          | true =>
            rw [hD] at C2
            obtain ⟨g1, g2⟩ := HD1.out hD h0
            have D2 := Lib.hid C2
            have HG := Lib.hid g2
            clear C1 C2 hL hD HL1 HL0 HD1 HD0 HR HFIN hj g2 h0
            go_wp2_with (
              first | (go_at_call 62; (with_reducible refine (D1.out _).mono ?_); rintro e w1 ⟨rfl, rfl⟩) | (go_at_call 65; (with_reducible refine (D2.out _).mono ?_); rintro e w1 ⟨rfl, rfl⟩))
            go_roundw
            case rel => exact ⟨m + 1, g1, by have := HJ.out; go_num, .inr (by have := HJ.out; have := HG.out; rw [show a + 1 + (m + 1) = j + 1 by omega]; exact this), trivial⟩
            case measure => simp [intOf]; omega
          | false =>
            rw [hD] at C2
            have D2 := Lib.hid C2
            have hmn := HD0.out hL hD
            have hfin := HFIN.out hmn
            have HMN := Lib.hid hmn
            clear C1 C2 hL hD HL1 HL0 HD1 HD0 HR HFIN hj h0 hmn
            rcases hfin with ⟨_, h36, rfl⟩ | ⟨_, h36, rfl⟩ | ⟨h1, _⟩
            · have hb : ((s[j].toNat : Int) == 36) = true := by simp [h36]
              clear h36
              go_wp2_with (
                first | (go_at_call 62; (with_reducible refine (D1.out _).mono ?_); rintro e w1 ⟨rfl, rfl⟩) | (go_at_call 65; (with_reducible refine (D2.out _).mono ?_); rintro e w1 ⟨rfl, rfl⟩))
              go_ret
              exact ⟨by have := HJ.out; have := HMN.out; simp only [optA]; go_num, rfl⟩
            · have hb : ((s[j].toNat : Int) == 36) = false := by simp; omega
              clear h36
              go_wp2_with (
                first | (go_at_call 62; (with_reducible refine (D1.out _).mono ?_); rintro e w1 ⟨rfl, rfl⟩) | (go_at_call 65; (with_reducible refine (D2.out _).mono ?_); rintro e w1 ⟨rfl, rfl⟩))
              go_ret
              exact ⟨rfl, rfl⟩
            · omega
    · have hmn : m = n := by
        by_cases h0 : m = 0
        · have ht := HT.out
          rw [dif_neg (by omega)] at ht
          omega
        · rcases HR.out with q | q
          · exact absurd q h0
          · rw [List.drop_eq_nil_of_le (by rw [bl_len]; omega), runL_nil] at q
            omega
      have hfin := HFIN.out hmn
      have hlt' : ¬ (j : Int) < s.size := by omega
      have hr : res = none := by
        rcases hfin with ⟨h1, _⟩ | ⟨h1, _⟩ | ⟨_, h1⟩
        · exact absurd h1 hlt
        · exact absurd h1 hlt
        · exact h1
      subst hr
      clear HR HFIN HT HEND hj hlt hmn hfin
      go_wp2_with fail
      go_ret
      exact ⟨rfl, rfl⟩

end Go.Proofs.Ytoeepbjnbgpmpaa
