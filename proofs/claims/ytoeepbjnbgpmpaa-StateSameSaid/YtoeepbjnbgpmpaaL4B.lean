/- Contracts of the document's lexer (pontoonref04): remark, gap. -/
import Derived.Test.YtoeepbjnbgpmpaaL4A
namespace Go.Proofs.Ytoeepbjnbgpmpaa
set_option linter.all false
open Go Go.RowKit

def optA (a : Nat) : Option Nat → Int
  | some n => (a + n : Nat)
  | none => -1

set_option maxHeartbeats 4000000 in
theorem rremark_any (w : World) (s : ByteArray) (a : Nat) (ha : a ≤ s.size) (hs : s.size ≤ 1000000000) :
    Calls Try.prog 61 #[.string s, .int .i64 a] w fun e w' => e = .returned (.int .i64 (optA a (remL ((bl s).drop a) 0 0))) ∧ w = w' := by
  obtain ⟨res, HX⟩ : ∃ res, Hid (remL ((bl s).drop a) 0 0 = res) := ⟨_, rfl⟩
  rw [HX.out]
  go_enter Try.func61, Try.ntmps61
  go_wp2_with fail
  go_loopw [1, 5] (fun s1 s5 wr => ∃ (i : Nat) (d : Int), a + i ≤ s.size ∧ s1 = .int .i64 (a + i : Nat) ∧ s5 = .int .i64 d ∧ -(i : Int) ≤ d ∧ d ≤ i ∧ Hid (remL ((bl s).drop (a + i)) d i = res) ∧ w = wr) (fun s1 _ _ => s.size - (intOf s1).toNat)
  case atStart => exact ⟨0, 0, ha, rfl, rfl, by omega, by omega, HX, rfl⟩
  case round =>
    clear HX
    obtain ⟨i, d, hi, rfl, rfl, hd1, hd2, HR, rfl⟩ := hrel
    obtain ⟨j, hj⟩ : ∃ j, j = a + i := ⟨_, rfl⟩
    have HJ := Lib.hid hj
    rw [← hj] at hi HR
    rw [← hj]
    have hia : i ≤ j := by omega
    by_cases hlt : j < s.size
    · have hlt' : (j : Int) < s.size := by omega
      have HS := Lib.hid (remL_step ((bl s).drop j) d i)
      have hne : (bl s).drop j ≠ [] := by rw [bl_drop s j hlt]; simp
      have C1 := fun w => starts_any w s ⟨#[47, 42]⟩ j hs (by decide) (by omega)
      have C2 := fun w => starts_any w s ⟨#[42, 47]⟩ j hs (by decide) (by omega)
      rw [show bl ⟨#[47, 42]⟩ = [47, 42] from rfl] at C1
      rw [show bl ⟨#[42, 47]⟩ = [42, 47] from rfl] at C2
      have hlen : ((bl s).drop j).length = s.size - j := by rw [List.length_drop, bl_len]
      have two : ∀ (a b : UInt8), [a, b].isPrefixOf ((bl s).drop j) = true → j + 2 ≤ s.size := by
        intro a b q
        have := (List.isPrefixOf_iff_prefix.1 q).length_le
        rw [hlen] at this
        simp at this; omega
      cases h1 : [47, 42].isPrefixOf ((bl s).drop j) with
      | true =>
        have h2' := two _ _ h1
        have HN : Hid (remL ((bl s).drop (j + 2)) (d + 1) (i + 2) = res) := by
          unfold Hid; rw [← HR.out, HS.out, if_neg hne, if_pos h1, List.drop_drop]
        rw [h1] at C1
        have D1 := Lib.hid C1
        clear C1 C2 HS hne h1 two HR hlen hj
        go_wp2_with (go_at_call 60; (with_reducible refine (D1.out _).mono ?_); rintro e w1 ⟨rfl, rfl⟩)
        go_roundw
        case rel => exact ⟨i + 2, d + 1, by have := HJ.out; omega, by have := HJ.out; go_num, by go_num, by omega, by omega, by have := HJ.out; rw [show a + (i + 2) = j + 2 by omega]; exact HN, trivial⟩
        case measure => simp [intOf]; omega
      | false =>
        cases h2 : [42, 47].isPrefixOf ((bl s).drop j) with
        | true =>
          have h2' := two _ _ h2
          have HN : Hid ((if d = 1 then some (i + 2) else remL ((bl s).drop (j + 2)) (d - 1) (i + 2)) = res) := by
            have q := HR.out
            rw [HS.out, if_neg hne, if_neg (by rw [h1]; decide), if_pos h2, List.drop_drop] at q
            exact q
          rw [h1] at C1
          rw [h2] at C2
          have D1 := Lib.hid C1
          have D2 := Lib.hid C2
          clear C1 C2 HS hne h1 h2 two HR hlen hj
          by_cases hd : d = 1
          · have HN2 : res = some (i + 2) := by rw [← HN.out, if_pos hd]
            subst HN2
            subst hd
            clear HN
            go_wp2_with (go_at_call 60; (first | (with_reducible refine (D1.out _).mono ?_) | (with_reducible refine (D2.out _).mono ?_)); rintro e w1 ⟨rfl, rfl⟩)
            go_ret
            exact ⟨by have := HJ.out; simp only [optA]; go_num, rfl⟩
          · have HN2 : Hid (remL ((bl s).drop (j + 2)) (d - 1) (i + 2) = res) := by unfold Hid; rw [← HN.out, if_neg hd]
            have hd' : (d - 1 == 0) = false := by simp; omega
            clear hd HN
            go_wp2_with (go_at_call 60; (first | (with_reducible refine (D1.out _).mono ?_) | (with_reducible refine (D2.out _).mono ?_)); rintro e w1 ⟨rfl, rfl⟩)
            go_roundw
            case rel => exact ⟨i + 2, d - 1, by have := HJ.out; omega, by have := HJ.out; go_num, by go_num, by omega, by omega, by have := HJ.out; rw [show a + (i + 2) = j + 2 by omega]; exact HN2, trivial⟩
            case measure => simp [intOf]; omega
        | false =>
          have HN : Hid (remL ((bl s).drop (j + 1)) d (i + 1) = res) := by
            unfold Hid; rw [← HR.out, HS.out, if_neg hne, if_neg (by rw [h1]; decide), if_neg (by rw [h2]; decide), List.drop_drop]
          rw [h1] at C1
          rw [h2] at C2
          have D1 := Lib.hid C1
          have D2 := Lib.hid C2
          clear C1 C2 HS hne h1 h2 two HR hlen hj
          go_wp2_with (go_at_call 60; (first | (with_reducible refine (D1.out _).mono ?_) | (with_reducible refine (D2.out _).mono ?_)); rintro e w1 ⟨rfl, rfl⟩)
          go_roundw
          case rel => exact ⟨i + 1, d, by have := HJ.out; omega, by have := HJ.out; go_num, rfl, by omega, by omega, by have := HJ.out; rw [show a + (i + 1) = j + 1 by omega]; exact HN, trivial⟩
          case measure => simp [intOf]; omega
    · have HE : res = none := by
        rw [← HR.out, List.drop_eq_nil_of_le (by rw [bl_len]; omega)]; rfl
      subst HE
      have hlt' : ¬ (j : Int) < s.size := by omega
      clear HR hlt hj
      go_wp2_with fail
      go_ret
      exact ⟨rfl, rfl⟩

/-- What is scanned from one place on is what is scanned from another one on. -/
def Reach (s : ByteArray) (j j' : Nat) : Prop := ∀ f acc res, s.size - j < f → scanF f ((bl s).drop j) j acc = res → ∃ f', s.size - j' < f' ∧ scanF f' ((bl s).drop j') j' acc = res
theorem Reach.refl (s : ByteArray) (j : Nat) : Reach s j j := fun f _ _ h1 h2 => ⟨f, h1, h2⟩
theorem Reach.trans {s : ByteArray} {a b c : Nat} (h1 : Reach s a b) (h2 : Reach s b c) : Reach s a c := fun f acc res p q => by
  obtain ⟨f', p', q'⟩ := h1 f acc res p q
  exact h2 f' acc res p' q'
/-- No blank and no remark begins there. -/
def NoSkip (s : ByteArray) (j : Nat) : Prop := ∃ h : j < s.size, isBlank s[j] = false ∧ [45, 45].isPrefixOf (s[j] :: (bl s).drop (j + 1)) = false ∧ [47, 42].isPrefixOf (s[j] :: (bl s).drop (j + 1)) = false
theorem scan_at (s : ByteArray) (j f : Nat) (acc : List Tok) (h : j < s.size) : scanF (f + 1) ((bl s).drop j) j acc = scanF (f + 1) (s[j] :: (bl s).drop (j + 1)) j acc := by rw [bl_drop s j h]
theorem drop_at (s : ByteArray) (j n : Nat) (h : j < s.size) : (s[j] :: (bl s).drop (j + 1)).drop n = (bl s).drop (j + n) := by rw [← bl_drop s j h, List.drop_drop]
theorem reach_blank {s : ByteArray} {j : Nat} (h : j < s.size) (hb : isBlank s[j] = true) : Reach s j (j + 1) := fun f acc res p q => by
  obtain ⟨f, rfl⟩ : ∃ g, f = g + 1 := ⟨f - 1, by omega⟩
  rw [scan_at s j f acc h, scanF, if_pos hb] at q
  exact ⟨f, by omega, q⟩
theorem reach_line {s : ByteArray} {j : Nat} (h : j < s.size) (hb : isBlank s[j] = false) (hp : [45, 45].isPrefixOf (s[j] :: (bl s).drop (j + 1)) = true) :
    Reach s j (j + runL pLine (s[j] :: (bl s).drop (j + 1))) := fun f acc res p q => by
  obtain ⟨f, rfl⟩ : ∃ g, f = g + 1 := ⟨f - 1, by omega⟩
  rw [scan_at s j f acc h, scanF, if_neg (by rw [hb]; decide), if_pos hp, drop_at s j _ h] at q
  have hpos : 0 < runL pLine (s[j] :: (bl s).drop (j + 1)) := by
    rw [runL_cons, if_pos]
    · omega
    · have : s[j] = 45 := by simp [List.isPrefixOf] at hp; exact hp.1.symm
      rw [this]; decide
  exact ⟨f, by omega, q⟩
theorem reach_rem {s : ByteArray} {j n : Nat} (h : j < s.size) (hb : isBlank s[j] = false) (h1 : [45, 45].isPrefixOf (s[j] :: (bl s).drop (j + 1)) = false) (h2 : [47, 42].isPrefixOf (s[j] :: (bl s).drop (j + 1)) = true)
    (hm : remL (s[j] :: (bl s).drop (j + 1)) 0 0 = some n) : Reach s j (j + n) := fun f acc res p q => by
  obtain ⟨f, rfl⟩ : ∃ g, f = g + 1 := ⟨f - 1, by omega⟩
  rw [scan_at s j f acc h, scanF, if_neg (by rw [hb]; decide), if_neg (by rw [h1]; decide), if_pos h2, hm] at q
  simp only at q
  rw [drop_at s j _ h] at q
  have := remL_range _ _ _ _ hm
  exact ⟨f, by omega, q⟩
/-- It ends there, for a remark that does not end. -/
def Stuck (s : ByteArray) (j : Nat) : Prop := ∀ f acc res, s.size - j < f → scanF f ((bl s).drop j) j acc = res → res = .err 6 j
theorem stuck_rem {s : ByteArray} {j : Nat} (h : j < s.size) (hb : isBlank s[j] = false) (h1 : [45, 45].isPrefixOf (s[j] :: (bl s).drop (j + 1)) = false) (h2 : [47, 42].isPrefixOf (s[j] :: (bl s).drop (j + 1)) = true)
    (hm : remL (s[j] :: (bl s).drop (j + 1)) 0 0 = none) : Stuck s j := fun f acc res p q => by
  obtain ⟨f, rfl⟩ : ∃ g, f = g + 1 := ⟨f - 1, by omega⟩
  rw [scan_at s j f acc h, scanF, if_neg (by rw [hb]; decide), if_neg (by rw [h1]; decide), if_pos h2, hm] at q
  exact q.symm

/-- Where gap comes to. -/
def GapQ (s : ByteArray) (a j : Nat) (bad : Bool) : Prop := a ≤ j ∧ j ≤ s.size ∧ Reach s a j ∧ (bad = true → j < s.size ∧ Stuck s j) ∧ (bad = false → j < s.size → NoSkip s j)
set_option maxRecDepth 100000 in
set_option maxHeartbeats 8000000 in
theorem gap_any (w : World) (s : ByteArray) (a : Nat) (ha : a ≤ s.size) (hs : s.size ≤ 1000000000) :
    Calls Try.prog 47 #[.string s, .int .i64 a] w fun e w' => ∃ (j : Nat) (bad : Bool), e = .returned (.tuple #[.int .i64 j, .bool bad]) ∧ GapQ s a j bad ∧ w = w' := by
  go_enter Try.func47, Try.ntmps47
  go_wp2_with fail
  go_loopw [1] (fun s1 wr => ∃ j : Nat, a ≤ j ∧ j ≤ s.size ∧ s1 = .int .i64 j ∧ Hid (Reach s a j) ∧ w = wr) (fun s1 _ => s.size - (intOf s1).toNat)
  case atStart => exact ⟨a, Nat.le_refl _, ha, rfl, Reach.refl s a, rfl⟩
  case round =>
    obtain ⟨j, haj, hj, rfl, HR, rfl⟩ := hrel
    by_cases hlt : j < s.size
    · have hlt' : (j : Int) < s.size := by omega
      have C1 := fun w => starts_any w s ⟨#[45, 45]⟩ j hs (by decide) (by omega)
      have C2 := fun w => starts_any w s ⟨#[47, 42]⟩ j hs (by decide) (by omega)
      have C3 := fun w => rremark_any w s j hj hs
      rw [bl_drop s j hlt] at C1 C2 C3
      rw [show bl ⟨#[45, 45]⟩ = [45, 45] from rfl] at C1
      rw [show bl ⟨#[47, 42]⟩ = [47, 42] from rfl] at C2
      have hblank : isBlank s[j] = (((s[j].toNat : Int) == 32) || ((s[j].toNat : Int) == 9) || ((s[j].toNat : Int) == 10) || ((s[j].toNat : Int) == 12) || ((s[j].toNat : Int) == 13)) := by
        rw [Bool.eq_iff_iff]; simp [isBlank]; omega
      cases hbk : isBlank s[j] with
      | true =>
        have HN : Hid (Reach s a (j + 1)) := HR.out.trans (reach_blank hlt hbk)
        rw [hbk] at hblank
        have hb := hblank.symm
        clear C1 C2 C3 hblank hbk HR
        go_wp2_with fail
        all_goals
          go_roundw
          case rel => exact ⟨j + 1, by omega, by omega, by go_num, HN, trivial⟩
          case measure => simp [intOf]; omega
      | false =>
        have hq : s[j].toNat ≠ 32 ∧ s[j].toNat ≠ 9 ∧ s[j].toNat ≠ 10 ∧ s[j].toNat ≠ 12 ∧ s[j].toNat ≠ 13 := by have := hbk; simp [isBlank] at this; omega
        obtain ⟨q1, q2, q3, q4, q5⟩ := hq
        have b1 : ((s[j].toNat : Int) == 32) = false := by simp; omega
        have b2 : ((s[j].toNat : Int) == 9) = false := by simp; omega
        have b3 : ((s[j].toNat : Int) == 10) = false := by simp; omega
        have b4 : ((s[j].toNat : Int) == 12) = false := by simp; omega
        have b5 : ((s[j].toNat : Int) == 13) = false := by simp; omega
        clear hblank q1 q2 q3 q4 q5
        cases h1 : [45, 45].isPrefixOf (s[j] :: (bl s).drop (j + 1)) with
        | true =>
          rw [h1] at C1
          have HN : Hid (Reach s a (j + runL pLine (s[j] :: (bl s).drop (j + 1)))) := HR.out.trans (reach_line hlt hbk h1)
          have hle := runL_le pLine (s[j] :: (bl s).drop (j + 1))
          have hlen : (s[j] :: (bl s).drop (j + 1)).length = s.size - j := by rw [List.length_cons, List.length_drop, bl_len]; omega
          have hpos : 0 < runL pLine (s[j] :: (bl s).drop (j + 1)) := by
            rw [runL_cons, if_pos]
            · omega
            · have : s[j] = 45 := by simp [List.isPrefixOf] at h1; exact h1.1.symm
              rw [this]; decide
          have HM : Hid (j + runL pLine ((bl s).drop j) = j + runL pLine (s[j] :: (bl s).drop (j + 1))) := by unfold Hid; rw [bl_drop s j hlt]
          obtain ⟨m, hm⟩ : ∃ m, m = j + runL pLine (s[j] :: (bl s).drop (j + 1)) := ⟨_, rfl⟩
          rw [← hm] at HN HM
          have hm1 : j < m := by omega
          have hm2 : m ≤ s.size := by omega
          have D1 := Lib.hid C1
          clear C1 C2 C3 h1 hle hlen hpos hm hbk HR
          go_wp2_with (go_at_call 60; (with_reducible refine (D1.out _).mono ?_); rintro e w1 ⟨rfl, rfl⟩)
          go_loopw [1] (fun s1 wr => ∃ i : Nat, j ≤ i ∧ i ≤ s.size ∧ s1 = .int .i64 i ∧ Hid (i + runL pLine ((bl s).drop i) = m) ∧ w = wr) (fun s1 _ => s.size - (intOf s1).toNat)
          case atStart => exact ⟨j, Nat.le_refl _, hj, rfl, HM, rfl⟩
          case round =>
            clear HM
            obtain ⟨i, hji, hi, rfl, HI, rfl⟩ := hrel
            by_cases hil : i < s.size
            · have hil' : (i : Int) < s.size := by omega
              have hst := HI.out
              rw [bl_drop s i hil, runL_cons] at hst
              by_cases h10 : s[i].toNat = 10
              · have hb : ((s[i].toNat : Int) == 10) = true := by simp [h10]
                have hmi : i = m := by rw [if_neg (by simp [pLine, h10])] at hst; exact hst
                subst hmi
                clear hst h10 HI
                go_wp2_with fail
                go_roundw
                case rel => exact ⟨i, by omega, by omega, rfl, HN, trivial⟩
                case measure => simp [intOf]; omega
              · have hb : ((s[i].toNat : Int) == 10) = false := by simp; omega
                have HI2 : Hid (i + 1 + runL pLine ((bl s).drop (i + 1)) = m) := by unfold Hid; rw [if_pos (by simp [pLine, h10])] at hst; omega
                clear hst h10 HI
                go_wp2_with fail
                go_roundw
                case rel => exact ⟨i + 1, by omega, by omega, by go_num, HI2, trivial⟩
                case measure => simp [intOf]; omega
            · have his : i = s.size := by omega
              have hmi : s.size = m := by
                have := HI.out
                rw [List.drop_eq_nil_of_le (by rw [bl_len]; omega), runL_nil] at this
                omega
              subst hmi
              subst his
              have hil' : ¬ (s.size : Int) < s.size := by omega
              clear HI hil
              go_wp2_with fail
              go_roundw
              case rel => exact ⟨s.size, by omega, Nat.le_refl _, rfl, HN, trivial⟩
              case measure => simp [intOf]; omega
        | false =>
          rw [h1] at C1
          have D1 := Lib.hid C1
          clear C1
          cases h2 : [47, 42].isPrefixOf (s[j] :: (bl s).drop (j + 1)) with
          | true =>
            rw [h2] at C2
            have D2 := Lib.hid C2
            cases hm : remL (s[j] :: (bl s).drop (j + 1)) 0 0 with
            | none =>
              have HG : Hid (GapQ s a j true) := ⟨haj, hj, HR.out, fun _ => ⟨hlt, stuck_rem hlt hbk h1 h2 hm⟩, fun q => (by cases q)⟩
              rw [hm] at C3
              simp only [optA] at C3
              have D3 := Lib.hid C3
              clear C2 C3 h1 h2 hm hbk HR
              go_wp2_with (first | (go_at_call 60; (first | (with_reducible refine (D1.out _).mono ?_) | (with_reducible refine (D2.out _).mono ?_)); rintro e w1 ⟨rfl, rfl⟩) | (go_at_call 61; (with_reducible refine (D3.out _).mono ?_); rintro e w1 ⟨rfl, rfl⟩))
              go_ret2
              exact ⟨j, true, rfl, HG.out, rfl⟩
            | some n =>
              have hrg := remL_range _ _ _ _ hm
              have hlen : (s[j] :: (bl s).drop (j + 1)).length = s.size - j := by rw [List.length_cons, List.length_drop, bl_len]; omega
              have HN : Hid (Reach s a (j + n)) := HR.out.trans (reach_rem hlt hbk h1 h2 hm)
              obtain ⟨m, hmn⟩ : ∃ m, m = j + n := ⟨_, rfl⟩
              rw [hm] at C3
              simp only [optA] at C3
              rw [← hmn] at C3 HN
              have hm1 : j < m := by omega
              have hm2 : m ≤ s.size := by omega
              have hm3 : ¬ (m : Int) < 0 := by omega
              have D3 := Lib.hid C3
              clear C2 C3 h1 h2 hm hbk HR hrg hlen hmn
              go_wp2_with (first | (go_at_call 60; (first | (with_reducible refine (D1.out _).mono ?_) | (with_reducible refine (D2.out _).mono ?_)); rintro e w1 ⟨rfl, rfl⟩) | (go_at_call 61; (with_reducible refine (D3.out _).mono ?_); rintro e w1 ⟨rfl, rfl⟩))
              go_roundw
              case rel => exact ⟨m, by omega, hm2, rfl, HN, trivial⟩
              case measure => simp [intOf]; omega
          | false =>
            rw [h2] at C2
            have D2 := Lib.hid C2
            have HG : Hid (GapQ s a j false) := ⟨haj, hj, HR.out, fun q => (by cases q), fun _ _ => ⟨hlt, hbk, h1, h2⟩⟩
            clear C2 C3 h1 h2 hbk HR
            go_wp2_with (first | (go_at_call 60; (first | (with_reducible refine (D1.out _).mono ?_) | (with_reducible refine (D2.out _).mono ?_)); rintro e w1 ⟨rfl, rfl⟩))
            go_ret2
            exact ⟨j, false, rfl, HG.out, rfl⟩
    · have hjs : j = s.size := by omega
      have HG : Hid (GapQ s a j false) := ⟨haj, hj, HR.out, fun q => (by cases q), fun _ q => absurd q hlt⟩
      have hlt' : ¬ (j : Int) < s.size := by omega
      clear HR hlt
      go_wp2_with fail
      go_ret2
      first | exact ⟨j, .inl ⟨rfl, HG.out, rfl⟩⟩ | exact ⟨s.size, .inl ⟨rfl, hjs ▸ HG.out, rfl⟩⟩

end Go.Proofs.Ytoeepbjnbgpmpaa
