/- Contracts of package lexer: begins, remark, tag, dollar. -/
import Derived.Test.YtoeepbjnbgpmpaaLexA
import Derived.Deep.CutBlock
import Derived.Deep.DeepCutAuto
namespace Go.Proofs.Ytoeepbjnbgpmpaa
set_option linter.all false
open Go Go.RowKit

def optI : Option Nat → Int
  | some n => n
  | none => -1
theorem pre_eq (s h : ByteArray) (hl : h.size ≤ s.size) : ((s.extract 0 h.size).toList == h.toList) = (bl h).isPrefixOf (bl s) := by
  rw [tl_beq, Bool.eq_iff_iff, decide_eq_true_iff, List.isPrefixOf_iff_prefix, List.prefix_iff_eq_take, bl_len]
  constructor
  · intro e
    have := congrArg bl e
    rw [bl_ex] at this
    simpa using this.symm
  · intro e
    have : bl (s.extract 0 h.size) = bl h := by rw [bl_ex]; simpa using e.symm
    rw [← mk_bl (s.extract 0 h.size), this, mk_bl]
theorem pre_short (s h : ByteArray) (hl : ¬ h.size ≤ s.size) : (bl h).isPrefixOf (bl s) = false := by
  rw [Bool.eq_false_iff]
  intro q
  have := (List.isPrefixOf_iff_prefix.1 q).length_le
  rw [bl_len, bl_len] at this
  exact hl this

set_option maxHeartbeats 1000000 in
theorem begins_any (w : World) (s h : ByteArray) (hs : s.size ≤ 1000000000) (hh : h.size ≤ 1000000000) :
    Calls Try.prog 70 #[.string s, .string h] w fun e w' => e = .returned (.bool ((bl h).isPrefixOf (bl s))) ∧ w = w' := by
  by_cases hl : h.size ≤ s.size
  · have hp := pre_eq s h hl
    have hl' : (h.size : Int) ≤ s.size := by omega
    generalize (bl h).isPrefixOf (bl s) = p at *
    go_enter Try.func70, Try.ntmps70
    go_wp2
    go_ret
    exact ⟨rfl, rfl⟩
  · have hl' : ¬ (h.size : Int) ≤ s.size := by omega
    rw [pre_short s h hl]
    go_enter Try.func70, Try.ntmps70
    go_wp2
    go_ret
    exact ⟨rfl, rfl⟩

theorem remL_step (l : List UInt8) (d : Int) (i : Nat) : remL l d i = if l = [] then none else if [47, 42].isPrefixOf l = true then remL (l.drop 2) (d + 1) (i + 2) else if [42, 47].isPrefixOf l = true then (if d = 1 then some (i + 2) else remL (l.drop 2) (d - 1) (i + 2)) else remL (l.drop 1) d (i + 1) := by
  match l with
  | [] => rfl
  | [a] => simp [remL, List.isPrefixOf]
  | a :: b :: r =>
    have e1 : ([47, 42].isPrefixOf (a :: b :: r) = true) ↔ (a.toNat = 47 ∧ b.toNat = 42) := by
      simp [List.isPrefixOf, ← UInt8.toNat_inj]; omega
    have e2 : ([42, 47].isPrefixOf (a :: b :: r) = true) ↔ (a.toNat = 42 ∧ b.toNat = 47) := by
      simp [List.isPrefixOf, ← UInt8.toNat_inj]; omega
    conv => lhs; rw [remL.eq_def]
    rw [if_neg (by simp : ¬ a :: b :: r = [])]
    simp only [e1, e2]
    rfl

set_option maxHeartbeats 2000000 in
theorem remark_any (w : World) (s : ByteArray) (hs : s.size ≤ 1000000000) :
    Calls Try.prog 73 #[.string s] w fun e w' => e = .returned (.int .i64 (optI (remL (bl s) 0 0))) ∧ w = w' := by
  go_enter Try.func73, Try.ntmps73
  go_wp2_with fail
  go_loopw [3, 4] (fun s3 s4 wr => ∃ (j : Nat) (d : Int), j ≤ s.size ∧ s4 = .int .i64 j ∧ s3 = .int .i64 d ∧ -(j : Int) ≤ d ∧ d ≤ j ∧ Hid (remL (bl s) 0 0 = remL ((bl s).drop j) d j) ∧ w = wr) (fun _ s4 _ => s.size - (intOf s4).toNat)
  case atStart => exact ⟨0, 0, Nat.zero_le _, rfl, rfl, by omega, by omega, rfl, rfl⟩
  case round =>
    obtain ⟨j, d, hj, rfl, rfl, hd1, hd2, HR, rfl⟩ := hrel
    by_cases hlt : j < s.size
    · have hlt' : (j : Int) < s.size := by omega
      have HS := Lib.hid (remL_step ((bl s).drop j) d j)
      have hne : (bl s).drop j ≠ [] := by rw [bl_drop s j hlt]; simp
      have hsz : (s.extract j s.size).size = s.size - j := by simp
      have C1 := begins_any w (s.extract j s.size) ⟨#[47, 42]⟩ (by omega) (by decide)
      have C2 := begins_any w (s.extract j s.size) ⟨#[42, 47]⟩ (by omega) (by decide)
      rw [bl_ex_end] at C1 C2
      have hlen : ((bl s).drop j).length = s.size - j := by rw [List.length_drop, bl_len]
      have two : ∀ (a b : UInt8), [a, b].isPrefixOf ((bl s).drop j) = true → j + 2 ≤ s.size := by
        intro a b q
        have := (List.isPrefixOf_iff_prefix.1 q).length_le
        rw [hlen] at this
        simp at this; omega
      cases h1 : [47, 42].isPrefixOf ((bl s).drop j) with
      | true =>
        have h2' := two _ _ h1
        have HN : Hid (remL (bl s) 0 0 = remL ((bl s).drop (j + 2)) (d + 1) (j + 2)) := by
          unfold Hid; rw [HR.out, HS.out, if_neg hne, if_pos h1, List.drop_drop]
        rw [show bl ⟨#[47, 42]⟩ = [47, 42] from rfl, h1] at C1
        have D1 := Lib.hid C1
        clear C1 C2 HS hne h1 two HR hsz hlen
        go_wp2_with (go_at_call 70; (with_reducible refine (D1.out).mono ?_); rintro e w1 ⟨rfl, rfl⟩)
        go_roundw
        case rel => exact ⟨j + 2, d + 1, by omega, by go_num, by go_num, by omega, by omega, HN, trivial⟩
        case measure => simp [intOf]; omega
      | false =>
        cases h2 : [42, 47].isPrefixOf ((bl s).drop j) with
        | true =>
          have h2' := two _ _ h2
          have HN : Hid (remL (bl s) 0 0 = if d = 1 then some (j + 2) else remL ((bl s).drop (j + 2)) (d - 1) (j + 2)) := by
            unfold Hid; rw [HR.out, HS.out, if_neg hne, if_neg (by rw [h1]; decide), if_pos h2, List.drop_drop]
          rw [show bl ⟨#[47, 42]⟩ = [47, 42] from rfl, h1] at C1
          rw [show bl ⟨#[42, 47]⟩ = [42, 47] from rfl, h2] at C2
          have D1 := Lib.hid C1
          have D2 := Lib.hid C2
          clear C1 C2 HS hne h1 h2 two HR hsz hlen
          by_cases hd : d = 1
          · have HN2 : Hid (remL (bl s) 0 0 = some (j + 2)) := by unfold Hid; rw [HN.out, if_pos hd]
            subst hd
            go_wp2_with (go_at_call 70; (first | (with_reducible refine (D1.out).mono ?_) | (with_reducible refine (D2.out).mono ?_)); rintro e w1 ⟨rfl, rfl⟩)
            go_ret
            exact ⟨by rw [HN2.out]; go_num, rfl⟩
          · have HN2 : Hid (remL (bl s) 0 0 = remL ((bl s).drop (j + 2)) (d - 1) (j + 2)) := by unfold Hid; rw [HN.out, if_neg hd]
            have hd' : (d - 1 == 0) = false := by simp; omega
            clear hd
            go_wp2_with (go_at_call 70; (first | (with_reducible refine (D1.out).mono ?_) | (with_reducible refine (D2.out).mono ?_)); rintro e w1 ⟨rfl, rfl⟩)
            go_roundw
            case rel => exact ⟨j + 2, d - 1, by omega, by go_num, by go_num, by omega, by omega, HN2, trivial⟩
            case measure => simp [intOf]; omega
        | false =>
          have HN : Hid (remL (bl s) 0 0 = remL ((bl s).drop (j + 1)) d (j + 1)) := by
            unfold Hid; rw [HR.out, HS.out, if_neg hne, if_neg (by rw [h1]; decide), if_neg (by rw [h2]; decide), List.drop_drop]
          rw [show bl ⟨#[47, 42]⟩ = [47, 42] from rfl, h1] at C1
          rw [show bl ⟨#[42, 47]⟩ = [42, 47] from rfl, h2] at C2
          have D1 := Lib.hid C1
          have D2 := Lib.hid C2
          clear C1 C2 HS hne h1 h2 two HR hsz hlen
          go_wp2_with (go_at_call 70; (first | (with_reducible refine (D1.out).mono ?_) | (with_reducible refine (D2.out).mono ?_)); rintro e w1 ⟨rfl, rfl⟩)
          go_roundw
          case rel => exact ⟨j + 1, d, by omega, by go_num, rfl, by omega, by omega, HN, trivial⟩
          case measure => simp [intOf]; omega
    · have hjs : j = s.size := by omega
      have HE : Hid (remL (bl s) 0 0 = none) := by
        unfold Hid
        rw [HR.out, List.drop_eq_nil_of_le (by rw [bl_len]; omega)]; rfl
      have hlt' : ¬ (j : Int) < s.size := by omega
      clear HR hlt
      go_wp2_with fail
      go_ret
      exact ⟨by rw [HE.out]; rfl, rfl⟩


set_option maxHeartbeats 2000000 in
theorem tag_any (w : World) (s : ByteArray) (c : UInt8) (r : List UInt8) (hsr : bl s = c :: r) (hs : s.size ≤ 1000000000) :
    Calls Try.prog 88 #[.string s] w fun e w' => e = .returned (.int .i64 (optI (tagL r))) ∧ w = w' := by
  have hsz : s.size = r.length + 1 := by rw [← bl_len, hsr]; rfl
  have hdn : ∀ n, (bl s).drop (n + 1) = r.drop n := fun n => by rw [hsr]; rfl
  have HE : Hid (tagL r = match (bl s).drop (tagN r + 1) with | [] => none | c :: _ => if c.toNat = 36 then some (tagN r + 2) else none) := by
    unfold Hid; rw [hdn]; rfl
  have hle : tagN r + 1 ≤ s.size := by
    have := runL_le pLD r
    unfold tagN
    split
    · omega
    · split
      · omega
      · omega
  have hres : (∃ h : tagN r + 1 < s.size, s[tagN r + 1].toNat = 36 ∧ tagL r = some (tagN r + 2)) ∨ ((∃ h : tagN r + 1 < s.size, s[tagN r + 1].toNat ≠ 36) ∧ tagL r = none) ∨ (tagN r + 1 = s.size ∧ tagL r = none) := by
    have he := HE.out
    by_cases hlt : tagN r + 1 < s.size
    · rw [bl_drop s _ hlt] at he
      by_cases h36 : s[tagN r + 1].toNat = 36
      · left; exact ⟨hlt, h36, he.trans (if_pos h36)⟩
      · right; left; exact ⟨⟨hlt, h36⟩, he.trans (if_neg h36)⟩
    · right; right
      refine ⟨by omega, ?_⟩
      rw [List.drop_eq_nil_of_le (by rw [bl_len]; omega)] at he
      exact he
  have hN : (¬ 1 < s.size ∧ tagN r = 0) ∨ (∃ h : 1 < s.size, (isLet s[1] = true ∧ tagN r = runL pLD (bl (s.extract 1 s.size))) ∨ (isLet s[1] = false ∧ tagN r = 0)) := by
    rw [bl_ex_end, show (bl s).drop 1 = r from hdn 0]
    cases r with
    | nil => left; exact ⟨by simp at hsz; omega, rfl⟩
    | cons d q =>
      have h1 : 1 < s.size := by simp at hsz; omega
      have e1 : s[1] = d := by
        rw [← bl_get s 1 h1]
        simp only [hsr]
        rfl
      right
      refine ⟨h1, ?_⟩
      rw [e1]
      cases hd : isLet d with
      | true => left; exact ⟨rfl, by show (if isLet d = true then _ else 0) = _; rw [if_pos hd]⟩
      | false => right; exact ⟨rfl, by show (if isLet d = true then _ else 0) = _; rw [if_neg (by rw [hd]; decide)]⟩
  generalize tagN r = n at *
  generalize tagL r = res at *
  clear HE hdn hsr hsz
  have HRES := Lib.hid hres
  clear hres
  have hn : n ≤ 1000000000 := by omega
  go_enter Try.func88, Try.ntmps88
  rcases hN with ⟨h1, rfl⟩ | ⟨h1, hN⟩
  · have h1' : ¬ (1 : Int) < s.size := by omega
    have hs0 : s.size = 1 := by omega
    have hr0 : res = none := by
      rcases HRES.out with ⟨h4, h5, h6⟩ | ⟨⟨h4, h5⟩, h6⟩ | ⟨h4, h6⟩
      · omega
      · omega
      · exact h6
    subst hr0
    go_wp2_with fail
    go_ret
    exact ⟨rfl, rfl⟩
  · have h1' : (1 : Int) < s.size := by omega
    have hw : wrap32 (s[1].toNat : Int) = s[1].toNat := by have := s[1].toNat_lt; unfold wrap32; omega
    have hwn : IntKind.i64.wrap (1 + (n : Int)) = n + 1 := by rw [IntWalk.i64_in _ (by omega)]; omega
    have C := letter_any w s[1]
    rcases hN with ⟨h2, h3⟩ | ⟨h2, rfl⟩
    · rw [h2] at C
      have D := Lib.hid C
      have hsx : (s.extract 1 s.size).size ≤ 1000000000 := by simp; omega
      have C2 := run_tag w (s.extract 1 s.size) hsx
      rw [← h3] at C2
      have D2 := Lib.hid C2
      clear C C2 h2 h3
      rcases HRES.out with ⟨h4, h5, rfl⟩ | ⟨⟨h4, h5⟩, rfl⟩ | ⟨h4, rfl⟩
      · have h4' : (n : Int) + 1 < s.size := by omega
        have hb : ((s[n + 1].toNat : Int) == 36) = true := by simp [h5]
        go_wp2_with (first | (go_at_call 82; (with_reducible refine (D.out).mono ?_); rintro e w1 ⟨rfl, rfl⟩) | (go_at_call 71; (with_reducible refine (D2.out).mono ?_); rintro e w1 ⟨rfl, rfl⟩))
        go_ret
        exact ⟨by simp only [optI]; go_num, rfl⟩
      · have h4' : (n : Int) + 1 < s.size := by omega
        have hb : ((s[n + 1].toNat : Int) == 36) = false := by simp; omega
        go_wp2_with (first | (go_at_call 82; (with_reducible refine (D.out).mono ?_); rintro e w1 ⟨rfl, rfl⟩) | (go_at_call 71; (with_reducible refine (D2.out).mono ?_); rintro e w1 ⟨rfl, rfl⟩))
        go_ret
        exact ⟨rfl, rfl⟩
      · have h4' : ¬ (n : Int) + 1 < s.size := by omega
        go_wp2_with (first | (go_at_call 82; (with_reducible refine (D.out).mono ?_); rintro e w1 ⟨rfl, rfl⟩) | (go_at_call 71; (with_reducible refine (D2.out).mono ?_); rintro e w1 ⟨rfl, rfl⟩))
        go_ret
        exact ⟨rfl, rfl⟩
    · rw [h2] at C
      have D := Lib.hid C
      clear C h2
      rcases HRES.out with ⟨h4, h5, rfl⟩ | ⟨⟨h4, h5⟩, rfl⟩ | ⟨h4, rfl⟩
      · have h5' : s[1].toNat = 36 := h5
        have hb : ((s[1].toNat : Int) == 36) = true := by simp [h5']
        clear h5 h5'
        go_wp2_with (go_at_call 82; (with_reducible refine (D.out).mono ?_); rintro e w1 ⟨rfl, rfl⟩)
        go_ret
        exact ⟨by simp only [optI]; go_num, rfl⟩
      · have h5' : s[1].toNat ≠ 36 := h5
        have hb : ((s[1].toNat : Int) == 36) = false := by simp; omega
        clear h5 h5'
        go_wp2_with (go_at_call 82; (with_reducible refine (D.out).mono ?_); rintro e w1 ⟨rfl, rfl⟩)
        go_ret
        exact ⟨rfl, rfl⟩
      · omega

theorem cut_eq (s : ByteArray) (i n : Nat) (hn : i + n ≤ s.size) (hm : n ≤ s.size) : ((s.extract i (i + n)).toList == (s.extract 0 n).toList) = ((bl s).take n).isPrefixOf ((bl s).drop i) := by
  have hz : (s.extract 0 n).size = n := by simp; omega
  have hl : (bl s).length = s.size := bl_len s
  rw [tl_beq, Bool.eq_iff_iff, decide_eq_true_iff, List.isPrefixOf_iff_prefix, List.prefix_iff_eq_take, List.length_take, Nat.min_eq_left (by rw [hl]; exact hm)]
  constructor
  · intro e
    have := congrArg bl e
    rw [bl_ex, bl_ex, Nat.add_sub_cancel_left] at this
    simpa using this.symm
  · intro e
    rw [← mk_bl (s.extract i (i + n)), ← mk_bl (s.extract 0 n), bl_ex, bl_ex, Nat.add_sub_cancel_left]
    simpa using congrArg mk e.symm
theorem pre_far {t l : List UInt8} (h : l.length < t.length) : t.isPrefixOf l = false := by
  rw [Bool.eq_false_iff]
  intro q
  have := (List.isPrefixOf_iff_prefix.1 q).length_le
  omega
theorem dolF_none {t : List UInt8} : ∀ {l : List UInt8} {i : Nat}, l.length < t.length → dolF t l i = none
  | [], _, _ => rfl
  | c :: r, i, h => by
    rw [dolF, if_neg (by rw [pre_far h]; decide)]
    exact dolF_none (by simp at h ⊢; omega)

set_option maxHeartbeats 2000000 in
theorem dollar_any (k : Env) (w : World) (R : Assn) (s : ByteArray) (n : Nat) (hn : 1 ≤ n) (hm : n ≤ s.size) (hs : s.size ≤ 1000000000) (h : Sat k w R) :
    Calls Try.prog 89 #[.string s, .int .i64 n] w fun e w' => e = .returned (.tuple #[.string (match dolF ((bl s).take n) ((bl s).drop n) n with | some i => mk (((bl s).take i).drop n) | none => ⟨#[]⟩), .int .i64 (match dolF ((bl s).take n) ((bl s).drop n) n with | some i => i + n | none => -1)]) ∧ Sat k w' R := by
  obtain ⟨res, HRES⟩ : ∃ res, Hid (dolF ((bl s).take n) ((bl s).drop n) n = res) := ⟨_, rfl⟩
  rw [HRES.out]
  go_enter Try.func89, Try.ntmps89
  go_wp2_with fail
  go_loopw [6] (fun s6 wr => ∃ j : Nat, n ≤ j ∧ j ≤ s.size ∧ s6 = .int .i64 j ∧ Hid (dolF ((bl s).take n) ((bl s).drop j) j = res) ∧ Sat k wr R) (fun s6 _ => s.size + 1 - (intOf s6).toNat)
  case atStart => exact ⟨n, Nat.le_refl _, hm, rfl, HRES, h⟩
  case round =>
    clear h HRES
    obtain ⟨j, hj, hj2, rfl, HR, hr⟩ := hrel
    by_cases hlt : j + n ≤ s.size
    · have hlt' : (j : Int) + n ≤ s.size := by omega
      have hnI : (n : Int) ≤ s.size := by omega
      have hjI : (j : Int) < s.size := by omega
      have HC := cut_eq s j n hlt hm
      have HS : Hid (dolF ((bl s).take n) ((bl s).drop j) j = if ((bl s).take n).isPrefixOf ((bl s).drop j) = true then some j else dolF ((bl s).take n) ((bl s).drop (j + 1)) (j + 1)) := by
        unfold Hid
        rw [bl_drop s j (by omega)]; rfl
      cases hp : ((bl s).take n).isPrefixOf ((bl s).drop j) with
      | true =>
        have HX : res = some j := by rw [← HR.out, HS.out, if_pos hp]
        subst HX
        have HM : Hid (mk (((bl s).take j).drop n) = s.extract n j) := by
          unfold Hid
          rw [ex_eq, List.drop_take]
        rw [hp] at HC
        clear hp HR HS
        go_wp2_with fail
        go_quiet (fail)
        replace hr := hr.drewN nq
        go_wp2_with fail
        go_ret2
        exact ⟨by rw [HM.out]; rfl, hr⟩
      | false =>
        have HX : Hid (dolF ((bl s).take n) ((bl s).drop (j + 1)) (j + 1) = res) := by unfold Hid; rw [← HR.out, HS.out, if_neg (by rw [hp]; decide)]
        rw [hp] at HC
        clear hp HR HS
        go_wp2_with fail
        go_quiet (fail)
        replace hr := hr.drewN nq
        go_wp2_with fail
        go_roundw
        case rel => exact ⟨j + 1, by omega, by omega, by go_num, HX, hr⟩
        case measure => simp [intOf]; omega
    · have HX : res = none := by
        rw [← HR.out]
        exact dolF_none (by simp only [List.length_drop, List.length_take, bl_len]; omega)
      subst HX
      have hlt' : ¬ (j : Int) + n ≤ s.size := by omega
      clear HR hlt
      go_wp2_with fail
      go_ret2
      exact ⟨rfl, hr⟩

end Go.Proofs.Ytoeepbjnbgpmpaa
