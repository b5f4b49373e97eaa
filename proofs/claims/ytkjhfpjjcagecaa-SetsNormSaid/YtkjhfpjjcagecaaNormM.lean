/- Package norm: what it computes, in plain Lean. -/
import Derived.Test.YtkjhfpjjcagecaaLexI
import Derived.Laws.RangeAny
namespace Go.Proofs.Ytkjhfpjjcagecaa
set_option linter.all false
open Go Go.RowKit

/-- Without zeros ahead. -/
def lead : List UInt8 → List UInt8
  | a :: b :: r => if a.toNat = 48 ∧ b.toNat ≠ 46 then lead (b :: r) else a :: b :: r
  | l => l
def dots (l : List UInt8) : Nat := l.countP fun c => decide (c.toNat = 46)
/-- Without zeros at the end. -/
def strip0 (l : List UInt8) : List UInt8 := (l.reverse.dropWhile fun c => decide (c.toNat = 48)).reverse
def lastDot (l : List UInt8) : Bool := match l.getLast? with
  | some c => decide (c.toNat = 46)
  | none => false
def numL (l : List UInt8) : List UInt8 := if dots (lead l) ≠ 1 then lead l else if lastDot (strip0 (lead l)) = true then (strip0 (lead l)).dropLast else strip0 (lead l)
theorem lead_len (l : List UInt8) : (lead l).length ≤ l.length := by
  fun_induction lead l with
  | case1 => rename_i ih; simp at ih ⊢; omega
  | case2 => simp
  | case3 => simp
theorem strip0_snoc (l : List UInt8) (c : UInt8) : strip0 (l ++ [c]) = if c.toNat = 48 then strip0 l else l ++ [c] := by
  unfold strip0
  rw [List.reverse_append, List.reverse_singleton, List.singleton_append, List.dropWhile_cons]
  by_cases h : c.toNat = 48
  · simp [h]
  · simp [h]
theorem dots_nil : dots [] = 0 := rfl
theorem dots_cons (c : UInt8) (l : List UInt8) : dots (c :: l) = dots l + if c.toNat = 46 then 1 else 0 := by
  unfold dots; rw [List.countP_cons]; simp
theorem dots_snoc (c : UInt8) (l : List UInt8) : dots (l ++ [c]) = dots l + if c.toNat = 46 then 1 else 0 := by
  unfold dots; rw [List.countP_append, List.countP_singleton]; simp
theorem numL_len (l : List UInt8) : (numL l).length ≤ l.length := by
  have h1 := lead_len l
  have h2 : (strip0 (lead l)).length ≤ (lead l).length := by
    unfold strip0
    rw [List.length_reverse]
    have := (List.dropWhile_sublist (fun c : UInt8 => decide (c.toNat = 48)) (l := (lead l).reverse)).length_le
    rw [List.length_reverse] at this
    exact this
  unfold numL
  split
  · exact h1
  · split
    · rw [List.length_dropLast]; omega
    · omega

theorem decode_w (s : ByteArray) (pos : Nat) : (Utf8.decode s pos).2 = 1 ∨ ((Utf8.decode s pos).2 = 2 ∧ pos + 1 < s.size ∧ (s.get! (pos + 1)).toNat / 64 = 2) ∨
    ((Utf8.decode s pos).2 = 3 ∧ pos + 2 < s.size ∧ (s.get! (pos + 1)).toNat / 64 = 2 ∧ (s.get! (pos + 2)).toNat / 64 = 2) ∨
    ((Utf8.decode s pos).2 = 4 ∧ pos + 3 < s.size ∧ (s.get! (pos + 1)).toNat / 64 = 2 ∧ (s.get! (pos + 2)).toNat / 64 = 2 ∧ (s.get! (pos + 3)).toNat / 64 = 2) := by
  simp only [Utf8.decode]
  repeat' split
  all_goals simp_all
/-- Inside of a letter of many bytes there is no point. -/
theorem decode_in (s : ByteArray) (pos : Nat) (h : pos < s.size) : 1 ≤ (Utf8.decode s pos).2 ∧ pos + (Utf8.decode s pos).2 ≤ s.size ∧ ∀ i (_ : pos < i) (_ : i < pos + (Utf8.decode s pos).2) (hi : i < s.size), 128 ≤ (s[i]).toNat := by
  have hg : ∀ i (hi : i < s.size), s.get! i = s[i] := fun i hi => by have := get_at s i hi; simpa using this
  rcases decode_w s pos with e | ⟨e, h1, h2⟩ | ⟨e, h1, h2, h3⟩ | ⟨e, h1, h2, h3, h4⟩
  · rw [e]; exact ⟨by omega, by omega, fun i p q _ => by omega⟩
  · rw [e]
    refine ⟨by omega, by omega, fun i p q hi => ?_⟩
    obtain rfl : i = pos + 1 := by omega
    rw [← hg _ hi]; omega
  · rw [e]
    refine ⟨by omega, by omega, fun i p q hi => ?_⟩
    have : i = pos + 1 ∨ i = pos + 2 := by omega
    rcases this with rfl | rfl
    · rw [← hg _ hi]; omega
    · rw [← hg _ hi]; omega
  · rw [e]
    refine ⟨by omega, by omega, fun i p q hi => ?_⟩
    have : i = pos + 1 ∨ i = pos + 2 ∨ i = pos + 3 := by omega
    rcases this with rfl | rfl | rfl
    · rw [← hg _ hi]; omega
    · rw [← hg _ hi]; omega
    · rw [← hg _ hi]; omega
/-- Points of what is left, letter by letter. -/
theorem dots_step (s : ByteArray) (pos : Nat) (h : pos < s.size) : dots ((bl s).drop pos) = dots ((bl s).drop (pos + (Utf8.decode s pos).2)) + if (Utf8.decode s pos).1 = 46 then 1 else 0 := by
  obtain ⟨w1, w2, w3⟩ := decode_in s pos h
  have hskip : ∀ n, pos + 1 + n ≤ pos + (Utf8.decode s pos).2 → dots ((bl s).drop (pos + 1)) = dots ((bl s).drop (pos + 1 + n)) := by
    intro n
    induction n with
    | zero => intro _; rfl
    | succ n ih =>
      intro hn
      rw [ih (by omega), bl_drop s (pos + 1 + n) (by omega), dots_cons]
      have := w3 (pos + 1 + n) (by omega) (by omega) (by omega)
      rw [if_neg (by omega)]
      rfl
  rw [bl_drop s pos h, dots_cons, hskip ((Utf8.decode s pos).2 - 1) (by omega)]
  rw [show pos + 1 + ((Utf8.decode s pos).2 - 1) = pos + (Utf8.decode s pos).2 by omega]
  congr 1
  by_cases ha : (s[pos]).toNat < 128
  · rw [decode_ascii s pos h ha]
  · have := (decode_high s pos h (by omega)).1
    rw [if_neg (by omega), if_neg (by omega)]

def isSemiLast (l : List Tok) : Bool := match l.getLast? with
  | some x => isSemi x
  | none => false
/-- Without ; at the end. -/
def noSemi (l : List Tok) : List Tok := (l.reverse.dropWhile isSemi).reverse
def normT (x : Tok) : Tok := if x.k = 4 ∧ x.t ≠ ⟨#[]⟩ then ⟨x.k, mk (numL (bl x.t)), x.at'⟩ else x
def normL (l : List Tok) : List UInt8 := showL ((noSemi l).map normT)
theorem noSemi_snoc (l : List Tok) (x : Tok) : noSemi (l ++ [x]) = if isSemi x = true then noSemi l else l ++ [x] := by
  unfold noSemi
  rw [List.reverse_append, List.reverse_singleton, List.singleton_append, List.dropWhile_cons]
  by_cases h : isSemi x = true
  · simp [h]
  · simp [h]

end Go.Proofs.Ytkjhfpjjcagecaa
