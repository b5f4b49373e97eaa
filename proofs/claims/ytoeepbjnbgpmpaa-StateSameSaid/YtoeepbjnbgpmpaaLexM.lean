/- Package lexer: what it computes, in plain Lean. No program in sight. -/
import Derived.Test.YtoeepbjnbgpmpaaMA
namespace Go.Proofs.Ytoeepbjnbgpmpaa
set_option linter.all false
open Go Go.RowKit

abbrev bl (s : ByteArray) : List UInt8 := s.data.toList
abbrev mk (l : List UInt8) : ByteArray := ⟨l.toArray⟩
theorem mk_bl (s : ByteArray) : mk (bl s) = s := by simp [mk, bl]
theorem bl_mk (l : List UInt8) : bl (mk l) = l := rfl
theorem bl_len (s : ByteArray) : (bl s).length = s.size := by
  show s.data.toList.length = s.data.size
  exact Array.length_toList
theorem mk_size (l : List UInt8) : (mk l).size = l.length := by simp [mk, ByteArray.size]
theorem ex_eq (s : ByteArray) (i j : Nat) : s.extract i j = mk (((bl s).drop i).take (j - i)) := by
  apply ByteArray.ext
  apply Array.ext'
  simp [mk, bl, ByteArray.data_extract, Array.toList_extract, List.extract_eq_take_drop]
theorem bl_ex (s : ByteArray) (i j : Nat) : bl (s.extract i j) = ((bl s).drop i).take (j - i) := by rw [ex_eq, bl_mk]
theorem bl_ex_end (s : ByteArray) (i : Nat) : bl (s.extract i s.size) = (bl s).drop i := by
  rw [bl_ex, ← bl_len, List.take_of_length_le (by simp)]
theorem bl_get (s : ByteArray) (i : Nat) (h : i < s.size) : (bl s)[i]'(by rw [bl_len]; exact h) = s[i] := rfl
theorem bl_drop (s : ByteArray) (i : Nat) (h : i < s.size) : (bl s).drop i = s[i] :: (bl s).drop (i + 1) := by
  rw [List.drop_eq_getElem_cons (by rw [bl_len]; exact h)]; rfl

def isLet (c : UInt8) : Bool := (decide (97 ≤ c.toNat) && decide (c.toNat ≤ 122)) || (decide (65 ≤ c.toNat) && decide (c.toNat ≤ 90)) || decide (c.toNat = 95) || decide (127 < c.toNat)
def isDig (c : UInt8) : Bool := decide (48 ≤ c.toNat) && decide (c.toNat ≤ 57)
def isBlank (c : UInt8) : Bool := decide (c.toNat = 32) || decide (c.toNat = 9) || decide (c.toNat = 10) || decide (c.toNat = 12) || decide (c.toNat = 13)
def pLD (c : UInt8) : Bool := isLet c || isDig c
def pWord (c : UInt8) : Bool := isLet c || isDig c || decide (c.toNat = 36)
def pNum (c : UInt8) : Bool := isDig c || decide (c.toNat = 46)
def pLine (c : UInt8) : Bool := decide (c.toNat ≠ 10)
def low (c : UInt8) : UInt8 := if 65 ≤ c.toNat ∧ c.toNat ≤ 90 then c + 32 else c
def runL (p : UInt8 → Bool) (l : List UInt8) : Nat := (l.takeWhile p).length
theorem runL_nil (p : UInt8 → Bool) : runL p [] = 0 := rfl
theorem runL_cons (p : UInt8 → Bool) (c : UInt8) (l : List UInt8) : runL p (c :: l) = if p c = true then runL p l + 1 else 0 := by
  unfold runL; rw [List.takeWhile_cons]; split <;> simp
theorem runL_le (p : UInt8 → Bool) (l : List UInt8) : runL p l ≤ l.length := (List.takeWhile_sublist _).length_le

/-- How long the remark is; what is left, how deep, how many bytes are behind. -/
def remL : List UInt8 → Int → Nat → Option Nat
  | [], _, _ => none
  | [_], _, _ => none
  | a :: b :: r, d, i =>
    if a.toNat = 47 ∧ b.toNat = 42 then remL r (d + 1) (i + 2)
    else if a.toNat = 42 ∧ b.toNat = 47 then (if d = 1 then some (i + 2) else remL r (d - 1) (i + 2))
    else remL (b :: r) d (i + 1)
theorem remL_range (l : List UInt8) (d : Int) (i n : Nat) (h : remL l d i = some n) : i + 2 ≤ n ∧ n ≤ i + l.length := by
  fun_induction remL l d i with
  | case1 => cases h
  | case2 => cases h
  | case3 _ _ _ _ _ _ ih => have := ih h; simp; omega
  | case4 => cases h; simp
  | case5 _ _ _ _ _ _ _ _ ih => have := ih h; simp; omega
  | case6 _ _ _ _ _ _ _ ih => have := ih h; simp at this ⊢; omega

/-- What stands in quotes: what is left, what there is already, how many bytes are behind. -/
def quotL (q : UInt8) : List UInt8 → List UInt8 → Nat → Option (List UInt8 × Nat)
  | [], _, _ => none
  | [c], acc, i => if c = q then some (acc, i + 1) else none
  | c :: d :: r, acc, i => if c = q then (if d = q then quotL q r (acc ++ [q]) (i + 2) else some (acc, i + 1)) else quotL q (d :: r) (acc ++ [c]) (i + 1)
theorem quotL_range (q : UInt8) (l acc : List UInt8) (i : Nat) (x : List UInt8 × Nat) (h : quotL q l acc i = some x) : i + 1 ≤ x.2 ∧ x.2 ≤ i + l.length ∧ x.1.length + i + 1 ≤ acc.length + x.2 := by
  fun_induction quotL q l acc i with
  | case1 => cases h
  | case2 => cases h; simp; omega
  | case3 => cases h
  | case4 => rename_i ih; have := ih h; simp at this ⊢; omega
  | case5 => cases h; simp; omega
  | case6 => rename_i ih; have := ih h; simp at this ⊢; omega

def tagN (t : List UInt8) : Nat := match t with
  | [] => 0
  | c :: r => if isLet c = true then runL pLD (c :: r) else 0
/-- How long a tag is, of which the first dollar is gone already. -/
def tagL (t : List UInt8) : Option Nat := match t.drop (tagN t) with
  | [] => none
  | c :: _ => if c.toNat = 36 then some (tagN t + 2) else none
/-- Where a text stands first. -/
def dolF (t : List UInt8) : List UInt8 → Nat → Option Nat
  | [], _ => none
  | c :: r, i => if t.isPrefixOf (c :: r) = true then some i else dolF t r (i + 1)
theorem dolF_range (t l : List UInt8) (i n : Nat) (h : dolF t l i = some n) : i ≤ n ∧ n + t.length ≤ i + l.length := by
  fun_induction dolF t l i with
  | case1 => cases h
  | case2 i c r hp =>
    cases h
    have := (List.isPrefixOf_iff_prefix.1 hp).length_le
    omega
  | case3 i c r hp ih => have := ih h; simp; omega
theorem tagL_range {t : List UInt8} {n : Nat} (h : tagL t = some n) : 2 ≤ n ∧ n ≤ t.length + 1 := by
  unfold tagL at h
  split at h
  · cases h
  · rename_i c r e
    split at h
    · cases h
      have : (t.drop (tagN t)).length = r.length + 1 := by rw [e]; rfl
      rw [List.length_drop] at this
      omega
    · cases h

def signSet : List UInt8 := [40, 41, 44, 59, 46, 61, 60, 62, 43, 45, 42, 47, 37, 38, 124, 94, 126, 33, 64, 35, 63, 58, 91, 93]
inductive One where
  | tok (k : Int) (t : List UInt8) (n : Nat)
  | opn (k : Int)
  | bad
def ofQ (k : Int) : Option (List UInt8 × Nat) → One
  | some x => .tok k x.1 x.2
  | none => .opn k
/-- The token with which a text begins. -/
def oneL : List UInt8 → One
  | [] => .bad
  | c :: r =>
    if isLet c = true then .tok 1 (((c :: r).take (runL pWord (c :: r))).map low) (runL pWord (c :: r))
    else if isDig c = true then .tok 4 ((c :: r).take (runL pNum (c :: r))) (runL pNum (c :: r))
    else if c.toNat = 34 then ofQ 2 (quotL c r [] 1)
    else if c.toNat = 39 then ofQ 3 (quotL c r [] 1)
    else if c.toNat = 36 then match tagL r with
      | some n => match dolF ((c :: r).take n) ((c :: r).drop n) n with
        | some i => .tok 3 (((c :: r).take i).drop n) (i + n)
        | none => .opn 3
      | none => if 0 < runL isDig r then .tok 5 ((c :: r).take (runL isDig r + 1)) (runL isDig r + 1) else .bad
    else if c ∈ signSet then .tok 5 [c] 1 else .bad
theorem oneL_range {l t : List UInt8} {k : Int} {n : Nat} (h : oneL l = .tok k t n) : 0 < n ∧ n ≤ l.length ∧ t.length ≤ n := by
  cases l with
  | nil => cases h
  | cons c r =>
    rw [oneL] at h
    by_cases c1 : isLet c = true
    · rw [if_pos c1] at h
      cases h
      have h1 := runL_le pWord (c :: r)
      have h2 : runL pWord (c :: r) = runL pWord r + 1 := by rw [runL_cons, if_pos (by simp [pWord, c1])]
      simp at h1 ⊢; omega
    rw [if_neg c1] at h
    by_cases c2 : isDig c = true
    · rw [if_pos c2] at h
      cases h
      have h1 := runL_le pNum (c :: r)
      have h2 : runL pNum (c :: r) = runL pNum r + 1 := by rw [runL_cons, if_pos (by simp [pNum, c2])]
      simp at h1 ⊢; omega
    rw [if_neg c2] at h
    by_cases c3 : c.toNat = 34
    · rw [if_pos c3] at h
      cases hq : quotL c r [] 1 with
      | none => rw [hq] at h; cases h
      | some x => rw [hq] at h; cases h; have := quotL_range _ _ _ _ _ hq; simp at this ⊢; omega
    rw [if_neg c3] at h
    by_cases c4 : c.toNat = 39
    · rw [if_pos c4] at h
      cases hq : quotL c r [] 1 with
      | none => rw [hq] at h; cases h
      | some x => rw [hq] at h; cases h; have := quotL_range _ _ _ _ _ hq; simp at this ⊢; omega
    rw [if_neg c4] at h
    by_cases c5 : c.toNat = 36
    · rw [if_pos c5] at h
      cases hm : tagL r with
      | some m =>
        rw [hm] at h
        simp only at h
        have ht := tagL_range hm
        cases hi : dolF ((c :: r).take m) ((c :: r).drop m) m with
        | some i =>
          rw [hi] at h
          cases h
          have := dolF_range _ _ _ _ hi
          simp at this ⊢; omega
        | none => rw [hi] at h; cases h
      | none =>
        rw [hm] at h
        simp only at h
        by_cases c6 : 0 < runL isDig r
        · rw [if_pos c6] at h
          cases h
          have := runL_le isDig r
          simp; omega
        · rw [if_neg c6] at h; cases h
    rw [if_neg c5] at h
    by_cases c7 : c ∈ signSet
    · rw [if_pos c7] at h; cases h; simp
    · rw [if_neg c7] at h; cases h

structure Tok where
  k : Int
  t : ByteArray
  at' : Int
inductive Res where
  | ok (l : List Tok)
  | err (e : Int) (at' : Nat)
/-- Tokens: with fuel; what is left, where that is, what there is already. -/
def scanF : Nat → List UInt8 → Nat → List Tok → Res
  | 0, _, _, acc => .ok acc
  | _ + 1, [], _, acc => .ok acc
  | f + 1, c :: r, at', acc =>
    if isBlank c = true then scanF f r (at' + 1) acc
    else if [45, 45].isPrefixOf (c :: r) = true then scanF f ((c :: r).drop (runL pLine (c :: r))) (at' + runL pLine (c :: r)) acc
    else if [47, 42].isPrefixOf (c :: r) = true then match remL (c :: r) 0 0 with
      | some n => scanF f ((c :: r).drop n) (at' + n) acc
      | none => .err 6 at'
    else match oneL (c :: r) with
      | .tok k t n => scanF f ((c :: r).drop n) (at' + n) (acc ++ [⟨k, mk t, at'⟩])
      | .opn _ => .err 6 at'
      | .bad => .err 7 at'
def scanB (s : ByteArray) : Res := if 2000 < s.size then .err 2 2000 else scanF (s.size + 1) (bl s) 0 []

/-- A text in quotes. -/
def dbl (q : UInt8) (l : List UInt8) : List UInt8 := q :: (l.flatMap fun c => if c = q then [q, c] else [c]) ++ [q]
def showT (x : Tok) : List UInt8 := if x.k = 2 then dbl 34 (bl x.t) else if x.k = 3 then dbl 39 (bl x.t) else bl x.t
def showL (l : List Tok) : List UInt8 := match l with
  | [] => []
  | x :: r => showT x ++ r.flatMap fun y => 32 :: showT y
def isSemi (x : Tok) : Bool := decide (x.k = 5) && decide (x.t = mk [59])
/-- The tokens of each statement: what is left, what there is of one already. -/
def splitL : List Tok → List Tok → List (List Tok) → List (List Tok)
  | [], now, out => if now = [] then out else out ++ [now]
  | x :: r, now, out => if isSemi x = true then splitL r [] (if now = [] then out else out ++ [now]) else splitL r (now ++ [x]) out

end Go.Proofs.Ytoeepbjnbgpmpaa
