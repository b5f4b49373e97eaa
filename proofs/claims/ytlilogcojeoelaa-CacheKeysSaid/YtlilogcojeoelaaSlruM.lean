/- The store of two segments, as it lies in an arena: plain data, no program. -/
import Derived.Test.YtlilogcojeoelaaAssoc
namespace Go.Proofs.Ytlilogcojeoelaa
set_option linter.all false
open Go

structure Ent where
  k : ByteArray
  s : Int
  g : Int
  n : Int
  o : Int
def Ent.zero : Ent := ⟨ByteArray.empty, 0, 0, 0, 0⟩
instance : Inhabited Ent := ⟨Ent.zero⟩
structure Lst where
  first : Int
  last : Int
  bytes : Int
structure St where
  A : List Ent
  F : List Int
  P : List (ByteArray × Int)
  l0 : Lst
  l1 : Lst
  al : Int
  kp : Int
  mo : Int

theorem modify_set {α : Type} (A : List α) (i : Nat) (f : α → α) (hi : i < A.length) : A.modify i f = A.set i (f A[i]) := by
  apply List.ext_getElem?
  intro n
  rw [List.getElem?_modify, List.getElem?_set]
  by_cases h : i = n
  · subst h; simp [hi]
  · simp [h]

def setN (A : List Ent) (j v : Int) : List Ent := A.modify j.toNat (fun x => { x with n := v })
def setO (A : List Ent) (j v : Int) : List Ent := A.modify j.toNat (fun x => { x with o := v })
theorem setN_len (A : List Ent) (j v : Int) : (setN A j v).length = A.length := by simp [setN]
theorem setO_len (A : List Ent) (j v : Int) : (setO A j v).length = A.length := by simp [setO]
def St.lst (st : St) (g : Int) : Lst := if g = 0 then st.l0 else st.l1
def St.setLst (st : St) (g : Int) (l : Lst) : St := if g = 0 then { st with l0 := l } else { st with l1 := l }

theorem setN_ne (A : List Ent) (p i : Nat) (v : Int) (h : p ≠ i) : (setN A p v)[i]? = A[i]? := by simp [setN, List.getElem?_modify, h]
theorem setO_ne (A : List Ent) (p i : Nat) (v : Int) (h : p ≠ i) : (setO A p v)[i]? = A[i]? := by simp [setO, List.getElem?_modify, h]

/-- unlink -/
def unlA (A : List Ent) (x : Ent) : List Ent :=
  let A1 := if x.n = -1 then A else setO A x.n x.o
  if x.o = -1 then A1 else setN A1 x.o x.n
def unlL (l : Lst) (x : Ent) : Lst := ⟨if x.n = -1 then x.o else l.first, if x.o = -1 then x.n else l.last, l.bytes - x.s⟩
def unlinkS (st : St) (i : Nat) : St :=
  let x := st.A.getD i Ent.zero
  { (st.setLst x.g (unlL (st.lst x.g) x)) with A := unlA st.A x }

/-- link -/
def linkA (A : List Ent) (i : Nat) (g : Int) (l : Lst) : List Ent :=
  let A1 := A.modify i (fun x => { x with g := g, n := -1, o := l.first })
  if l.first = -1 then A1 else setN A1 l.first i
def linkL (l : Lst) (i : Nat) (x : Ent) : Lst := ⟨i, if l.first = -1 then i else l.last, l.bytes + x.s⟩
def linkS (st : St) (i : Nat) (g : Int) : St :=
  let x := st.A.getD i Ent.zero
  { (st.setLst g (linkL (st.lst g) i x)) with A := linkA st.A i g (st.lst g) }

end Go.Proofs.Ytlilogcojeoelaa
