/- Package class: what it computes, in plain Lean. -/
import Derived.Test.YtkjhfpjjcagecaaNormD
import Derived.Test.YtkjhfpjjcagecaaRdA
namespace Go.Proofs.Ytkjhfpjjcagecaa
set_option linter.all false
open Go Go.RowKit

/-- A token's Word. -/
def wd (x : Tok) : ByteArray := if x.k = 1 then x.t else ⟨#[]⟩
abbrev cFor : ByteArray := ⟨#[102, 111, 114]⟩
abbrev cUpdate : ByteArray := ⟨#[117, 112, 100, 97, 116, 101]⟩
abbrev cShare : ByteArray := ⟨#[115, 104, 97, 114, 101]⟩
abbrev cNo : ByteArray := ⟨#[110, 111]⟩
abbrev cKey : ByteArray := ⟨#[107, 101, 121]⟩
abbrev cInsert : ByteArray := ⟨#[105, 110, 115, 101, 114, 116]⟩
abbrev cDelete : ByteArray := ⟨#[100, 101, 108, 101, 116, 101]⟩
abbrev cMerge : ByteArray := ⟨#[109, 101, 114, 103, 101]⟩
abbrev cInto : ByteArray := ⟨#[105, 110, 116, 111]⟩
abbrev cTo : ByteArray := ⟨#[116, 111]⟩
abbrev cPg : ByteArray := ⟨#[112, 103, 95]⟩
def lockW : List ByteArray := [cUpdate, cShare, cNo, cKey]
def writeW : List ByteArray := [cInsert, cDelete, cMerge, cInto]
def locksL : List ByteArray → Bool
  | a :: b :: r => (decide (a = cFor) && memB b lockW) || locksL (b :: r)
  | _ => false
def writesL : ByteArray → List ByteArray → Bool
  | _, [] => false
  | p, s :: r => (decide (s = cUpdate) && !decide (p = cFor)) || memB s writeW || writesL s r
def isOpen (x : Tok) : Bool := decide (x.k = 5) && decide (x.t = mk [40])
def callsL (so : ByteArray → Bool) : List Tok → Bool
  | a :: b :: r => (isOpen b && decide (a.k = 1) && so a.t) || callsL so (b :: r)
  | _ => false
theorem tl_const (x : ByteArray) (c : ByteArray) (l : List UInt8) (h : c.toList = l) : (x.toList == l) = decide (x = c) := by rw [← h]; exact tl_beq x c

end Go.Proofs.Ytkjhfpjjcagecaa
