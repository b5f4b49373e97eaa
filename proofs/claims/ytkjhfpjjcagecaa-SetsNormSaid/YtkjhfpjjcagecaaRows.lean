/-
  No cell of these rows narrows 'for every input' (looked for: loops, veiled, ifaces, maps, wideKeys, modest, calm, conditions, laid).
  DERIVED. THE GIVEN ROWS OF THIS SEAT. 5 by the template 'for every input the law returns true; each argument reads behind the call as it read before'; 0 by the template 'total and deterministic' (their statements: YtkjhfpjjcagecaaTotals.lean).
  GIVEN WITH THE SEED: the statements are not yours to turn. If you find one false, say at which input.
  Laid BY PROGRAM, IN A SANDBOX (cutbox-rows.mjs): the forced cells as the released guide's own fill.sh prints them over the translation 4d8233d4bbfbaa7c… (all of the seat's roots in one cut). By AI agents, Wed Nov 11 2026. No macro, syntax, notation, axiom, sorry.
-/
import Derived.Test.YtkjhfpjjcagecaaChecked
import GoSem.Claim
import GoSem.ClaimJoined
import GoSem.ClaimMapViews
import Derived.JoinedTies
import Derived.KernelRfl
namespace Go.Proofs.Ytkjhfpjjcagecaa
/- THE CELL 'sum', in the pinned program and in every row, IS THE sha256 OF THE DUMP (.gsa) THAT YtkjhfpjjcagecaaProg.lean LOADS. Nothing in Lean hashes anything: it is a label: what it is worth is what the hold of that sum in a sandbox is worth. -/
noncomputable def Try.pinned : Pinned := { name := "ytkjhfpjjcagecaa", sum := "4d8233d4bbfbaa7c778db690780a575a725f9a384f8181e0f30eb50150615c07", checked := Try.checked }
namespace Rows
def none {H : Type} : Left H := { results := [], args := [] }

/-- 'pontoonlaw07.SetsTells': WHATEVER THE INPUT: true; the input reads as it did. -/
def setsTellsSpec : ChangeSpec := { name := "setsTells", fn := fun _ => fun
  | [d] => { results := [.lit (.bool true)], args := [d] }
  | _ => none }
def setsTellsRow : OpenClaim := { program := "ytkjhfpjjcagecaa", sum := "4d8233d4bbfbaa7c778db690780a575a725f9a384f8181e0f30eb50150615c07", func := "pontoon/pontoonlaw07.SetsTells", spec := "setsTells", unfollowed := true, recurses := true, apart := false }
def SetsTellsSaid : Prop := setsTellsRow.holds Try.pinned (OpenSpec.ofChange setsTellsSpec)

/-- ITS FALSE NEIGHBOUR: 'it returns false'. Refute it at one input. -/
def setsTellsWrong : ChangeSpec := { name := "setsTells", fn := fun _ => fun
  | [d] => { results := [.lit (.bool false)], args := [d] }
  | _ => none }
def SetsTellsWrongFalsely : Prop := setsTellsRow.holds Try.pinned (OpenSpec.ofChange setsTellsWrong)

/-- 'pontoonlaw07.SetsParses': WHATEVER THE INPUT: true; the input reads as it did. -/
def setsParsesSpec : ChangeSpec := { name := "setsParses", fn := fun _ => fun
  | [d1, d2, d3] => { results := [.lit (.bool true)], args := [d1, d2, d3] }
  | _ => none }
def setsParsesRow : OpenClaim := { program := "ytkjhfpjjcagecaa", sum := "4d8233d4bbfbaa7c778db690780a575a725f9a384f8181e0f30eb50150615c07", func := "pontoon/pontoonlaw07.SetsParses", spec := "setsParses", unfollowed := true, recurses := true, apart := false }
def SetsParsesSaid : Prop := setsParsesRow.holds Try.pinned (OpenSpec.ofChange setsParsesSpec)

/-- ITS FALSE NEIGHBOUR: 'it returns false'. Refute it at one input. -/
def setsParsesWrong : ChangeSpec := { name := "setsParses", fn := fun _ => fun
  | [d1, d2, d3] => { results := [.lit (.bool false)], args := [d1, d2, d3] }
  | _ => none }
def SetsParsesWrongFalsely : Prop := setsParsesRow.holds Try.pinned (OpenSpec.ofChange setsParsesWrong)

/-- 'pontoonlaw07.SetsReads': WHATEVER THE INPUT: true; the input reads as it did. -/
def setsReadsSpec : ChangeSpec := { name := "setsReads", fn := fun _ => fun
  | [d] => { results := [.lit (.bool true)], args := [d] }
  | _ => none }
def setsReadsRow : OpenClaim := { program := "ytkjhfpjjcagecaa", sum := "4d8233d4bbfbaa7c778db690780a575a725f9a384f8181e0f30eb50150615c07", func := "pontoon/pontoonlaw07.SetsReads", spec := "setsReads", unfollowed := true, recurses := true, apart := false }
def SetsReadsSaid : Prop := setsReadsRow.holds Try.pinned (OpenSpec.ofChange setsReadsSpec)

/-- ITS FALSE NEIGHBOUR: 'it returns false'. Refute it at one input. -/
def setsReadsWrong : ChangeSpec := { name := "setsReads", fn := fun _ => fun
  | [d] => { results := [.lit (.bool false)], args := [d] }
  | _ => none }
def SetsReadsWrongFalsely : Prop := setsReadsRow.holds Try.pinned (OpenSpec.ofChange setsReadsWrong)

/-- 'pontoonlaw07.SetsNorm': WHATEVER THE INPUT: true; the input reads as it did. -/
def setsNormSpec : ChangeSpec := { name := "setsNorm", fn := fun _ => fun
  | [d] => { results := [.lit (.bool true)], args := [d] }
  | _ => none }
def setsNormRow : OpenClaim := { program := "ytkjhfpjjcagecaa", sum := "4d8233d4bbfbaa7c778db690780a575a725f9a384f8181e0f30eb50150615c07", func := "pontoon/pontoonlaw07.SetsNorm", spec := "setsNorm", unfollowed := true, recurses := true, apart := false }
def SetsNormSaid : Prop := setsNormRow.holds Try.pinned (OpenSpec.ofChange setsNormSpec)

/-- ITS FALSE NEIGHBOUR: 'it returns false'. Refute it at one input. -/
def setsNormWrong : ChangeSpec := { name := "setsNorm", fn := fun _ => fun
  | [d] => { results := [.lit (.bool false)], args := [d] }
  | _ => none }
def SetsNormWrongFalsely : Prop := setsNormRow.holds Try.pinned (OpenSpec.ofChange setsNormWrong)

/-- 'pontoonlaw07.SetsQuoted': WHATEVER THE INPUT: true; the input reads as it did. -/
def setsQuotedSpec : ChangeSpec := { name := "setsQuoted", fn := fun _ => fun
  | [d] => { results := [.lit (.bool true)], args := [d] }
  | _ => none }
def setsQuotedRow : OpenClaim := { program := "ytkjhfpjjcagecaa", sum := "4d8233d4bbfbaa7c778db690780a575a725f9a384f8181e0f30eb50150615c07", func := "pontoon/pontoonlaw07.SetsQuoted", spec := "setsQuoted", unfollowed := true, recurses := true, apart := false }
def SetsQuotedSaid : Prop := setsQuotedRow.holds Try.pinned (OpenSpec.ofChange setsQuotedSpec)

/-- ITS FALSE NEIGHBOUR: 'it returns false'. Refute it at one input. -/
def setsQuotedWrong : ChangeSpec := { name := "setsQuoted", fn := fun _ => fun
  | [d] => { results := [.lit (.bool false)], args := [d] }
  | _ => none }
def SetsQuotedWrongFalsely : Prop := setsQuotedRow.holds Try.pinned (OpenSpec.ofChange setsQuotedWrong)

/- THE SECOND FORM. 'bulk': how many values and letters a reading holds, each counted each time it is reached (what is shared counts as often as it is met; a slice's spare places count too). A statement '..UptoSaid' is the law's where the arguments, and the package variables that the reading takes, are together of bulk at most 1048576: NARROWER than '..Said'. Prove '..Said' where nothing that the law and all that it calls make is longer than what came in: it says more and counts as full. Else prove '..UptoSaid'. A law counts once. -/
mutual
def uptoBulk {H : Type} : DataW H → Nat
  | .lit (.string bytes) => bytes.length + 1
  | .lit _ => 1
  | .nil => 1
  | .ptr d => uptoBulk d + 1
  | .slice elems spare => uptoBulkAll elems + uptoBulkAll spare + 1
  | .agg parts => uptoBulkAll parts + 1
  | .iface _ d => uptoBulk d + 1
  | .map entries => uptoBulkEntries entries + 1
  | .held _ => 1
def uptoBulkAll {H : Type} : List (DataW H) → Nat
  | [] => 0
  | d :: r => uptoBulk d + uptoBulkAll r
def uptoBulkEntries {H : Type} : List (Lit × DataW H) → Nat
  | [] => 0
  | x :: r => uptoBulkEntry x + uptoBulkEntries r
def uptoBulkEntry {H : Type} : Lit × DataW H → Nat
  | (.string bytes, d) => bytes.length + uptoBulk d + 1
  | (_, d) => uptoBulk d + 1
 end
def uptoSmall : (H : Type) → List (DataW H) → Bool := fun _ ds => decide (uptoBulkAll ds ≤ 1048576)
def OpenSpec.upto (s : _root_.Go.ChangeSpec) : _root_.Go.OpenSpec := { _root_.Go.OpenSpec.ofChange s with cond := some uptoSmall }

/-- 'pontoonlaw07.SetsTells', WHERE WHAT IT READS IS OF BULK AT MOST 1048576: true; the input reads as it did. -/
def setsTellsUptoRow : OpenClaim := { program := "ytkjhfpjjcagecaa", sum := "4d8233d4bbfbaa7c778db690780a575a725f9a384f8181e0f30eb50150615c07", func := "pontoon/pontoonlaw07.SetsTells", spec := "setsTells", unfollowed := true, recurses := true, apart := false, narrowed := true }
def SetsTellsUptoSaid : Prop := setsTellsUptoRow.holds Try.pinned (OpenSpec.upto setsTellsSpec)

/-- 'pontoonlaw07.SetsParses', WHERE WHAT IT READS IS OF BULK AT MOST 1048576: true; the input reads as it did. -/
def setsParsesUptoRow : OpenClaim := { program := "ytkjhfpjjcagecaa", sum := "4d8233d4bbfbaa7c778db690780a575a725f9a384f8181e0f30eb50150615c07", func := "pontoon/pontoonlaw07.SetsParses", spec := "setsParses", unfollowed := true, recurses := true, apart := false, narrowed := true }
def SetsParsesUptoSaid : Prop := setsParsesUptoRow.holds Try.pinned (OpenSpec.upto setsParsesSpec)

/-- 'pontoonlaw07.SetsReads', WHERE WHAT IT READS IS OF BULK AT MOST 1048576: true; the input reads as it did. -/
def setsReadsUptoRow : OpenClaim := { program := "ytkjhfpjjcagecaa", sum := "4d8233d4bbfbaa7c778db690780a575a725f9a384f8181e0f30eb50150615c07", func := "pontoon/pontoonlaw07.SetsReads", spec := "setsReads", unfollowed := true, recurses := true, apart := false, narrowed := true }
def SetsReadsUptoSaid : Prop := setsReadsUptoRow.holds Try.pinned (OpenSpec.upto setsReadsSpec)

/-- 'pontoonlaw07.SetsNorm', WHERE WHAT IT READS IS OF BULK AT MOST 1048576: true; the input reads as it did. -/
def setsNormUptoRow : OpenClaim := { program := "ytkjhfpjjcagecaa", sum := "4d8233d4bbfbaa7c778db690780a575a725f9a384f8181e0f30eb50150615c07", func := "pontoon/pontoonlaw07.SetsNorm", spec := "setsNorm", unfollowed := true, recurses := true, apart := false, narrowed := true }
def SetsNormUptoSaid : Prop := setsNormUptoRow.holds Try.pinned (OpenSpec.upto setsNormSpec)

/-- 'pontoonlaw07.SetsQuoted', WHERE WHAT IT READS IS OF BULK AT MOST 1048576: true; the input reads as it did. -/
def setsQuotedUptoRow : OpenClaim := { program := "ytkjhfpjjcagecaa", sum := "4d8233d4bbfbaa7c778db690780a575a725f9a384f8181e0f30eb50150615c07", func := "pontoon/pontoonlaw07.SetsQuoted", spec := "setsQuoted", unfollowed := true, recurses := true, apart := false, narrowed := true }
def SetsQuotedUptoSaid : Prop := setsQuotedUptoRow.holds Try.pinned (OpenSpec.upto setsQuotedSpec)

end Rows
end Go.Proofs.Ytkjhfpjjcagecaa
