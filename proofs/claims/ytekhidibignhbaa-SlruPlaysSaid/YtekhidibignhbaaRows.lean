/-
  No cell of these rows narrows 'for every input' (looked for: loops, veiled, ifaces, maps, wideKeys, modest, calm, conditions, laid).
  DERIVED. THE GIVEN ROWS OF THIS SEAT. 5 by the template 'for every input the law returns true; each argument reads behind the call as it read before'; 0 by the template 'total and deterministic' (their statements: YtekhidibignhbaaTotals.lean).
  GIVEN WITH THE SEED: the statements are not yours to turn. If you find one false, say at which input.
  Laid BY PROGRAM, IN A SANDBOX (cutbox-rows.mjs): the forced cells as the released guide's own fill.sh prints them over the translation d749b51f9b5fc25c… (all of the seat's roots in one cut). By AI agents, Wed Nov 11 2026. No macro, syntax, notation, axiom, sorry.
-/
import Derived.Test.YtekhidibignhbaaChecked
import GoSem.Claim
import GoSem.ClaimJoined
import GoSem.ClaimMapViews
import Derived.JoinedTies
import Derived.KernelRfl
namespace Go.Proofs.Ytekhidibignhbaa
/- THE CELL 'sum', in the pinned program and in every row, IS THE sha256 OF THE DUMP (.gsa) THAT YtekhidibignhbaaProg.lean LOADS. Nothing in Lean hashes anything: it is a label: what it is worth is what the hold of that sum in a sandbox is worth. -/
noncomputable def Try.pinned : Pinned := { name := "ytekhidibignhbaa", sum := "d749b51f9b5fc25c05fcff8e0dcd759c68aa278d38ab0637a9864d7bf492c55b", checked := Try.checked }
namespace Rows
def none {H : Type} : Left H := { results := [], args := [] }

/-- 'pontoonlaw10.SlruBudget': WHATEVER THE INPUT: true; the input reads as it did. -/
def slruBudgetSpec : ChangeSpec := { name := "slruBudget", fn := fun _ => fun
  | [d1, d2] => { results := [.lit (.bool true)], args := [d1, d2] }
  | _ => none }
def slruBudgetRow : OpenClaim := { program := "ytekhidibignhbaa", sum := "d749b51f9b5fc25c05fcff8e0dcd759c68aa278d38ab0637a9864d7bf492c55b", func := "pontoon/pontoonlaw10.SlruBudget", spec := "slruBudget", apart := false }
def SlruBudgetSaid : Prop := slruBudgetRow.holds Try.pinned (OpenSpec.ofChange slruBudgetSpec)

/-- ITS FALSE NEIGHBOUR: 'it returns false'. Refute it at one input. -/
def slruBudgetWrong : ChangeSpec := { name := "slruBudget", fn := fun _ => fun
  | [d1, d2] => { results := [.lit (.bool false)], args := [d1, d2] }
  | _ => none }
def SlruBudgetWrongFalsely : Prop := slruBudgetRow.holds Try.pinned (OpenSpec.ofChange slruBudgetWrong)

/-- 'pontoonlaw10.SlruStays': WHATEVER THE INPUT: true; the input reads as it did. -/
def slruStaysSpec : ChangeSpec := { name := "slruStays", fn := fun _ => fun
  | [d1, d2] => { results := [.lit (.bool true)], args := [d1, d2] }
  | _ => none }
def slruStaysRow : OpenClaim := { program := "ytekhidibignhbaa", sum := "d749b51f9b5fc25c05fcff8e0dcd759c68aa278d38ab0637a9864d7bf492c55b", func := "pontoon/pontoonlaw10.SlruStays", spec := "slruStays", apart := false }
def SlruStaysSaid : Prop := slruStaysRow.holds Try.pinned (OpenSpec.ofChange slruStaysSpec)

/-- ITS FALSE NEIGHBOUR: 'it returns false'. Refute it at one input. -/
def slruStaysWrong : ChangeSpec := { name := "slruStays", fn := fun _ => fun
  | [d1, d2] => { results := [.lit (.bool false)], args := [d1, d2] }
  | _ => none }
def SlruStaysWrongFalsely : Prop := slruStaysRow.holds Try.pinned (OpenSpec.ofChange slruStaysWrong)

/-- 'pontoonlaw10.SlruDrops': WHATEVER THE INPUT: true; the input reads as it did. -/
def slruDropsSpec : ChangeSpec := { name := "slruDrops", fn := fun _ => fun
  | [d1, d2] => { results := [.lit (.bool true)], args := [d1, d2] }
  | _ => none }
def slruDropsRow : OpenClaim := { program := "ytekhidibignhbaa", sum := "d749b51f9b5fc25c05fcff8e0dcd759c68aa278d38ab0637a9864d7bf492c55b", func := "pontoon/pontoonlaw10.SlruDrops", spec := "slruDrops", apart := false }
def SlruDropsSaid : Prop := slruDropsRow.holds Try.pinned (OpenSpec.ofChange slruDropsSpec)

/-- ITS FALSE NEIGHBOUR: 'it returns false'. Refute it at one input. -/
def slruDropsWrong : ChangeSpec := { name := "slruDrops", fn := fun _ => fun
  | [d1, d2] => { results := [.lit (.bool false)], args := [d1, d2] }
  | _ => none }
def SlruDropsWrongFalsely : Prop := slruDropsRow.holds Try.pinned (OpenSpec.ofChange slruDropsWrong)

/-- 'pontoonlaw10.SlruPlays': WHATEVER THE INPUT: true; the input reads as it did. -/
def slruPlaysSpec : ChangeSpec := { name := "slruPlays", fn := fun _ => fun
  | [d1, d2] => { results := [.lit (.bool true)], args := [d1, d2] }
  | _ => none }
def slruPlaysRow : OpenClaim := { program := "ytekhidibignhbaa", sum := "d749b51f9b5fc25c05fcff8e0dcd759c68aa278d38ab0637a9864d7bf492c55b", func := "pontoon/pontoonlaw10.SlruPlays", spec := "slruPlays", apart := false }
def SlruPlaysSaid : Prop := slruPlaysRow.holds Try.pinned (OpenSpec.ofChange slruPlaysSpec)

/-- ITS FALSE NEIGHBOUR: 'it returns false'. Refute it at one input. -/
def slruPlaysWrong : ChangeSpec := { name := "slruPlays", fn := fun _ => fun
  | [d1, d2] => { results := [.lit (.bool false)], args := [d1, d2] }
  | _ => none }
def SlruPlaysWrongFalsely : Prop := slruPlaysRow.holds Try.pinned (OpenSpec.ofChange slruPlaysWrong)

/-- 'pontoonlaw10.SlruNil': WHATEVER THE INPUT: true; the input reads as it did. -/
def slruNilSpec : ChangeSpec := { name := "slruNil", fn := fun _ => fun
  | [d] => { results := [.lit (.bool true)], args := [d] }
  | _ => none }
def slruNilRow : OpenClaim := { program := "ytekhidibignhbaa", sum := "d749b51f9b5fc25c05fcff8e0dcd759c68aa278d38ab0637a9864d7bf492c55b", func := "pontoon/pontoonlaw10.SlruNil", spec := "slruNil", apart := false }
def SlruNilSaid : Prop := slruNilRow.holds Try.pinned (OpenSpec.ofChange slruNilSpec)

/-- ITS FALSE NEIGHBOUR: 'it returns false'. Refute it at one input. -/
def slruNilWrong : ChangeSpec := { name := "slruNil", fn := fun _ => fun
  | [d] => { results := [.lit (.bool false)], args := [d] }
  | _ => none }
def SlruNilWrongFalsely : Prop := slruNilRow.holds Try.pinned (OpenSpec.ofChange slruNilWrong)

/- THE SECOND FORM. 'bulk': how many values and letters a reading holds, each counted each time it is reached (what is shared counts as often as it is met; a slice's spare places count too). A statement '..UptoSaid' is the law's where the arguments, and the package variables that the reading takes, are together of bulk at most 1048576: NARROWER than '..Said'. Prove '..Said' where nothing that the law and all that it calls make is longer than what came in: it says more and counts as full. Else prove '..UptoSaid'. A law counts once. -/
mutual
def uptoBulk {H : Type} : DataW H → Nat
  | .lit (.string bytes) => bytes.length + 1
  | .lit _ => 1
  | .nil => 1
  | .ptr d => uptoBulk d + 1
  | .slice elems spare => uptoBulkAll elems + uptoBulkAll spare + 1
  | .agg parts => uptoBulkAll parts + 1
  | .iface _ d => uptoBulk d + 1
  | .map entries => uptoBulkEntries entries + 1
  | .held _ => 1
def uptoBulkAll {H : Type} : List (DataW H) → Nat
  | [] => 0
  | d :: r => uptoBulk d + uptoBulkAll r
def uptoBulkEntries {H : Type} : List (Lit × DataW H) → Nat
  | [] => 0
  | x :: r => uptoBulkEntry x + uptoBulkEntries r
def uptoBulkEntry {H : Type} : Lit × DataW H → Nat
  | (.string bytes, d) => bytes.length + uptoBulk d + 1
  | (_, d) => uptoBulk d + 1
 end
def uptoSmall : (H : Type) → List (DataW H) → Bool := fun _ ds => decide (uptoBulkAll ds ≤ 1048576)
def OpenSpec.upto (s : _root_.Go.ChangeSpec) : _root_.Go.OpenSpec := { _root_.Go.OpenSpec.ofChange s with cond := some uptoSmall }

/-- 'pontoonlaw10.SlruBudget', WHERE WHAT IT READS IS OF BULK AT MOST 1048576: true; the input reads as it did. -/
def slruBudgetUptoRow : OpenClaim := { program := "ytekhidibignhbaa", sum := "d749b51f9b5fc25c05fcff8e0dcd759c68aa278d38ab0637a9864d7bf492c55b", func := "pontoon/pontoonlaw10.SlruBudget", spec := "slruBudget", apart := false, narrowed := true }
def SlruBudgetUptoSaid : Prop := slruBudgetUptoRow.holds Try.pinned (OpenSpec.upto slruBudgetSpec)

/-- 'pontoonlaw10.SlruStays', WHERE WHAT IT READS IS OF BULK AT MOST 1048576: true; the input reads as it did. -/
def slruStaysUptoRow : OpenClaim := { program := "ytekhidibignhbaa", sum := "d749b51f9b5fc25c05fcff8e0dcd759c68aa278d38ab0637a9864d7bf492c55b", func := "pontoon/pontoonlaw10.SlruStays", spec := "slruStays", apart := false, narrowed := true }
def SlruStaysUptoSaid : Prop := slruStaysUptoRow.holds Try.pinned (OpenSpec.upto slruStaysSpec)

/-- 'pontoonlaw10.SlruDrops', WHERE WHAT IT READS IS OF BULK AT MOST 1048576: true; the input reads as it did. -/
def slruDropsUptoRow : OpenClaim := { program := "ytekhidibignhbaa", sum := "d749b51f9b5fc25c05fcff8e0dcd759c68aa278d38ab0637a9864d7bf492c55b", func := "pontoon/pontoonlaw10.SlruDrops", spec := "slruDrops", apart := false, narrowed := true }
def SlruDropsUptoSaid : Prop := slruDropsUptoRow.holds Try.pinned (OpenSpec.upto slruDropsSpec)

/-- 'pontoonlaw10.SlruPlays', WHERE WHAT IT READS IS OF BULK AT MOST 1048576: true; the input reads as it did. -/
def slruPlaysUptoRow : OpenClaim := { program := "ytekhidibignhbaa", sum := "d749b51f9b5fc25c05fcff8e0dcd759c68aa278d38ab0637a9864d7bf492c55b", func := "pontoon/pontoonlaw10.SlruPlays", spec := "slruPlays", apart := false, narrowed := true }
def SlruPlaysUptoSaid : Prop := slruPlaysUptoRow.holds Try.pinned (OpenSpec.upto slruPlaysSpec)

/-- 'pontoonlaw10.SlruNil', WHERE WHAT IT READS IS OF BULK AT MOST 1048576: true; the input reads as it did. -/
def slruNilUptoRow : OpenClaim := { program := "ytekhidibignhbaa", sum := "d749b51f9b5fc25c05fcff8e0dcd759c68aa278d38ab0637a9864d7bf492c55b", func := "pontoon/pontoonlaw10.SlruNil", spec := "slruNil", apart := false, narrowed := true }
def SlruNilUptoSaid : Prop := slruNilUptoRow.holds Try.pinned (OpenSpec.upto slruNilSpec)

end Rows
end Go.Proofs.Ytekhidibignhbaa
