/-
  No cell of these rows narrows 'for every input' (looked for: loops, veiled, ifaces, maps, wideKeys, modest, calm, conditions, laid).
  DERIVED. THE GIVEN ROWS OF THIS SEAT. 5 by the template 'for every input the law returns true; each argument reads behind the call as it read before'; 0 by the template 'total and deterministic' (their statements: YtmiekmgicfnooaaTotals.lean).
  GIVEN WITH THE SEED: the statements are not yours to turn. If you find one false, say at which input.
  Laid BY PROGRAM, IN A SANDBOX (cutbox-rows.mjs): the forced cells as the released guide's own fill.sh prints them over the translation 94cfe45c2ab8f2cd… (all of the seat's roots in one cut). By AI agents, Wed Nov 11 2026. No macro, syntax, notation, axiom, sorry.
-/
import Derived.Test.YtmiekmgicfnooaaChecked
import GoSem.Claim
import GoSem.ClaimJoined
import GoSem.ClaimMapViews
import Derived.JoinedTies
import Derived.KernelRfl
namespace Go.Proofs.Ytmiekmgicfnooaa
/- THE CELL 'sum', in the pinned program and in every row, IS THE sha256 OF THE DUMP (.gsa) THAT YtmiekmgicfnooaaProg.lean LOADS. Nothing in Lean hashes anything: it is a label: what it is worth is what the hold of that sum in a sandbox is worth. -/
noncomputable def Try.pinned : Pinned := { name := "ytmiekmgicfnooaa", sum := "94cfe45c2ab8f2cdc29f97d2fa858a3db4d6288d2c8bf907b1e1e89592795feb", checked := Try.checked }
namespace Rows
def none {H : Type} : Left H := { results := [], args := [] }

/-- 'pontoonlaw16.LineFair': WHATEVER THE INPUT: true; the input reads as it did. -/
def lineFairSpec : ChangeSpec := { name := "lineFair", fn := fun _ => fun
  | [d1, d2] => { results := [.lit (.bool true)], args := [d1, d2] }
  | _ => none }
def lineFairRow : OpenClaim := { program := "ytmiekmgicfnooaa", sum := "94cfe45c2ab8f2cdc29f97d2fa858a3db4d6288d2c8bf907b1e1e89592795feb", func := "pontoon/pontoonlaw16.LineFair", spec := "lineFair", apart := false }
def LineFairSaid : Prop := lineFairRow.holds Try.pinned (OpenSpec.ofChange lineFairSpec)

/-- ITS FALSE NEIGHBOUR: 'it returns false'. Refute it at one input. -/
def lineFairWrong : ChangeSpec := { name := "lineFair", fn := fun _ => fun
  | [d1, d2] => { results := [.lit (.bool false)], args := [d1, d2] }
  | _ => none }
def LineFairWrongFalsely : Prop := lineFairRow.holds Try.pinned (OpenSpec.ofChange lineFairWrong)

/-- 'pontoonlaw16.LineFull': WHATEVER THE INPUT: true; the input reads as it did. -/
def lineFullSpec : ChangeSpec := { name := "lineFull", fn := fun _ => fun
  | [d1, d2] => { results := [.lit (.bool true)], args := [d1, d2] }
  | _ => none }
def lineFullRow : OpenClaim := { program := "ytmiekmgicfnooaa", sum := "94cfe45c2ab8f2cdc29f97d2fa858a3db4d6288d2c8bf907b1e1e89592795feb", func := "pontoon/pontoonlaw16.LineFull", spec := "lineFull", apart := false }
def LineFullSaid : Prop := lineFullRow.holds Try.pinned (OpenSpec.ofChange lineFullSpec)

/-- ITS FALSE NEIGHBOUR: 'it returns false'. Refute it at one input. -/
def lineFullWrong : ChangeSpec := { name := "lineFull", fn := fun _ => fun
  | [d1, d2] => { results := [.lit (.bool false)], args := [d1, d2] }
  | _ => none }
def LineFullWrongFalsely : Prop := lineFullRow.holds Try.pinned (OpenSpec.ofChange lineFullWrong)

/-- 'pontoonlaw16.LineLeaves': WHATEVER THE INPUT: true; the input reads as it did. -/
def lineLeavesSpec : ChangeSpec := { name := "lineLeaves", fn := fun _ => fun
  | [d1, d2] => { results := [.lit (.bool true)], args := [d1, d2] }
  | _ => none }
def lineLeavesRow : OpenClaim := { program := "ytmiekmgicfnooaa", sum := "94cfe45c2ab8f2cdc29f97d2fa858a3db4d6288d2c8bf907b1e1e89592795feb", func := "pontoon/pontoonlaw16.LineLeaves", spec := "lineLeaves", apart := false }
def LineLeavesSaid : Prop := lineLeavesRow.holds Try.pinned (OpenSpec.ofChange lineLeavesSpec)

/-- ITS FALSE NEIGHBOUR: 'it returns false'. Refute it at one input. -/
def lineLeavesWrong : ChangeSpec := { name := "lineLeaves", fn := fun _ => fun
  | [d1, d2] => { results := [.lit (.bool false)], args := [d1, d2] }
  | _ => none }
def LineLeavesWrongFalsely : Prop := lineLeavesRow.holds Try.pinned (OpenSpec.ofChange lineLeavesWrong)

/-- 'pontoonlaw16.LinePlays': WHATEVER THE INPUT: true; the input reads as it did. -/
def linePlaysSpec : ChangeSpec := { name := "linePlays", fn := fun _ => fun
  | [d1, d2] => { results := [.lit (.bool true)], args := [d1, d2] }
  | _ => none }
def linePlaysRow : OpenClaim := { program := "ytmiekmgicfnooaa", sum := "94cfe45c2ab8f2cdc29f97d2fa858a3db4d6288d2c8bf907b1e1e89592795feb", func := "pontoon/pontoonlaw16.LinePlays", spec := "linePlays", apart := false }
def LinePlaysSaid : Prop := linePlaysRow.holds Try.pinned (OpenSpec.ofChange linePlaysSpec)

/-- ITS FALSE NEIGHBOUR: 'it returns false'. Refute it at one input. -/
def linePlaysWrong : ChangeSpec := { name := "linePlays", fn := fun _ => fun
  | [d1, d2] => { results := [.lit (.bool false)], args := [d1, d2] }
  | _ => none }
def LinePlaysWrongFalsely : Prop := linePlaysRow.holds Try.pinned (OpenSpec.ofChange linePlaysWrong)

/-- 'pontoonlaw16.LineNil': WHATEVER THE INPUT: true; the input reads as it did. -/
def lineNilSpec : ChangeSpec := { name := "lineNil", fn := fun _ => fun
  | [d] => { results := [.lit (.bool true)], args := [d] }
  | _ => none }
def lineNilRow : OpenClaim := { program := "ytmiekmgicfnooaa", sum := "94cfe45c2ab8f2cdc29f97d2fa858a3db4d6288d2c8bf907b1e1e89592795feb", func := "pontoon/pontoonlaw16.LineNil", spec := "lineNil", apart := false }
def LineNilSaid : Prop := lineNilRow.holds Try.pinned (OpenSpec.ofChange lineNilSpec)

/-- ITS FALSE NEIGHBOUR: 'it returns false'. Refute it at one input. -/
def lineNilWrong : ChangeSpec := { name := "lineNil", fn := fun _ => fun
  | [d] => { results := [.lit (.bool false)], args := [d] }
  | _ => none }
def LineNilWrongFalsely : Prop := lineNilRow.holds Try.pinned (OpenSpec.ofChange lineNilWrong)

/- THE SECOND FORM. 'bulk': how many values and letters a reading holds, each counted each time it is reached (what is shared counts as often as it is met; a slice's spare places count too). A statement '..UptoSaid' is the law's where the arguments, and the package variables that the reading takes, are together of bulk at most 1048576: NARROWER than '..Said'. Prove '..Said' where nothing that the law and all that it calls make is longer than what came in: it says more and counts as full. Else prove '..UptoSaid'. A law counts once. -/
mutual
def uptoBulk {H : Type} : DataW H → Nat
  | .lit (.string bytes) => bytes.length + 1
  | .lit _ => 1
  | .nil => 1
  | .ptr d => uptoBulk d + 1
  | .slice elems spare => uptoBulkAll elems + uptoBulkAll spare + 1
  | .agg parts => uptoBulkAll parts + 1
  | .iface _ d => uptoBulk d + 1
  | .map entries => uptoBulkEntries entries + 1
  | .held _ => 1
def uptoBulkAll {H : Type} : List (DataW H) → Nat
  | [] => 0
  | d :: r => uptoBulk d + uptoBulkAll r
def uptoBulkEntries {H : Type} : List (Lit × DataW H) → Nat
  | [] => 0
  | x :: r => uptoBulkEntry x + uptoBulkEntries r
def uptoBulkEntry {H : Type} : Lit × DataW H → Nat
  | (.string bytes, d) => bytes.length + uptoBulk d + 1
  | (_, d) => uptoBulk d + 1
 end
def uptoSmall : (H : Type) → List (DataW H) → Bool := fun _ ds => decide (uptoBulkAll ds ≤ 1048576)
def OpenSpec.upto (s : _root_.Go.ChangeSpec) : _root_.Go.OpenSpec := { _root_.Go.OpenSpec.ofChange s with cond := some uptoSmall }

/-- 'pontoonlaw16.LineFair', WHERE WHAT IT READS IS OF BULK AT MOST 1048576: true; the input reads as it did. -/
def lineFairUptoRow : OpenClaim := { program := "ytmiekmgicfnooaa", sum := "94cfe45c2ab8f2cdc29f97d2fa858a3db4d6288d2c8bf907b1e1e89592795feb", func := "pontoon/pontoonlaw16.LineFair", spec := "lineFair", apart := false, narrowed := true }
def LineFairUptoSaid : Prop := lineFairUptoRow.holds Try.pinned (OpenSpec.upto lineFairSpec)

/-- 'pontoonlaw16.LineFull', WHERE WHAT IT READS IS OF BULK AT MOST 1048576: true; the input reads as it did. -/
def lineFullUptoRow : OpenClaim := { program := "ytmiekmgicfnooaa", sum := "94cfe45c2ab8f2cdc29f97d2fa858a3db4d6288d2c8bf907b1e1e89592795feb", func := "pontoon/pontoonlaw16.LineFull", spec := "lineFull", apart := false, narrowed := true }
def LineFullUptoSaid : Prop := lineFullUptoRow.holds Try.pinned (OpenSpec.upto lineFullSpec)

/-- 'pontoonlaw16.LineLeaves', WHERE WHAT IT READS IS OF BULK AT MOST 1048576: true; the input reads as it did. -/
def lineLeavesUptoRow : OpenClaim := { program := "ytmiekmgicfnooaa", sum := "94cfe45c2ab8f2cdc29f97d2fa858a3db4d6288d2c8bf907b1e1e89592795feb", func := "pontoon/pontoonlaw16.LineLeaves", spec := "lineLeaves", apart := false, narrowed := true }
def LineLeavesUptoSaid : Prop := lineLeavesUptoRow.holds Try.pinned (OpenSpec.upto lineLeavesSpec)

/-- 'pontoonlaw16.LinePlays', WHERE WHAT IT READS IS OF BULK AT MOST 1048576: true; the input reads as it did. -/
def linePlaysUptoRow : OpenClaim := { program := "ytmiekmgicfnooaa", sum := "94cfe45c2ab8f2cdc29f97d2fa858a3db4d6288d2c8bf907b1e1e89592795feb", func := "pontoon/pontoonlaw16.LinePlays", spec := "linePlays", apart := false, narrowed := true }
def LinePlaysUptoSaid : Prop := linePlaysUptoRow.holds Try.pinned (OpenSpec.upto linePlaysSpec)

/-- 'pontoonlaw16.LineNil', WHERE WHAT IT READS IS OF BULK AT MOST 1048576: true; the input reads as it did. -/
def lineNilUptoRow : OpenClaim := { program := "ytmiekmgicfnooaa", sum := "94cfe45c2ab8f2cdc29f97d2fa858a3db4d6288d2c8bf907b1e1e89592795feb", func := "pontoon/pontoonlaw16.LineNil", spec := "lineNil", apart := false, narrowed := true }
def LineNilUptoSaid : Prop := lineNilUptoRow.holds Try.pinned (OpenSpec.upto lineNilSpec)

end Rows
end Go.Proofs.Ytmiekmgicfnooaa
