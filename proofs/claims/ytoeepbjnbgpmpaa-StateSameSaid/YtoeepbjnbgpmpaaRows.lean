/-
  No cell of these rows narrows 'for every input' (looked for: loops, veiled, ifaces, maps, wideKeys, modest, calm, conditions, laid).
  DERIVED. THE GIVEN ROWS OF THIS SEAT. 6 by the template 'for every input the law returns true; each argument reads behind the call as it read before'; 0 by the template 'total and deterministic' (their statements: YtoeepbjnbgpmpaaTotals.lean).
  GIVEN WITH THE SEED: the statements are not yours to turn. If you find one false, say at which input.
  Laid BY PROGRAM, IN A SANDBOX (cutbox-rows.mjs): the forced cells as the released guide's own fill.sh prints them over the translation c2d9266918489e33… (all of the seat's roots in one cut). By AI agents, Wed Nov 11 2026. No macro, syntax, notation, axiom, sorry.
-/
import Derived.Test.YtoeepbjnbgpmpaaChecked
import GoSem.Claim
import GoSem.ClaimJoined
import GoSem.ClaimMapViews
import Derived.JoinedTies
import Derived.KernelRfl
namespace Go.Proofs.Ytoeepbjnbgpmpaa
/- THE CELL 'sum', in the pinned program and in every row, IS THE sha256 OF THE DUMP (.gsa) THAT YtoeepbjnbgpmpaaProg.lean LOADS. Nothing in Lean hashes anything: it is a label: what it is worth is what the hold of that sum in a sandbox is worth. -/
noncomputable def Try.pinned : Pinned := { name := "ytoeepbjnbgpmpaa", sum := "c2d9266918489e33152daead9911cc501504cefa9eb0adc46609790e75d7efff", checked := Try.checked }
namespace Rows
def none {H : Type} : Left H := { results := [], args := [] }

/-- 'pontoonlaw08.StateCommands': WHATEVER THE INPUT: true; the input reads as it did. -/
def stateCommandsSpec : ChangeSpec := { name := "stateCommands", fn := fun _ => fun
  | [d1, d2] => { results := [.lit (.bool true)], args := [d1, d2] }
  | _ => none }
def stateCommandsRow : OpenClaim := { program := "ytoeepbjnbgpmpaa", sum := "c2d9266918489e33152daead9911cc501504cefa9eb0adc46609790e75d7efff", func := "pontoon/pontoonlaw08.StateCommands", spec := "stateCommands", unfollowed := true, recurses := true, apart := false }
def StateCommandsSaid : Prop := stateCommandsRow.holds Try.pinned (OpenSpec.ofChange stateCommandsSpec)

/-- ITS FALSE NEIGHBOUR: 'it returns false'. Refute it at one input. -/
def stateCommandsWrong : ChangeSpec := { name := "stateCommands", fn := fun _ => fun
  | [d1, d2] => { results := [.lit (.bool false)], args := [d1, d2] }
  | _ => none }
def StateCommandsWrongFalsely : Prop := stateCommandsRow.holds Try.pinned (OpenSpec.ofChange stateCommandsWrong)

/-- 'pontoonlaw08.StateDoes': WHATEVER THE INPUT: true; the input reads as it did. -/
def stateDoesSpec : ChangeSpec := { name := "stateDoes", fn := fun _ => fun
  | [d1, d2] => { results := [.lit (.bool true)], args := [d1, d2] }
  | _ => none }
def stateDoesRow : OpenClaim := { program := "ytoeepbjnbgpmpaa", sum := "c2d9266918489e33152daead9911cc501504cefa9eb0adc46609790e75d7efff", func := "pontoon/pontoonlaw08.StateDoes", spec := "stateDoes", unfollowed := true, recurses := true, apart := false }
def StateDoesSaid : Prop := stateDoesRow.holds Try.pinned (OpenSpec.ofChange stateDoesSpec)

/-- ITS FALSE NEIGHBOUR: 'it returns false'. Refute it at one input. -/
def stateDoesWrong : ChangeSpec := { name := "stateDoes", fn := fun _ => fun
  | [d1, d2] => { results := [.lit (.bool false)], args := [d1, d2] }
  | _ => none }
def StateDoesWrongFalsely : Prop := stateDoesRow.holds Try.pinned (OpenSpec.ofChange stateDoesWrong)

/-- 'pontoonlaw08.StateSame': WHATEVER THE INPUT: true; the input reads as it did. -/
def stateSameSpec : ChangeSpec := { name := "stateSame", fn := fun _ => fun
  | [d1, d2] => { results := [.lit (.bool true)], args := [d1, d2] }
  | _ => none }
def stateSameRow : OpenClaim := { program := "ytoeepbjnbgpmpaa", sum := "c2d9266918489e33152daead9911cc501504cefa9eb0adc46609790e75d7efff", func := "pontoon/pontoonlaw08.StateSame", spec := "stateSame", unfollowed := true, recurses := true, apart := false }
def StateSameSaid : Prop := stateSameRow.holds Try.pinned (OpenSpec.ofChange stateSameSpec)

/-- ITS FALSE NEIGHBOUR: 'it returns false'. Refute it at one input. -/
def stateSameWrong : ChangeSpec := { name := "stateSame", fn := fun _ => fun
  | [d1, d2] => { results := [.lit (.bool false)], args := [d1, d2] }
  | _ => none }
def StateSameWrongFalsely : Prop := stateSameRow.holds Try.pinned (OpenSpec.ofChange stateSameWrong)

/-- 'pontoonlaw08.StateBack': WHATEVER THE INPUT: true; the input reads as it did. -/
def stateBackSpec : ChangeSpec := { name := "stateBack", fn := fun _ => fun
  | [d1, d2] => { results := [.lit (.bool true)], args := [d1, d2] }
  | _ => none }
def stateBackRow : OpenClaim := { program := "ytoeepbjnbgpmpaa", sum := "c2d9266918489e33152daead9911cc501504cefa9eb0adc46609790e75d7efff", func := "pontoon/pontoonlaw08.StateBack", spec := "stateBack", unfollowed := true, recurses := true, apart := false }
def StateBackSaid : Prop := stateBackRow.holds Try.pinned (OpenSpec.ofChange stateBackSpec)

/-- ITS FALSE NEIGHBOUR: 'it returns false'. Refute it at one input. -/
def stateBackWrong : ChangeSpec := { name := "stateBack", fn := fun _ => fun
  | [d1, d2] => { results := [.lit (.bool false)], args := [d1, d2] }
  | _ => none }
def StateBackWrongFalsely : Prop := stateBackRow.holds Try.pinned (OpenSpec.ofChange stateBackWrong)

/-- 'pontoonlaw08.StateKeeps': WHATEVER THE INPUT: true; the input reads as it did. -/
def stateKeepsSpec : ChangeSpec := { name := "stateKeeps", fn := fun _ => fun
  | [d1, d2] => { results := [.lit (.bool true)], args := [d1, d2] }
  | _ => none }
def stateKeepsRow : OpenClaim := { program := "ytoeepbjnbgpmpaa", sum := "c2d9266918489e33152daead9911cc501504cefa9eb0adc46609790e75d7efff", func := "pontoon/pontoonlaw08.StateKeeps", spec := "stateKeeps", unfollowed := true, recurses := true, apart := false }
def StateKeepsSaid : Prop := stateKeepsRow.holds Try.pinned (OpenSpec.ofChange stateKeepsSpec)

/-- ITS FALSE NEIGHBOUR: 'it returns false'. Refute it at one input. -/
def stateKeepsWrong : ChangeSpec := { name := "stateKeeps", fn := fun _ => fun
  | [d1, d2] => { results := [.lit (.bool false)], args := [d1, d2] }
  | _ => none }
def StateKeepsWrongFalsely : Prop := stateKeepsRow.holds Try.pinned (OpenSpec.ofChange stateKeepsWrong)

/-- 'pontoonlaw08.StateTwice': WHATEVER THE INPUT: true; the input reads as it did. -/
def stateTwiceSpec : ChangeSpec := { name := "stateTwice", fn := fun _ => fun
  | [d1, d2] => { results := [.lit (.bool true)], args := [d1, d2] }
  | _ => none }
def stateTwiceRow : OpenClaim := { program := "ytoeepbjnbgpmpaa", sum := "c2d9266918489e33152daead9911cc501504cefa9eb0adc46609790e75d7efff", func := "pontoon/pontoonlaw08.StateTwice", spec := "stateTwice", unfollowed := true, recurses := true, apart := false }
def StateTwiceSaid : Prop := stateTwiceRow.holds Try.pinned (OpenSpec.ofChange stateTwiceSpec)

/-- ITS FALSE NEIGHBOUR: 'it returns false'. Refute it at one input. -/
def stateTwiceWrong : ChangeSpec := { name := "stateTwice", fn := fun _ => fun
  | [d1, d2] => { results := [.lit (.bool false)], args := [d1, d2] }
  | _ => none }
def StateTwiceWrongFalsely : Prop := stateTwiceRow.holds Try.pinned (OpenSpec.ofChange stateTwiceWrong)

/- THE SECOND FORM. 'bulk': how many values and letters a reading holds, each counted each time it is reached (what is shared counts as often as it is met; a slice's spare places count too). A statement '..UptoSaid' is the law's where the arguments, and the package variables that the reading takes, are together of bulk at most 1048576: NARROWER than '..Said'. Prove '..Said' where nothing that the law and all that it calls make is longer than what came in: it says more and counts as full. Else prove '..UptoSaid'. A law counts once. -/
mutual
def uptoBulk {H : Type} : DataW H → Nat
  | .lit (.string bytes) => bytes.length + 1
  | .lit _ => 1
  | .nil => 1
  | .ptr d => uptoBulk d + 1
  | .slice elems spare => uptoBulkAll elems + uptoBulkAll spare + 1
  | .agg parts => uptoBulkAll parts + 1
  | .iface _ d => uptoBulk d + 1
  | .map entries => uptoBulkEntries entries + 1
  | .held _ => 1
def uptoBulkAll {H : Type} : List (DataW H) → Nat
  | [] => 0
  | d :: r => uptoBulk d + uptoBulkAll r
def uptoBulkEntries {H : Type} : List (Lit × DataW H) → Nat
  | [] => 0
  | x :: r => uptoBulkEntry x + uptoBulkEntries r
def uptoBulkEntry {H : Type} : Lit × DataW H → Nat
  | (.string bytes, d) => bytes.length + uptoBulk d + 1
  | (_, d) => uptoBulk d + 1
 end
def uptoSmall : (H : Type) → List (DataW H) → Bool := fun _ ds => decide (uptoBulkAll ds ≤ 1048576)
def OpenSpec.upto (s : _root_.Go.ChangeSpec) : _root_.Go.OpenSpec := { _root_.Go.OpenSpec.ofChange s with cond := some uptoSmall }

/-- 'pontoonlaw08.StateCommands', WHERE WHAT IT READS IS OF BULK AT MOST 1048576: true; the input reads as it did. -/
def stateCommandsUptoRow : OpenClaim := { program := "ytoeepbjnbgpmpaa", sum := "c2d9266918489e33152daead9911cc501504cefa9eb0adc46609790e75d7efff", func := "pontoon/pontoonlaw08.StateCommands", spec := "stateCommands", unfollowed := true, recurses := true, apart := false, narrowed := true }
def StateCommandsUptoSaid : Prop := stateCommandsUptoRow.holds Try.pinned (OpenSpec.upto stateCommandsSpec)

/-- 'pontoonlaw08.StateDoes', WHERE WHAT IT READS IS OF BULK AT MOST 1048576: true; the input reads as it did. -/
def stateDoesUptoRow : OpenClaim := { program := "ytoeepbjnbgpmpaa", sum := "c2d9266918489e33152daead9911cc501504cefa9eb0adc46609790e75d7efff", func := "pontoon/pontoonlaw08.StateDoes", spec := "stateDoes", unfollowed := true, recurses := true, apart := false, narrowed := true }
def StateDoesUptoSaid : Prop := stateDoesUptoRow.holds Try.pinned (OpenSpec.upto stateDoesSpec)

/-- 'pontoonlaw08.StateSame', WHERE WHAT IT READS IS OF BULK AT MOST 1048576: true; the input reads as it did. -/
def stateSameUptoRow : OpenClaim := { program := "ytoeepbjnbgpmpaa", sum := "c2d9266918489e33152daead9911cc501504cefa9eb0adc46609790e75d7efff", func := "pontoon/pontoonlaw08.StateSame", spec := "stateSame", unfollowed := true, recurses := true, apart := false, narrowed := true }
def StateSameUptoSaid : Prop := stateSameUptoRow.holds Try.pinned (OpenSpec.upto stateSameSpec)

/-- 'pontoonlaw08.StateBack', WHERE WHAT IT READS IS OF BULK AT MOST 1048576: true; the input reads as it did. -/
def stateBackUptoRow : OpenClaim := { program := "ytoeepbjnbgpmpaa", sum := "c2d9266918489e33152daead9911cc501504cefa9eb0adc46609790e75d7efff", func := "pontoon/pontoonlaw08.StateBack", spec := "stateBack", unfollowed := true, recurses := true, apart := false, narrowed := true }
def StateBackUptoSaid : Prop := stateBackUptoRow.holds Try.pinned (OpenSpec.upto stateBackSpec)

/-- 'pontoonlaw08.StateKeeps', WHERE WHAT IT READS IS OF BULK AT MOST 1048576: true; the input reads as it did. -/
def stateKeepsUptoRow : OpenClaim := { program := "ytoeepbjnbgpmpaa", sum := "c2d9266918489e33152daead9911cc501504cefa9eb0adc46609790e75d7efff", func := "pontoon/pontoonlaw08.StateKeeps", spec := "stateKeeps", unfollowed := true, recurses := true, apart := false, narrowed := true }
def StateKeepsUptoSaid : Prop := stateKeepsUptoRow.holds Try.pinned (OpenSpec.upto stateKeepsSpec)

/-- 'pontoonlaw08.StateTwice', WHERE WHAT IT READS IS OF BULK AT MOST 1048576: true; the input reads as it did. -/
def stateTwiceUptoRow : OpenClaim := { program := "ytoeepbjnbgpmpaa", sum := "c2d9266918489e33152daead9911cc501504cefa9eb0adc46609790e75d7efff", func := "pontoon/pontoonlaw08.StateTwice", spec := "stateTwice", unfollowed := true, recurses := true, apart := false, narrowed := true }
def StateTwiceUptoSaid : Prop := stateTwiceUptoRow.holds Try.pinned (OpenSpec.upto stateTwiceSpec)

end Rows
end Go.Proofs.Ytoeepbjnbgpmpaa
