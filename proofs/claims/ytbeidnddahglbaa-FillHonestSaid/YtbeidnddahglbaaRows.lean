/-
  No cell of these rows narrows 'for every input' (looked for: loops, veiled, ifaces, maps, wideKeys, modest, calm, conditions, laid).
  DERIVED. THE GIVEN ROWS OF THIS SEAT. 4 by the template 'for every input the law returns true; each argument reads behind the call as it read before'; 0 by the template 'total and deterministic' (their statements: YtbeidnddahglbaaTotals.lean).
  GIVEN WITH THE SEED: the statements are not yours to turn. If you find one false, say at which input.
  Laid BY PROGRAM, IN A SANDBOX (cutbox-rows.mjs): the forced cells as the released guide's own fill.sh prints them over the translation 7cedadade0cf0682… (all of the seat's roots in one cut). By AI agents, Wed Nov 11 2026. No macro, syntax, notation, axiom, sorry.
-/
import Derived.Test.YtbeidnddahglbaaChecked
import GoSem.Claim
import GoSem.ClaimJoined
import GoSem.ClaimMapViews
import Derived.JoinedTies
import Derived.KernelRfl
namespace Go.Proofs.Ytbeidnddahglbaa
/- THE CELL 'sum', in the pinned program and in every row, IS THE sha256 OF THE DUMP (.gsa) THAT YtbeidnddahglbaaProg.lean LOADS. Nothing in Lean hashes anything: it is a label: what it is worth is what the hold of that sum in a sandbox is worth. -/
noncomputable def Try.pinned : Pinned := { name := "ytbeidnddahglbaa", sum := "7cedadade0cf0682c65c1441d9f9e6b55bb66ad7b89a766e5a60ebbdb91665b0", checked := Try.checked }
namespace Rows
def none {H : Type} : Left H := { results := [], args := [] }

/-- 'pontoonlaw15.FillHonest': WHATEVER THE INPUT: true; the input reads as it did. -/
def fillHonestSpec : ChangeSpec := { name := "fillHonest", fn := fun _ => fun
  | [d] => { results := [.lit (.bool true)], args := [d] }
  | _ => none }
def fillHonestRow : OpenClaim := { program := "ytbeidnddahglbaa", sum := "7cedadade0cf0682c65c1441d9f9e6b55bb66ad7b89a766e5a60ebbdb91665b0", func := "pontoon/pontoonlaw15.FillHonest", spec := "fillHonest", inPlace := ["sync/atomic.LoadInt64", "sync/atomic.AddInt64"], unfollowed := true, recurses := true, plainKeys := false, apart := false }
def FillHonestSaid : Prop := fillHonestRow.holds Try.pinned (OpenSpec.ofChange fillHonestSpec)

/-- ITS FALSE NEIGHBOUR: 'it returns false'. Refute it at one input. -/
def fillHonestWrong : ChangeSpec := { name := "fillHonest", fn := fun _ => fun
  | [d] => { results := [.lit (.bool false)], args := [d] }
  | _ => none }
def FillHonestWrongFalsely : Prop := fillHonestRow.holds Try.pinned (OpenSpec.ofChange fillHonestWrong)

/-- 'pontoonlaw15.FillStays': WHATEVER THE INPUT: true; the input reads as it did. -/
def fillStaysSpec : ChangeSpec := { name := "fillStays", fn := fun _ => fun
  | [d1, d2, d3] => { results := [.lit (.bool true)], args := [d1, d2, d3] }
  | _ => none }
def fillStaysRow : OpenClaim := { program := "ytbeidnddahglbaa", sum := "7cedadade0cf0682c65c1441d9f9e6b55bb66ad7b89a766e5a60ebbdb91665b0", func := "pontoon/pontoonlaw15.FillStays", spec := "fillStays", inPlace := ["sync/atomic.LoadInt64", "sync/atomic.AddInt64"], unfollowed := true, recurses := true, plainKeys := false, apart := false }
def FillStaysSaid : Prop := fillStaysRow.holds Try.pinned (OpenSpec.ofChange fillStaysSpec)

/-- ITS FALSE NEIGHBOUR: 'it returns false'. Refute it at one input. -/
def fillStaysWrong : ChangeSpec := { name := "fillStays", fn := fun _ => fun
  | [d1, d2, d3] => { results := [.lit (.bool false)], args := [d1, d2, d3] }
  | _ => none }
def FillStaysWrongFalsely : Prop := fillStaysRow.holds Try.pinned (OpenSpec.ofChange fillStaysWrong)

/-- 'pontoonlaw15.FillAll': WHATEVER THE INPUT: true; the input reads as it did. -/
def fillAllSpec : ChangeSpec := { name := "fillAll", fn := fun _ => fun
  | [d] => { results := [.lit (.bool true)], args := [d] }
  | _ => none }
def fillAllRow : OpenClaim := { program := "ytbeidnddahglbaa", sum := "7cedadade0cf0682c65c1441d9f9e6b55bb66ad7b89a766e5a60ebbdb91665b0", func := "pontoon/pontoonlaw15.FillAll", spec := "fillAll", inPlace := ["sync/atomic.LoadInt64", "sync/atomic.AddInt64"], unfollowed := true, recurses := true, plainKeys := false, apart := false }
def FillAllSaid : Prop := fillAllRow.holds Try.pinned (OpenSpec.ofChange fillAllSpec)

/-- ITS FALSE NEIGHBOUR: 'it returns false'. Refute it at one input. -/
def fillAllWrong : ChangeSpec := { name := "fillAll", fn := fun _ => fun
  | [d] => { results := [.lit (.bool false)], args := [d] }
  | _ => none }
def FillAllWrongFalsely : Prop := fillAllRow.holds Try.pinned (OpenSpec.ofChange fillAllWrong)

/-- 'pontoonlaw15.FillNil': WHATEVER THE INPUT: true; the input reads as it did. -/
def fillNilSpec : ChangeSpec := { name := "fillNil", fn := fun _ => fun
  | [d1, d2] => { results := [.lit (.bool true)], args := [d1, d2] }
  | _ => none }
def fillNilRow : OpenClaim := { program := "ytbeidnddahglbaa", sum := "7cedadade0cf0682c65c1441d9f9e6b55bb66ad7b89a766e5a60ebbdb91665b0", func := "pontoon/pontoonlaw15.FillNil", spec := "fillNil", inPlace := ["sync/atomic.LoadInt64", "sync/atomic.AddInt64", "sync/atomic.StoreInt64"], unfollowed := true, recurses := true, plainKeys := false, apart := false }
def FillNilSaid : Prop := fillNilRow.holds Try.pinned (OpenSpec.ofChange fillNilSpec)

/-- ITS FALSE NEIGHBOUR: 'it returns false'. Refute it at one input. -/
def fillNilWrong : ChangeSpec := { name := "fillNil", fn := fun _ => fun
  | [d1, d2] => { results := [.lit (.bool false)], args := [d1, d2] }
  | _ => none }
def FillNilWrongFalsely : Prop := fillNilRow.holds Try.pinned (OpenSpec.ofChange fillNilWrong)

/- THE SECOND FORM. 'bulk': how many values and letters a reading holds, each counted each time it is reached (what is shared counts as often as it is met; a slice's spare places count too). A statement '..UptoSaid' is the law's where the arguments, and the package variables that the reading takes, are together of bulk at most 1048576: NARROWER than '..Said'. Prove '..Said' where nothing that the law and all that it calls make is longer than what came in: it says more and counts as full. Else prove '..UptoSaid'. A law counts once. -/
mutual
def uptoBulk {H : Type} : DataW H → Nat
  | .lit (.string bytes) => bytes.length + 1
  | .lit _ => 1
  | .nil => 1
  | .ptr d => uptoBulk d + 1
  | .slice elems spare => uptoBulkAll elems + uptoBulkAll spare + 1
  | .agg parts => uptoBulkAll parts + 1
  | .iface _ d => uptoBulk d + 1
  | .map entries => uptoBulkEntries entries + 1
  | .held _ => 1
def uptoBulkAll {H : Type} : List (DataW H) → Nat
  | [] => 0
  | d :: r => uptoBulk d + uptoBulkAll r
def uptoBulkEntries {H : Type} : List (Lit × DataW H) → Nat
  | [] => 0
  | x :: r => uptoBulkEntry x + uptoBulkEntries r
def uptoBulkEntry {H : Type} : Lit × DataW H → Nat
  | (.string bytes, d) => bytes.length + uptoBulk d + 1
  | (_, d) => uptoBulk d + 1
 end
def uptoSmall : (H : Type) → List (DataW H) → Bool := fun _ ds => decide (uptoBulkAll ds ≤ 1048576)
def OpenSpec.upto (s : _root_.Go.ChangeSpec) : _root_.Go.OpenSpec := { _root_.Go.OpenSpec.ofChange s with cond := some uptoSmall }

/-- 'pontoonlaw15.FillHonest', WHERE WHAT IT READS IS OF BULK AT MOST 1048576: true; the input reads as it did. -/
def fillHonestUptoRow : OpenClaim := { program := "ytbeidnddahglbaa", sum := "7cedadade0cf0682c65c1441d9f9e6b55bb66ad7b89a766e5a60ebbdb91665b0", func := "pontoon/pontoonlaw15.FillHonest", spec := "fillHonest", inPlace := ["sync/atomic.LoadInt64", "sync/atomic.AddInt64"], unfollowed := true, recurses := true, plainKeys := false, apart := false, narrowed := true }
def FillHonestUptoSaid : Prop := fillHonestUptoRow.holds Try.pinned (OpenSpec.upto fillHonestSpec)

/-- 'pontoonlaw15.FillStays', WHERE WHAT IT READS IS OF BULK AT MOST 1048576: true; the input reads as it did. -/
def fillStaysUptoRow : OpenClaim := { program := "ytbeidnddahglbaa", sum := "7cedadade0cf0682c65c1441d9f9e6b55bb66ad7b89a766e5a60ebbdb91665b0", func := "pontoon/pontoonlaw15.FillStays", spec := "fillStays", inPlace := ["sync/atomic.LoadInt64", "sync/atomic.AddInt64"], unfollowed := true, recurses := true, plainKeys := false, apart := false, narrowed := true }
def FillStaysUptoSaid : Prop := fillStaysUptoRow.holds Try.pinned (OpenSpec.upto fillStaysSpec)

/-- 'pontoonlaw15.FillAll', WHERE WHAT IT READS IS OF BULK AT MOST 1048576: true; the input reads as it did. -/
def fillAllUptoRow : OpenClaim := { program := "ytbeidnddahglbaa", sum := "7cedadade0cf0682c65c1441d9f9e6b55bb66ad7b89a766e5a60ebbdb91665b0", func := "pontoon/pontoonlaw15.FillAll", spec := "fillAll", inPlace := ["sync/atomic.LoadInt64", "sync/atomic.AddInt64"], unfollowed := true, recurses := true, plainKeys := false, apart := false, narrowed := true }
def FillAllUptoSaid : Prop := fillAllUptoRow.holds Try.pinned (OpenSpec.upto fillAllSpec)

/-- 'pontoonlaw15.FillNil', WHERE WHAT IT READS IS OF BULK AT MOST 1048576: true; the input reads as it did. -/
def fillNilUptoRow : OpenClaim := { program := "ytbeidnddahglbaa", sum := "7cedadade0cf0682c65c1441d9f9e6b55bb66ad7b89a766e5a60ebbdb91665b0", func := "pontoon/pontoonlaw15.FillNil", spec := "fillNil", inPlace := ["sync/atomic.LoadInt64", "sync/atomic.AddInt64", "sync/atomic.StoreInt64"], unfollowed := true, recurses := true, plainKeys := false, apart := false, narrowed := true }
def FillNilUptoSaid : Prop := fillNilUptoRow.holds Try.pinned (OpenSpec.upto fillNilSpec)

end Rows
end Go.Proofs.Ytbeidnddahglbaa
