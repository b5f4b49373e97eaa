/-
  No cell of these rows narrows 'for every input' (looked for: loops, veiled, ifaces, maps, wideKeys, modest, calm, conditions, laid).
  DERIVED. THE GIVEN ROWS OF THIS SEAT. 4 by the template 'for every input the law returns true; each argument reads behind the call as it read before'; 0 by the template 'total and deterministic' (their statements: YticponkpgaofnaaTotals.lean).
  GIVEN WITH THE SEED: the statements are not yours to turn. If you find one false, say at which input.
  Laid BY PROGRAM, IN A SANDBOX (cutbox-rows.mjs): the forced cells as the released guide's own fill.sh prints them over the translation d9a1d6d9191a40ed… (all of the seat's roots in one cut). By AI agents, Wed Nov 11 2026. No macro, syntax, notation, axiom, sorry.
-/
import Derived.Test.YticponkpgaofnaaChecked
import GoSem.Claim
import GoSem.ClaimJoined
import GoSem.ClaimMapViews
import Derived.JoinedTies
import Derived.KernelRfl
namespace Go.Proofs.Yticponkpgaofnaa
/- THE CELL 'sum', in the pinned program and in every row, IS THE sha256 OF THE DUMP (.gsa) THAT YticponkpgaofnaaProg.lean LOADS. Nothing in Lean hashes anything: it is a label: what it is worth is what the hold of that sum in a sandbox is worth. -/
noncomputable def Try.pinned : Pinned := { name := "yticponkpgaofnaa", sum := "d9a1d6d9191a40ede0d6136aa0d12ea4a5a586460a52bc0c8d59c46f8eab20f1", checked := Try.checked }
namespace Rows
def none {H : Type} : Left H := { results := [], args := [] }

/-- 'pontoonlaw17.PoolLimit': WHATEVER THE INPUT: true; the input reads as it did. -/
def poolLimitSpec : ChangeSpec := { name := "poolLimit", fn := fun _ => fun
  | [d1, d2] => { results := [.lit (.bool true)], args := [d1, d2] }
  | _ => none }
def poolLimitRow : OpenClaim := { program := "yticponkpgaofnaa", sum := "d9a1d6d9191a40ede0d6136aa0d12ea4a5a586460a52bc0c8d59c46f8eab20f1", func := "pontoon/pontoonlaw17.PoolLimit", spec := "poolLimit", unfollowed := true, recurses := true, apart := false }
def PoolLimitSaid : Prop := poolLimitRow.holds Try.pinned (OpenSpec.ofChange poolLimitSpec)

/-- ITS FALSE NEIGHBOUR: 'it returns false'. Refute it at one input. -/
def poolLimitWrong : ChangeSpec := { name := "poolLimit", fn := fun _ => fun
  | [d1, d2] => { results := [.lit (.bool false)], args := [d1, d2] }
  | _ => none }
def PoolLimitWrongFalsely : Prop := poolLimitRow.holds Try.pinned (OpenSpec.ofChange poolLimitWrong)

/-- 'pontoonlaw17.PoolFifo': WHATEVER THE INPUT: true; the input reads as it did. -/
def poolFifoSpec : ChangeSpec := { name := "poolFifo", fn := fun _ => fun
  | [d1, d2] => { results := [.lit (.bool true)], args := [d1, d2] }
  | _ => none }
def poolFifoRow : OpenClaim := { program := "yticponkpgaofnaa", sum := "d9a1d6d9191a40ede0d6136aa0d12ea4a5a586460a52bc0c8d59c46f8eab20f1", func := "pontoon/pontoonlaw17.PoolFifo", spec := "poolFifo", unfollowed := true, recurses := true, apart := false }
def PoolFifoSaid : Prop := poolFifoRow.holds Try.pinned (OpenSpec.ofChange poolFifoSpec)

/-- ITS FALSE NEIGHBOUR: 'it returns false'. Refute it at one input. -/
def poolFifoWrong : ChangeSpec := { name := "poolFifo", fn := fun _ => fun
  | [d1, d2] => { results := [.lit (.bool false)], args := [d1, d2] }
  | _ => none }
def PoolFifoWrongFalsely : Prop := poolFifoRow.holds Try.pinned (OpenSpec.ofChange poolFifoWrong)

/-- 'pontoonlaw17.PoolPinned': WHATEVER THE INPUT: true; the input reads as it did. -/
def poolPinnedSpec : ChangeSpec := { name := "poolPinned", fn := fun _ => fun
  | [d1, d2] => { results := [.lit (.bool true)], args := [d1, d2] }
  | _ => none }
def poolPinnedRow : OpenClaim := { program := "yticponkpgaofnaa", sum := "d9a1d6d9191a40ede0d6136aa0d12ea4a5a586460a52bc0c8d59c46f8eab20f1", func := "pontoon/pontoonlaw17.PoolPinned", spec := "poolPinned", unfollowed := true, recurses := true, apart := false }
def PoolPinnedSaid : Prop := poolPinnedRow.holds Try.pinned (OpenSpec.ofChange poolPinnedSpec)

/-- ITS FALSE NEIGHBOUR: 'it returns false'. Refute it at one input. -/
def poolPinnedWrong : ChangeSpec := { name := "poolPinned", fn := fun _ => fun
  | [d1, d2] => { results := [.lit (.bool false)], args := [d1, d2] }
  | _ => none }
def PoolPinnedWrongFalsely : Prop := poolPinnedRow.holds Try.pinned (OpenSpec.ofChange poolPinnedWrong)

/-- 'pontoonlaw17.PoolNil': WHATEVER THE INPUT: true; the input reads as it did. -/
def poolNilSpec : ChangeSpec := { name := "poolNil", fn := fun _ => fun
  | [d1, d2] => { results := [.lit (.bool true)], args := [d1, d2] }
  | _ => none }
def poolNilRow : OpenClaim := { program := "yticponkpgaofnaa", sum := "d9a1d6d9191a40ede0d6136aa0d12ea4a5a586460a52bc0c8d59c46f8eab20f1", func := "pontoon/pontoonlaw17.PoolNil", spec := "poolNil", unfollowed := true, recurses := true, apart := false }
def PoolNilSaid : Prop := poolNilRow.holds Try.pinned (OpenSpec.ofChange poolNilSpec)

/-- ITS FALSE NEIGHBOUR: 'it returns false'. Refute it at one input. -/
def poolNilWrong : ChangeSpec := { name := "poolNil", fn := fun _ => fun
  | [d1, d2] => { results := [.lit (.bool false)], args := [d1, d2] }
  | _ => none }
def PoolNilWrongFalsely : Prop := poolNilRow.holds Try.pinned (OpenSpec.ofChange poolNilWrong)

/- THE SECOND FORM. 'bulk': how many values and letters a reading holds, each counted each time it is reached (what is shared counts as often as it is met; a slice's spare places count too). A statement '..UptoSaid' is the law's where the arguments, and the package variables that the reading takes, are together of bulk at most 1048576: NARROWER than '..Said'. Prove '..Said' where nothing that the law and all that it calls make is longer than what came in: it says more and counts as full. Else prove '..UptoSaid'. A law counts once. -/
mutual
def uptoBulk {H : Type} : DataW H → Nat
  | .lit (.string bytes) => bytes.length + 1
  | .lit _ => 1
  | .nil => 1
  | .ptr d => uptoBulk d + 1
  | .slice elems spare => uptoBulkAll elems + uptoBulkAll spare + 1
  | .agg parts => uptoBulkAll parts + 1
  | .iface _ d => uptoBulk d + 1
  | .map entries => uptoBulkEntries entries + 1
  | .held _ => 1
def uptoBulkAll {H : Type} : List (DataW H) → Nat
  | [] => 0
  | d :: r => uptoBulk d + uptoBulkAll r
def uptoBulkEntries {H : Type} : List (Lit × DataW H) → Nat
  | [] => 0
  | x :: r => uptoBulkEntry x + uptoBulkEntries r
def uptoBulkEntry {H : Type} : Lit × DataW H → Nat
  | (.string bytes, d) => bytes.length + uptoBulk d + 1
  | (_, d) => uptoBulk d + 1
 end
def uptoSmall : (H : Type) → List (DataW H) → Bool := fun _ ds => decide (uptoBulkAll ds ≤ 1048576)
def OpenSpec.upto (s : _root_.Go.ChangeSpec) : _root_.Go.OpenSpec := { _root_.Go.OpenSpec.ofChange s with cond := some uptoSmall }

/-- 'pontoonlaw17.PoolLimit', WHERE WHAT IT READS IS OF BULK AT MOST 1048576: true; the input reads as it did. -/
def poolLimitUptoRow : OpenClaim := { program := "yticponkpgaofnaa", sum := "d9a1d6d9191a40ede0d6136aa0d12ea4a5a586460a52bc0c8d59c46f8eab20f1", func := "pontoon/pontoonlaw17.PoolLimit", spec := "poolLimit", unfollowed := true, recurses := true, apart := false, narrowed := true }
def PoolLimitUptoSaid : Prop := poolLimitUptoRow.holds Try.pinned (OpenSpec.upto poolLimitSpec)

/-- 'pontoonlaw17.PoolFifo', WHERE WHAT IT READS IS OF BULK AT MOST 1048576: true; the input reads as it did. -/
def poolFifoUptoRow : OpenClaim := { program := "yticponkpgaofnaa", sum := "d9a1d6d9191a40ede0d6136aa0d12ea4a5a586460a52bc0c8d59c46f8eab20f1", func := "pontoon/pontoonlaw17.PoolFifo", spec := "poolFifo", unfollowed := true, recurses := true, apart := false, narrowed := true }
def PoolFifoUptoSaid : Prop := poolFifoUptoRow.holds Try.pinned (OpenSpec.upto poolFifoSpec)

/-- 'pontoonlaw17.PoolPinned', WHERE WHAT IT READS IS OF BULK AT MOST 1048576: true; the input reads as it did. -/
def poolPinnedUptoRow : OpenClaim := { program := "yticponkpgaofnaa", sum := "d9a1d6d9191a40ede0d6136aa0d12ea4a5a586460a52bc0c8d59c46f8eab20f1", func := "pontoon/pontoonlaw17.PoolPinned", spec := "poolPinned", unfollowed := true, recurses := true, apart := false, narrowed := true }
def PoolPinnedUptoSaid : Prop := poolPinnedUptoRow.holds Try.pinned (OpenSpec.upto poolPinnedSpec)

/-- 'pontoonlaw17.PoolNil', WHERE WHAT IT READS IS OF BULK AT MOST 1048576: true; the input reads as it did. -/
def poolNilUptoRow : OpenClaim := { program := "yticponkpgaofnaa", sum := "d9a1d6d9191a40ede0d6136aa0d12ea4a5a586460a52bc0c8d59c46f8eab20f1", func := "pontoon/pontoonlaw17.PoolNil", spec := "poolNil", unfollowed := true, recurses := true, apart := false, narrowed := true }
def PoolNilUptoSaid : Prop := poolNilUptoRow.holds Try.pinned (OpenSpec.upto poolNilSpec)

end Rows
end Go.Proofs.Yticponkpgaofnaa
