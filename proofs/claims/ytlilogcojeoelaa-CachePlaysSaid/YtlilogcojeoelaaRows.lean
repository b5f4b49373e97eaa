/-
  No cell of these rows narrows 'for every input' (looked for: loops, veiled, ifaces, maps, wideKeys, modest, calm, conditions, laid).
  DERIVED. THE GIVEN ROWS OF THIS SEAT. 5 by the template 'for every input the law returns true; each argument reads behind the call as it read before'; 0 by the template 'total and deterministic' (their statements: YtlilogcojeoelaaTotals.lean).
  GIVEN WITH THE SEED: the statements are not yours to turn. If you find one false, say at which input.
  Laid BY PROGRAM, IN A SANDBOX (cutbox-rows.mjs): the forced cells as the released guide's own fill.sh prints them over the translation 8c4eed0f017aa74a… (all of the seat's roots in one cut). By AI agents, Wed Nov 11 2026. No macro, syntax, notation, axiom, sorry.
-/
import Derived.Test.YtlilogcojeoelaaChecked
import GoSem.Claim
import GoSem.ClaimJoined
import GoSem.ClaimMapViews
import Derived.JoinedTies
import Derived.KernelRfl
namespace Go.Proofs.Ytlilogcojeoelaa
/- THE CELL 'sum', in the pinned program and in every row, IS THE sha256 OF THE DUMP (.gsa) THAT YtlilogcojeoelaaProg.lean LOADS. Nothing in Lean hashes anything: it is a label: what it is worth is what the hold of that sum in a sandbox is worth. -/
noncomputable def Try.pinned : Pinned := { name := "ytlilogcojeoelaa", sum := "8c4eed0f017aa74aa9e45bc7075637ee804a05379bc7ba0e061680aaec41ab32", checked := Try.checked }
namespace Rows
def none {H : Type} : Left H := { results := [], args := [] }

/-- 'pontoonlaw12.CacheKeys': WHATEVER THE INPUT: true; the input reads as it did. -/
def cacheKeysSpec : ChangeSpec := { name := "cacheKeys", fn := fun _ => fun
  | [d1, d2, d3] => { results := [.lit (.bool true)], args := [d1, d2, d3] }
  | _ => none }
def cacheKeysRow : OpenClaim := { program := "ytlilogcojeoelaa", sum := "8c4eed0f017aa74aa9e45bc7075637ee804a05379bc7ba0e061680aaec41ab32", func := "pontoon/pontoonlaw12.CacheKeys", spec := "cacheKeys", unfollowed := true, recurses := true, plainKeys := false, apart := false }
def CacheKeysSaid : Prop := cacheKeysRow.holds Try.pinned (OpenSpec.ofChange cacheKeysSpec)

/-- ITS FALSE NEIGHBOUR: 'it returns false'. Refute it at one input. -/
def cacheKeysWrong : ChangeSpec := { name := "cacheKeys", fn := fun _ => fun
  | [d1, d2, d3] => { results := [.lit (.bool false)], args := [d1, d2, d3] }
  | _ => none }
def CacheKeysWrongFalsely : Prop := cacheKeysRow.holds Try.pinned (OpenSpec.ofChange cacheKeysWrong)

/-- 'pontoonlaw12.CacheFresh': WHATEVER THE INPUT: true; the input reads as it did. -/
def cacheFreshSpec : ChangeSpec := { name := "cacheFresh", fn := fun _ => fun
  | [d1, d2, d3] => { results := [.lit (.bool true)], args := [d1, d2, d3] }
  | _ => none }
def cacheFreshRow : OpenClaim := { program := "ytlilogcojeoelaa", sum := "8c4eed0f017aa74aa9e45bc7075637ee804a05379bc7ba0e061680aaec41ab32", func := "pontoon/pontoonlaw12.CacheFresh", spec := "cacheFresh", unfollowed := true, recurses := true, plainKeys := false, apart := false }
def CacheFreshSaid : Prop := cacheFreshRow.holds Try.pinned (OpenSpec.ofChange cacheFreshSpec)

/-- ITS FALSE NEIGHBOUR: 'it returns false'. Refute it at one input. -/
def cacheFreshWrong : ChangeSpec := { name := "cacheFresh", fn := fun _ => fun
  | [d1, d2, d3] => { results := [.lit (.bool false)], args := [d1, d2, d3] }
  | _ => none }
def CacheFreshWrongFalsely : Prop := cacheFreshRow.holds Try.pinned (OpenSpec.ofChange cacheFreshWrong)

/-- 'pontoonlaw12.CacheApart': WHATEVER THE INPUT: true; the input reads as it did. -/
def cacheApartSpec : ChangeSpec := { name := "cacheApart", fn := fun _ => fun
  | [d1, d2, d3] => { results := [.lit (.bool true)], args := [d1, d2, d3] }
  | _ => none }
def cacheApartRow : OpenClaim := { program := "ytlilogcojeoelaa", sum := "8c4eed0f017aa74aa9e45bc7075637ee804a05379bc7ba0e061680aaec41ab32", func := "pontoon/pontoonlaw12.CacheApart", spec := "cacheApart", unfollowed := true, recurses := true, plainKeys := false, apart := false }
def CacheApartSaid : Prop := cacheApartRow.holds Try.pinned (OpenSpec.ofChange cacheApartSpec)

/-- ITS FALSE NEIGHBOUR: 'it returns false'. Refute it at one input. -/
def cacheApartWrong : ChangeSpec := { name := "cacheApart", fn := fun _ => fun
  | [d1, d2, d3] => { results := [.lit (.bool false)], args := [d1, d2, d3] }
  | _ => none }
def CacheApartWrongFalsely : Prop := cacheApartRow.holds Try.pinned (OpenSpec.ofChange cacheApartWrong)

/-- 'pontoonlaw12.CachePlays': WHATEVER THE INPUT: true; the input reads as it did. -/
def cachePlaysSpec : ChangeSpec := { name := "cachePlays", fn := fun _ => fun
  | [d1, d2] => { results := [.lit (.bool true)], args := [d1, d2] }
  | _ => none }
def cachePlaysRow : OpenClaim := { program := "ytlilogcojeoelaa", sum := "8c4eed0f017aa74aa9e45bc7075637ee804a05379bc7ba0e061680aaec41ab32", func := "pontoon/pontoonlaw12.CachePlays", spec := "cachePlays", unfollowed := true, recurses := true, plainKeys := false, apart := false }
def CachePlaysSaid : Prop := cachePlaysRow.holds Try.pinned (OpenSpec.ofChange cachePlaysSpec)

/-- ITS FALSE NEIGHBOUR: 'it returns false'. Refute it at one input. -/
def cachePlaysWrong : ChangeSpec := { name := "cachePlays", fn := fun _ => fun
  | [d1, d2] => { results := [.lit (.bool false)], args := [d1, d2] }
  | _ => none }
def CachePlaysWrongFalsely : Prop := cachePlaysRow.holds Try.pinned (OpenSpec.ofChange cachePlaysWrong)

/-- 'pontoonlaw12.CacheNil': WHATEVER THE INPUT: true; the input reads as it did. -/
def cacheNilSpec : ChangeSpec := { name := "cacheNil", fn := fun _ => fun
  | [d] => { results := [.lit (.bool true)], args := [d] }
  | _ => none }
def cacheNilRow : OpenClaim := { program := "ytlilogcojeoelaa", sum := "8c4eed0f017aa74aa9e45bc7075637ee804a05379bc7ba0e061680aaec41ab32", func := "pontoon/pontoonlaw12.CacheNil", spec := "cacheNil", unfollowed := true, recurses := true, plainKeys := false, apart := false }
def CacheNilSaid : Prop := cacheNilRow.holds Try.pinned (OpenSpec.ofChange cacheNilSpec)

/-- ITS FALSE NEIGHBOUR: 'it returns false'. Refute it at one input. -/
def cacheNilWrong : ChangeSpec := { name := "cacheNil", fn := fun _ => fun
  | [d] => { results := [.lit (.bool false)], args := [d] }
  | _ => none }
def CacheNilWrongFalsely : Prop := cacheNilRow.holds Try.pinned (OpenSpec.ofChange cacheNilWrong)

/- THE SECOND FORM. 'bulk': how many values and letters a reading holds, each counted each time it is reached (what is shared counts as often as it is met; a slice's spare places count too). A statement '..UptoSaid' is the law's where the arguments, and the package variables that the reading takes, are together of bulk at most 1048576: NARROWER than '..Said'. Prove '..Said' where nothing that the law and all that it calls make is longer than what came in: it says more and counts as full. Else prove '..UptoSaid'. A law counts once. -/
mutual
def uptoBulk {H : Type} : DataW H → Nat
  | .lit (.string bytes) => bytes.length + 1
  | .lit _ => 1
  | .nil => 1
  | .ptr d => uptoBulk d + 1
  | .slice elems spare => uptoBulkAll elems + uptoBulkAll spare + 1
  | .agg parts => uptoBulkAll parts + 1
  | .iface _ d => uptoBulk d + 1
  | .map entries => uptoBulkEntries entries + 1
  | .held _ => 1
def uptoBulkAll {H : Type} : List (DataW H) → Nat
  | [] => 0
  | d :: r => uptoBulk d + uptoBulkAll r
def uptoBulkEntries {H : Type} : List (Lit × DataW H) → Nat
  | [] => 0
  | x :: r => uptoBulkEntry x + uptoBulkEntries r
def uptoBulkEntry {H : Type} : Lit × DataW H → Nat
  | (.string bytes, d) => bytes.length + uptoBulk d + 1
  | (_, d) => uptoBulk d + 1
 end
def uptoSmall : (H : Type) → List (DataW H) → Bool := fun _ ds => decide (uptoBulkAll ds ≤ 1048576)
def OpenSpec.upto (s : _root_.Go.ChangeSpec) : _root_.Go.OpenSpec := { _root_.Go.OpenSpec.ofChange s with cond := some uptoSmall }

/-- 'pontoonlaw12.CacheKeys', WHERE WHAT IT READS IS OF BULK AT MOST 1048576: true; the input reads as it did. -/
def cacheKeysUptoRow : OpenClaim := { program := "ytlilogcojeoelaa", sum := "8c4eed0f017aa74aa9e45bc7075637ee804a05379bc7ba0e061680aaec41ab32", func := "pontoon/pontoonlaw12.CacheKeys", spec := "cacheKeys", unfollowed := true, recurses := true, plainKeys := false, apart := false, narrowed := true }
def CacheKeysUptoSaid : Prop := cacheKeysUptoRow.holds Try.pinned (OpenSpec.upto cacheKeysSpec)

/-- 'pontoonlaw12.CacheFresh', WHERE WHAT IT READS IS OF BULK AT MOST 1048576: true; the input reads as it did. -/
def cacheFreshUptoRow : OpenClaim := { program := "ytlilogcojeoelaa", sum := "8c4eed0f017aa74aa9e45bc7075637ee804a05379bc7ba0e061680aaec41ab32", func := "pontoon/pontoonlaw12.CacheFresh", spec := "cacheFresh", unfollowed := true, recurses := true, plainKeys := false, apart := false, narrowed := true }
def CacheFreshUptoSaid : Prop := cacheFreshUptoRow.holds Try.pinned (OpenSpec.upto cacheFreshSpec)

/-- 'pontoonlaw12.CacheApart', WHERE WHAT IT READS IS OF BULK AT MOST 1048576: true; the input reads as it did. -/
def cacheApartUptoRow : OpenClaim := { program := "ytlilogcojeoelaa", sum := "8c4eed0f017aa74aa9e45bc7075637ee804a05379bc7ba0e061680aaec41ab32", func := "pontoon/pontoonlaw12.CacheApart", spec := "cacheApart", unfollowed := true, recurses := true, plainKeys := false, apart := false, narrowed := true }
def CacheApartUptoSaid : Prop := cacheApartUptoRow.holds Try.pinned (OpenSpec.upto cacheApartSpec)

/-- 'pontoonlaw12.CachePlays', WHERE WHAT IT READS IS OF BULK AT MOST 1048576: true; the input reads as it did. -/
def cachePlaysUptoRow : OpenClaim := { program := "ytlilogcojeoelaa", sum := "8c4eed0f017aa74aa9e45bc7075637ee804a05379bc7ba0e061680aaec41ab32", func := "pontoon/pontoonlaw12.CachePlays", spec := "cachePlays", unfollowed := true, recurses := true, plainKeys := false, apart := false, narrowed := true }
def CachePlaysUptoSaid : Prop := cachePlaysUptoRow.holds Try.pinned (OpenSpec.upto cachePlaysSpec)

/-- 'pontoonlaw12.CacheNil', WHERE WHAT IT READS IS OF BULK AT MOST 1048576: true; the input reads as it did. -/
def cacheNilUptoRow : OpenClaim := { program := "ytlilogcojeoelaa", sum := "8c4eed0f017aa74aa9e45bc7075637ee804a05379bc7ba0e061680aaec41ab32", func := "pontoon/pontoonlaw12.CacheNil", spec := "cacheNil", unfollowed := true, recurses := true, plainKeys := false, apart := false, narrowed := true }
def CacheNilUptoSaid : Prop := cacheNilUptoRow.holds Try.pinned (OpenSpec.upto cacheNilSpec)

end Rows
end Go.Proofs.Ytlilogcojeoelaa
