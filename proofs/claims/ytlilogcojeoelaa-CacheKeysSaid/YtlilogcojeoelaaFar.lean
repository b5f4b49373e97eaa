/- Worlds that have something new only: what was said of the elder blocks holds. -/
import Derived.Test.YtlilogcojeoelaaSl
namespace Go.Proofs.Ytlilogcojeoelaa
set_option linter.all false
open Go Go.RowKit

/-- w' is w, with new blocks. -/
structure Far (w w' : World) : Prop where
  env : World.env w' = World.env w
  le : w.heap.size ≤ w'.heap.size
  old : ∀ i, i < w.heap.size → w'.heap[i]? = w.heap[i]?

section
variable {w w' : World}
theorem Far.refl (w : World) : Far w w := ⟨rfl, Nat.le_refl _, fun _ _ => rfl⟩
theorem Far.drew (h : Far w w') : Far w w'.drew := ⟨h.env, h.le, h.old⟩
theorem Far.drewN (h : Far w w') (n : Nat) : Far w (w'.drewN n) := ⟨h.env, h.le, h.old⟩
theorem Far.alloc (h : Far w w') (o : Obj) : Far w (w'.alloc o) := by
  obtain ⟨h1, h2, h3⟩ := h
  refine ⟨h1, ?_, fun i hi => ?_⟩
  · show w.heap.size ≤ (w'.heap.push o).size
    rw [Array.size_push]; omega
  · show (w'.heap.push o)[i]? = _
    rw [Array.getElem?_push, if_neg (by omega)]; exact h3 i hi
theorem Far.set (h : Far w w') (b i : Nat) (v : Value) (hb : w.heap.size ≤ b) : Far w (w'.setCell ⟨b, i, none⟩ v) := by
  obtain ⟨h1, h2, h3⟩ := h
  refine ⟨h1, ?_, fun j hj => ?_⟩
  · simpa [World.setCell] using h2
  · rw [Below.heap_setCell _ _ _ _ (by omega : j ≠ b)]; exact h3 j hj
theorem Sat.far {k : Env} {P : Assn} (h : Sat k w P) (f : Far w w') : Sat k w' P := by
  obtain ⟨e, x, hx, p⟩ := h
  refine ⟨f.env.trans e, x, fun i o hi => ?_, p⟩
  rw [f.old i (Array.getElem?_eq_some_iff.1 (hx i o hi)).1]
  exact hx i o hi
end

end Go.Proofs.Ytlilogcojeoelaa
