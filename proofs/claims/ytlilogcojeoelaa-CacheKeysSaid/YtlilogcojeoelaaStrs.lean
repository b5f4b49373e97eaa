/- Slices of strings that are owned. -/
import Derived.Test.YtlilogcojeoelaaProg
import Derived.Test.YtlilogcojeoelaaOwn
namespace Go.Proofs.Ytlilogcojeoelaa
set_option linter.all false
open Go Go.RowKit

def strs (l : List ByteArray) : List Value := l.map Value.string
theorem strs_one (l : List ByteArray) : ∀ u ∈ strs l, u.oneCell' = true := by
  intro u hu
  obtain ⟨x, _, rfl⟩ := List.mem_map.1 hu
  rfl
theorem TStrs : SliceT Try.prog 83 9 (.string ByteArray.empty) 1 16 := ⟨by kernel_rfl, by kernel_rfl, rfl, by decide⟩
def Strs (v : Value) (l : List ByteArray) : Assn := Own 9 1 v l.length (strs l)
theorem strs_snoc (l : List ByteArray) (x : ByteArray) : strs l ++ [.string x] = strs (l ++ [x]) := by simp [strs]
theorem strs_push {k : Env} {w : World} {v : Value} {l : List ByteArray} {x : ByteArray} {R : Assn} (h : Sat k w (Own 9 1 v (l.length + 1) (strs l ++ [.string x]) * R)) : Sat k w (Strs v (l ++ [x]) * R) := by
  unfold Strs; rw [← strs_snoc, List.length_append]; exact h
theorem strs_get {k : Env} {w : World} {a : Option Addr} {n c : Nat} {l : List ByteArray} {R : Assn} (h : Sat k w (Own 9 1 (.slice a n c) n (strs l) * R)) (j : Nat) (hj : j < l.length) :
    ∃ g, a = some ⟨g, 0, none⟩ ∧ g < w.heap.size ∧ w.cell? ⟨g, j, none⟩ = some (.string l[j]) := by
  have hl := own_len h
  rw [strs, List.length_map, Nat.mul_one] at hl
  obtain ⟨g, rfl, hg, hc, _⟩ := own_get h (by omega)
  exact ⟨g, rfl, hg, (hc _ (by omega)).trans (by simp [strs, hj])⟩
/-- A slice literal of strings. -/
theorem strs_lit {k : Env} {w : World} {R : Assn} (l : List ByteArray) (hl : l.length ≤ maxLen) (h : Sat k w R) (g : Nat) (hg : w.heap.size = g) :
    Sat k (w.alloc (.cells (strs l).toArray 9)) (Strs (.slice (some ⟨g, 0, none⟩) l.length l.length) l * R) := by
  subst hg
  exact own_mk (h.alloc _) (Nat.le_refl _) hl (by simp [strs]) (by simp [strs]) (List.take_of_length_le (by simp [strs]))

end Go.Proofs.Ytlilogcojeoelaa
