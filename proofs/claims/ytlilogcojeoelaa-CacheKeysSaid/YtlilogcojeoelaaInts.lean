/- Slices of ints that are owned; two of them compared. -/
import Derived.Test.YtlilogcojeoelaaProg
import Derived.Test.YtlilogcojeoelaaOwn
namespace Go.Proofs.Ytlilogcojeoelaa
set_option linter.all false
open Go Go.RowKit

def ints (l : List Int) : List Value := l.map (Value.int .i64)
theorem ints_one (l : List Int) : ∀ u ∈ ints l, u.oneCell' = true := by
  intro u hu
  obtain ⟨x, _, rfl⟩ := List.mem_map.1 hu
  rfl
theorem TInts : SliceT Try.prog 124 3 (.int .i64 0) 1 8 := ⟨by kernel_rfl, by kernel_rfl, rfl, by decide⟩
/-- A slice of ints that is owned. -/
def Ints (v : Value) (l : List Int) : Assn := Own 3 1 v l.length (ints l)
theorem ints_snoc (l : List Int) (x : Int) : ints l ++ [.int .i64 x] = ints (l ++ [x]) := by simp [ints]
theorem ints_push {k : Env} {w : World} {v : Value} {l : List Int} {x : Int} {R : Assn} (h : Sat k w (Own 3 1 v (l.length + 1) (ints l ++ [.int .i64 x]) * R)) : Sat k w (Ints v (l ++ [x]) * R) := by
  unfold Ints; rw [← ints_snoc, List.length_append]; exact h

theorem ints_get {k : Env} {w : World} {a : Option Addr} {n c : Nat} {l : List Int} {R : Assn} (h : Sat k w (Own 3 1 (.slice a n c) n (ints l) * R)) (j : Nat) (hj : j < l.length) :
    ∃ g, a = some ⟨g, 0, none⟩ ∧ g < w.heap.size ∧ w.cell? ⟨g, j, none⟩ = some (.int .i64 l[j]) := by
  have hl := own_len h
  rw [ints, List.length_map, Nat.mul_one] at hl
  obtain ⟨g, rfl, hg, hc, _⟩ := own_get h (by omega)
  exact ⟨g, rfl, hg, (hc _ (by omega)).trans (by simp [ints, hj])⟩

/-- A slice literal of ints. -/
theorem ints_lit {k : Env} {w : World} {R : Assn} (l : List Int) (hl : l.length ≤ maxLen) (h : Sat k w R) (g : Nat) (hg : w.heap.size = g) :
    Sat k (w.alloc (.cells (ints l).toArray 3)) (Ints (.slice (some ⟨g, 0, none⟩) l.length l.length) l * R) := by
  subst hg
  exact own_mk (h.alloc _) (Nat.le_refl _) hl (by simp [ints]) (by simp [ints]) (List.take_of_length_le (by simp [ints]))

end Go.Proofs.Ytlilogcojeoelaa
