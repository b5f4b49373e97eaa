/- Slices of strings that are read wherever they lie. -/
import Derived.Test.YtoeepbjnbgpmpaaMA
namespace Go.Proofs.Ytoeepbjnbgpmpaa
set_option linter.all false
open Go Go.RowKit

/-- What a slice of strings that is handed in reads as, whatever else is done. -/
def Rd (k : Env) (R : Assn) (a : Option Addr) (l : List ByteArray) : Prop :=
  ∃ g o, (l ≠ [] → a = some ⟨g, o, none⟩) ∧ ∀ w' : World, Sat k w' R → ∀ j (hj : j < l.length), w'.cell? ⟨g, o + j, none⟩ = some (.string l[j])
theorem rd_nil (k : Env) (R : Assn) (a : Option Addr) : Rd k R a [] := ⟨0, 0, fun h => absurd rfl h, fun _ _ j hj => by cases hj⟩
theorem rd_own {k : Env} {w : World} {R : Assn} {a : Option Addr} {c : Nat} {l : List ByteArray} (h : Sat k w (Strs (.slice a l.length c) l * R)) : Rd k (Strs (.slice a l.length c) l * R) a l := by
  cases l with
  | nil => exact rd_nil k _ a
  | cons x r =>
    obtain ⟨g, rfl, _, _⟩ := strs_get h 0 (by simp)
    refine ⟨g, 0, fun _ => rfl, fun w' h' j hj => ?_⟩
    obtain ⟨g', hg, _, hc⟩ := strs_get h' j hj
    simp only [Option.some.injEq, Addr.mk.injEq, and_true] at hg
    subst hg
    rw [Nat.zero_add]; exact hc
theorem Rd.mono {k : Env} {R R' : Assn} {a : Option Addr} {l : List ByteArray} (h : Rd k R a l) (hm : ∀ w', Sat k w' R' → Sat k w' R) : Rd k R' a l := by
  obtain ⟨g, o, h1, h2⟩ := h
  exact ⟨g, o, h1, fun w' h' => h2 w' (hm w' h')⟩

theorem rd_get {k : Env} {w : World} {R : Assn} {a : Option Addr} {l : List ByteArray} (h : Rd k R a l) (hs : Sat k w R) (j : Nat) (hj : j < l.length) : ∃ g o, a = some ⟨g, o, none⟩ ∧ w.cell? ⟨g, o + j, none⟩ = some (.string l[j]) := by
  obtain ⟨g, o, h1, h2⟩ := h
  exact ⟨g, o, h1 (by intro e; subst e; cases hj), h2 w hs j hj⟩
def memB (s : ByteArray) (l : List ByteArray) : Bool := l.any fun x => decide (x = s)
theorem memB_nil (s : ByteArray) : memB s [] = false := rfl
theorem memB_snoc (s x : ByteArray) (l : List ByteArray) : memB s (l ++ [x]) = (memB s l || decide (x = s)) := by simp [memB]
theorem memB_iff {s : ByteArray} {l : List ByteArray} : memB s l = true ↔ s ∈ l := by simp [memB]
theorem memB_not {s : ByteArray} {l : List ByteArray} : memB s l = false ↔ s ∉ l := by rw [← memB_iff]; simp

end Go.Proofs.Ytoeepbjnbgpmpaa
