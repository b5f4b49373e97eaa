/- Slices of flat records that are owned: a record is a list of cells. -/
import Derived.Test.YtlilogcojeoelaaOwn2
namespace Go.Proofs.Ytlilogcojeoelaa
set_option linter.all false
open Go Go.RowKit

/-- How records lie in cells. -/
structure Enc (α : Type) where
  f : α → List Value
  n : Nat
  len : ∀ x, (f x).length = n
  one : ∀ x, ∀ u ∈ f x, u.oneCell' = true

section
variable {α : Type} (E : Enc α)

def Enc.recs (l : List α) : List Value := l.flatMap E.f
theorem Enc.recs_len (l : List α) : (E.recs l).length = l.length * E.n := by
  induction l with
  | nil => simp [Enc.recs]
  | cons s r ih => simp only [Enc.recs, List.flatMap_cons, List.length_append, List.length_cons] at *; rw [ih, E.len, Nat.add_mul]; omega
theorem Enc.recs_append (l r : List α) : E.recs (l ++ r) = E.recs l ++ E.recs r := by simp [Enc.recs]
theorem Enc.recs_snoc (l : List α) (x : α) : E.recs l ++ E.f x = E.recs (l ++ [x]) := by simp [Enc.recs]
theorem Enc.recs_one (x : α) : E.recs [x] = E.f x := by simp [Enc.recs]
theorem Enc.recs_nil : E.recs [] = [] := rfl
theorem Enc.recs_ones (l : List α) : ∀ u ∈ E.recs l, u.oneCell' = true := by
  intro u hu
  obtain ⟨x, _, hx⟩ := List.mem_flatMap.1 hu
  exact E.one x u hx
theorem Enc.recs_get (l : List α) (i j : Nat) (hi : i < l.length) (hj : j < E.n) : (E.recs l)[i * E.n + j]? = (E.f l[i])[j]? := by
  induction l generalizing i with
  | nil => simp at hi
  | cons s r ih =>
    cases i with
    | zero =>
      simp only [Enc.recs, List.flatMap_cons, Nat.zero_mul, Nat.zero_add, List.getElem_cons_zero]
      rw [List.getElem?_append_left (by rw [E.len]; exact hj)]
    | succ i =>
      have e : (i + 1) * E.n + j = (E.f s).length + (i * E.n + j) := by rw [E.len, Nat.add_mul]; omega
      rw [e]
      simp only [Enc.recs, List.flatMap_cons, List.getElem_cons_succ]
      rw [List.getElem?_append_right (by omega)]
      simp only [Nat.add_sub_cancel_left]
      exact ih i (by simpa using hi)
theorem Enc.recs_set (l : List α) (i j : Nat) (v : Value) (x : α) (hi : i < l.length) (hj : j < E.n) (hx : E.f x = (E.f l[i]).set j v) : (E.recs l).set (i * E.n + j) v = E.recs (l.set i x) := by
  induction l generalizing i with
  | nil => simp at hi
  | cons s r ih =>
    cases i with
    | zero =>
      simp only [Enc.recs, List.flatMap_cons, Nat.zero_mul, Nat.zero_add, List.set_cons_zero]
      simp only [List.getElem_cons_zero] at hx
      rw [hx, List.set_append_left _ _ (by rw [E.len]; exact hj)]
    | succ i =>
      have e : (i + 1) * E.n + j = (E.f s).length + (i * E.n + j) := by rw [E.len, Nat.add_mul]; omega
      rw [e]
      simp only [Enc.recs, List.flatMap_cons, List.set_cons_succ]
      rw [List.set_append_right _ _ (by omega)]
      simp only [Nat.add_sub_cancel_left]
      congr 1
      exact ih i (by simpa using hi) (by simpa using hx)
theorem Enc.recs_take (l : List α) (i : Nat) : (E.recs l).take (i * E.n) = E.recs (l.take i) := by
  induction l generalizing i with
  | nil => simp [Enc.recs]
  | cons s r ih =>
    cases i with
    | zero => simp [Enc.recs]
    | succ i =>
      have e : (i + 1) * E.n = (E.f s).length + i * E.n := by rw [E.len, Nat.add_mul]; omega
      simp only [Enc.recs, List.flatMap_cons, List.take_succ_cons] at *
      rw [e, List.take_length_add_append, ih]
theorem Enc.recs_drop (l : List α) (i : Nat) : (E.recs l).drop (i * E.n) = E.recs (l.drop i) := by
  induction l generalizing i with
  | nil => simp [Enc.recs]
  | cons s r ih =>
    cases i with
    | zero => simp [Enc.recs]
    | succ i =>
      have e : (i + 1) * E.n = (E.f s).length + i * E.n := by rw [E.len, Nat.add_mul]; omega
      simp only [Enc.recs, List.flatMap_cons, List.drop_succ_cons] at *
      rw [e, List.drop_length_add_append, ih]

/-- A slice of records that is owned. -/
def RecS (t : TypeId) (v : Value) (l : List α) : Assn := Own t E.n v l.length (E.recs l)

variable {E} {k : Env} {w : World} {t : TypeId} {R : Assn} {l : List α}
theorem rec_val {v : Value} (h : Sat k w (RecS E t v l * R)) : ∃ a c, v = .slice a l.length c := own_val h
theorem rec_nil (h : Sat k w R) : Sat k w (RecS E t (.slice none 0 0) [] * R) := own_nil h
theorem rec_push {v : Value} {x : α} (h : Sat k w (Own t E.n v (l.length + 1) (E.recs l ++ E.f x) * R)) : Sat k w (RecS E t v (l ++ [x]) * R) := by
  unfold RecS; rw [← E.recs_snoc, List.length_append]; exact h
theorem rec_join {v : Value} {r : List α} (h : Sat k w (Own t E.n v (l.length + r.length) (E.recs l ++ E.recs r) * R)) : Sat k w (RecS E t v (l ++ r) * R) := by
  unfold RecS; rw [E.recs_append, List.length_append]; exact h
theorem rec_cap {a : Option Addr} {c : Nat} (h : Sat k w (RecS E t (.slice a l.length c) l * R)) : l.length ≤ c ∧ c ≤ maxLen := own_cap h
theorem rec_get {a : Option Addr} {c : Nat} (h : Sat k w (RecS E t (.slice a l.length c) l * R)) (hE : 0 < E.n) (j : Nat) (hj : j < l.length) :
    ∃ g, a = some ⟨g, 0, none⟩ ∧ g < w.heap.size ∧ ∀ i, i < E.n → w.cell? ⟨g, j * E.n + i, none⟩ = (E.f l[j])[i]? := by
  obtain ⟨g, rfl, hg, hc, _⟩ := own_get h (by omega)
  refine ⟨g, rfl, hg, fun i hi => ?_⟩
  have : (j + 1) * E.n ≤ l.length * E.n := Nat.mul_le_mul_right _ hj
  rw [Nat.add_mul] at this
  exact (hc _ (by omega)).trans (E.recs_get l j i hj hi)
/-- A literal. -/
theorem rec_lit (hl : l.length ≤ maxLen) (h : Sat k w R) (g : Nat) (hg : w.heap.size = g) :
    Sat k (w.alloc (.cells (E.recs l).toArray t)) (RecS E t (.slice (some ⟨g, 0, none⟩) l.length l.length) l * R) := by
  subst hg
  exact own_mk (h.alloc _) (Nat.le_refl _) hl (by simp [E.recs_len]) (E.recs_len l) (List.take_of_length_le (by rw [← E.recs_len]; simp))
end

end Go.Proofs.Ytlilogcojeoelaa
