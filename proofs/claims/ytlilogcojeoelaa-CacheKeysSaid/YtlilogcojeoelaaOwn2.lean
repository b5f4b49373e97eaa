/- More of owned slices: as a source of append. -/
import Derived.Test.YtlilogcojeoelaaOwn
namespace Go.Proofs.Ytlilogcojeoelaa
set_option linter.all false
open Go Go.RowKit

theorem own_src {k : Env} {w : World} {R : Assn} {e : TypeId} {n c s : Nat} {a : Option Addr} {xs : List Value} (h : Sat k w (Own e s (.slice a n c) n xs * R)) (hn : 0 < n) :
    ∃ ad, a = some ad ∧ ∀ j u, xs[j]? = some u → w.cell? (ad.add j) = some u := by
  have hl := own_len h
  obtain ⟨g, rfl, _, hc, _⟩ := own_get h hn
  refine ⟨_, rfl, fun j u hu => ?_⟩
  rw [Addr.add_lit, Nat.zero_add, hc j (by have := (List.getElem?_eq_some_iff.1 hu).1; omega), hu]

section
variable {k : Env} {w : World} {R A1 A2 A3 A4 A5 A6 A7 A8 A9 A10 : Assn}
theorem Sat.get6 (h : Sat k w (A1 * (A2 * (A3 * (A4 * (A5 * (A6 * R))))))) : Sat k w (A6 * (A1 * (A2 * (A3 * (A4 * (A5 * R)))))) := h.of_eq (by ac_rfl)
theorem Sat.put6 (h : Sat k w (A6 * (A1 * (A2 * (A3 * (A4 * (A5 * R))))))) : Sat k w (A1 * (A2 * (A3 * (A4 * (A5 * (A6 * R)))))) := h.of_eq (by ac_rfl)
theorem Sat.get7 (h : Sat k w (A1 * (A2 * (A3 * (A4 * (A5 * (A6 * (A7 * R)))))))) : Sat k w (A7 * (A1 * (A2 * (A3 * (A4 * (A5 * (A6 * R))))))) := h.of_eq (by ac_rfl)
theorem Sat.put7 (h : Sat k w (A7 * (A1 * (A2 * (A3 * (A4 * (A5 * (A6 * R)))))))) : Sat k w (A1 * (A2 * (A3 * (A4 * (A5 * (A6 * (A7 * R))))))) := h.of_eq (by ac_rfl)
theorem Sat.get8 (h : Sat k w (A1 * (A2 * (A3 * (A4 * (A5 * (A6 * (A7 * (A8 * R))))))))) : Sat k w (A8 * (A1 * (A2 * (A3 * (A4 * (A5 * (A6 * (A7 * R)))))))) := h.of_eq (by ac_rfl)
theorem Sat.put8 (h : Sat k w (A8 * (A1 * (A2 * (A3 * (A4 * (A5 * (A6 * (A7 * R))))))))) : Sat k w (A1 * (A2 * (A3 * (A4 * (A5 * (A6 * (A7 * (A8 * R)))))))) := h.of_eq (by ac_rfl)
theorem Sat.get9 (h : Sat k w (A1 * (A2 * (A3 * (A4 * (A5 * (A6 * (A7 * (A8 * (A9 * R)))))))))) : Sat k w (A9 * (A1 * (A2 * (A3 * (A4 * (A5 * (A6 * (A7 * (A8 * R))))))))) := h.of_eq (by ac_rfl)
theorem Sat.put9 (h : Sat k w (A9 * (A1 * (A2 * (A3 * (A4 * (A5 * (A6 * (A7 * (A8 * R)))))))))) : Sat k w (A1 * (A2 * (A3 * (A4 * (A5 * (A6 * (A7 * (A8 * (A9 * R))))))))) := h.of_eq (by ac_rfl)
theorem Sat.get10 (h : Sat k w (A1 * (A2 * (A3 * (A4 * (A5 * (A6 * (A7 * (A8 * (A9 * (A10 * R))))))))))) : Sat k w (A10 * (A1 * (A2 * (A3 * (A4 * (A5 * (A6 * (A7 * (A8 * (A9 * R)))))))))) := h.of_eq (by ac_rfl)
theorem Sat.put10 (h : Sat k w (A10 * (A1 * (A2 * (A3 * (A4 * (A5 * (A6 * (A7 * (A8 * (A9 * R))))))))))) : Sat k w (A1 * (A2 * (A3 * (A4 * (A5 * (A6 * (A7 * (A8 * (A9 * (A10 * R)))))))))) := h.of_eq (by ac_rfl)
end
section
variable {k : Env} {w : World} {R A1 A2 A3 A4 A5 A6 A7 A8 A9 A10 : Assn}
theorem Sat.drop2 (h : Sat k w (A1 * (A2 * R))) : Sat k w (A1 * R) := Sat.drop (P := A2) (h.of_eq (show _ = A2 * (A1 * R) by ac_rfl))
theorem Sat.drop3 (h : Sat k w (A1 * (A2 * (A3 * R)))) : Sat k w (A1 * (A2 * R)) := Sat.drop (P := A3) (h.of_eq (show _ = A3 * (A1 * (A2 * R)) by ac_rfl))
theorem Sat.drop4 (h : Sat k w (A1 * (A2 * (A3 * (A4 * R))))) : Sat k w (A1 * (A2 * (A3 * R))) := Sat.drop (P := A4) (h.of_eq (show _ = A4 * (A1 * (A2 * (A3 * R))) by ac_rfl))
theorem Sat.drop5 (h : Sat k w (A1 * (A2 * (A3 * (A4 * (A5 * R)))))) : Sat k w (A1 * (A2 * (A3 * (A4 * R)))) := Sat.drop (P := A5) (h.of_eq (show _ = A5 * (A1 * (A2 * (A3 * (A4 * R)))) by ac_rfl))
theorem Sat.drop6 (h : Sat k w (A1 * (A2 * (A3 * (A4 * (A5 * (A6 * R))))))) : Sat k w (A1 * (A2 * (A3 * (A4 * (A5 * R))))) := Sat.drop (P := A6) (h.of_eq (show _ = A6 * (A1 * (A2 * (A3 * (A4 * (A5 * R))))) by ac_rfl))
theorem Sat.drop7 (h : Sat k w (A1 * (A2 * (A3 * (A4 * (A5 * (A6 * (A7 * R)))))))) : Sat k w (A1 * (A2 * (A3 * (A4 * (A5 * (A6 * R)))))) := Sat.drop (P := A7) (h.of_eq (show _ = A7 * (A1 * (A2 * (A3 * (A4 * (A5 * (A6 * R)))))) by ac_rfl))
theorem Sat.drop8 (h : Sat k w (A1 * (A2 * (A3 * (A4 * (A5 * (A6 * (A7 * (A8 * R))))))))) : Sat k w (A1 * (A2 * (A3 * (A4 * (A5 * (A6 * (A7 * R))))))) := Sat.drop (P := A8) (h.of_eq (show _ = A8 * (A1 * (A2 * (A3 * (A4 * (A5 * (A6 * (A7 * R))))))) by ac_rfl))
theorem Sat.drop9 (h : Sat k w (A1 * (A2 * (A3 * (A4 * (A5 * (A6 * (A7 * (A8 * (A9 * R)))))))))) : Sat k w (A1 * (A2 * (A3 * (A4 * (A5 * (A6 * (A7 * (A8 * R)))))))) := Sat.drop (P := A9) (h.of_eq (show _ = A9 * (A1 * (A2 * (A3 * (A4 * (A5 * (A6 * (A7 * (A8 * R)))))))) by ac_rfl))
end
section
variable {k : Env} {w : World} {R A1 A2 A3 A4 A5 A6 A7 A8 A9 A10 A11 A12 : Assn}
theorem Sat.get11 (h : Sat k w (A1 * (A2 * (A3 * (A4 * (A5 * (A6 * (A7 * (A8 * (A9 * (A10 * (A11 * R)))))))))))) : Sat k w (A11 * (A1 * (A2 * (A3 * (A4 * (A5 * (A6 * (A7 * (A8 * (A9 * (A10 * R))))))))))) := h.of_eq (by ac_rfl)
theorem Sat.put11 (h : Sat k w (A11 * (A1 * (A2 * (A3 * (A4 * (A5 * (A6 * (A7 * (A8 * (A9 * (A10 * R)))))))))))) : Sat k w (A1 * (A2 * (A3 * (A4 * (A5 * (A6 * (A7 * (A8 * (A9 * (A10 * (A11 * R))))))))))) := h.of_eq (by ac_rfl)
theorem Sat.get12 (h : Sat k w (A1 * (A2 * (A3 * (A4 * (A5 * (A6 * (A7 * (A8 * (A9 * (A10 * (A11 * (A12 * R))))))))))))) : Sat k w (A12 * (A1 * (A2 * (A3 * (A4 * (A5 * (A6 * (A7 * (A8 * (A9 * (A10 * (A11 * R)))))))))))) := h.of_eq (by ac_rfl)
theorem Sat.put12 (h : Sat k w (A12 * (A1 * (A2 * (A3 * (A4 * (A5 * (A6 * (A7 * (A8 * (A9 * (A10 * (A11 * R))))))))))))) : Sat k w (A1 * (A2 * (A3 * (A4 * (A5 * (A6 * (A7 * (A8 * (A9 * (A10 * (A11 * (A12 * R)))))))))))) := h.of_eq (by ac_rfl)
theorem Sat.get2 (h : Sat k w (A1 * (A2 * R))) : Sat k w (A2 * (A1 * R)) := h.swap
theorem Sat.put2 (h : Sat k w (A2 * (A1 * R))) : Sat k w (A1 * (A2 * R)) := h.swap
end
/-- A block for each of a list. -/
def stars {α : Type} (f : α → Assn) : List α → Assn
  | [] => emp
  | x :: r => f x * stars f r
theorem stars_append {α : Type} (f : α → Assn) (l r : List α) : stars f (l ++ r) = stars f l * stars f r := by
  induction l with
  | nil => rw [List.nil_append, stars, emp_star]
  | cons x l ih => rw [List.cons_append, stars, stars, ih, star_assoc]
theorem stars_mid {α : Type} (f : α → Assn) (p q : List α) (x : α) : stars f (p ++ x :: q) = f x * stars f (p ++ q) := by
  rw [stars_append, stars, stars_append, star_left_comm]
theorem stars_snoc {α : Type} (f : α → Assn) (p : List α) (x : α) : stars f (p ++ [x]) = f x * stars f p := by
  rw [stars_mid, List.append_nil]
theorem stars_congr {α : Type} {f g : α → Assn} {l : List α} (h : ∀ x ∈ l, f x = g x) : stars f l = stars g l := by
  induction l with
  | nil => rfl
  | cons x r ih => rw [stars, stars, h x (by simp), ih fun y hy => h y (by simp [hy])]
section
variable {k : Env} {w : World} {e size n : Nat} {xs : List Value} {R : Assn}
theorem own_ne2 {b g cap : Nat} {o : Obj} (h : Sat k w (blk b o * (Own e size (.slice (some ⟨g, 0, none⟩) n cap) n xs * R))) : b ≠ g ∧ g ≠ b := by
  rcases own_block h.swap with ⟨h0, _⟩ | ⟨g', cur, hg, _, _, _, _, _, hs⟩
  · cases h0
  · simp only [Option.some.injEq, Addr.mk.injEq, and_true] at hg
    subst hg
    exact ⟨fun e => hs.ne e.symm, hs.ne⟩
/-- A store into an owned slice. -/
theorem own_set2 {g cap : Nat} (h : Sat k w (Own e size (.slice (some ⟨g, 0, none⟩) n cap) n xs * R)) (j : Nat) (v : Value) :
    Sat k (w.setCell ⟨g, j, none⟩ v) (Own e size (.slice (some ⟨g, 0, none⟩) n cap) n (xs.set j v) * R) := by
  rcases own_block h with ⟨h0, _⟩ | ⟨g', cur, hg, h1, h2, h3, h4, h5, hs⟩
  · cases h0
  · simp only [Option.some.injEq, Addr.mk.injEq, and_true] at hg
    subst hg
    refine own_mk (hs.set j v) h1 h2 (by simpa using h3) (by simpa using h4) ?_
    rw [← h5]
    simp only [Array.toList_setIfInBounds]
    rw [List.take_set]
/-- A cell of an owned slice: what it holds, and that it can be written. -/
theorem own_at {g cap : Nat} (h : Sat k w (Own e size (.slice (some ⟨g, 0, none⟩) n cap) n xs * R)) (j : Nat) (hj : j < n * size) : ∃ u, xs[j]? = some u ∧ w.cell? ⟨g, j, none⟩ = some u ∧ w.frozen? ⟨g, j, none⟩ = false ∧ g < w.heap.size := by
  have hn : 0 < n := by rcases Nat.eq_zero_or_pos n with rfl | h; simp at hj; exact h
  have hl := own_len h
  obtain ⟨g', hg', hg, hc, hf⟩ := own_get h hn
  simp only [Option.some.injEq, Addr.mk.injEq, and_true] at hg'
  subst hg'
  have hx : xs[j]? = some (xs[j]'(by omega)) := List.getElem?_eq_getElem (by omega)
  exact ⟨_, hx, (hc j hj).trans hx, hf j, hg⟩
end
theorem perm_erase {α : Type} (l : List α) (j : Nat) (hj : j < l.length) : (l[j] :: l.eraseIdx j).Perm l := by
  induction l generalizing j with
  | nil => simp at hj
  | cons x r ih =>
    cases j with
    | zero => exact List.Perm.refl _
    | succ j => exact (List.Perm.swap _ _ _).trans ((ih j (by simpa using hj)).cons x)

end Go.Proofs.Ytlilogcojeoelaa
