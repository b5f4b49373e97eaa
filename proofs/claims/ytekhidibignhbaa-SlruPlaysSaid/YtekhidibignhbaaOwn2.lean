/- More of owned slices: as a source of append. -/
import Derived.Test.YtekhidibignhbaaOwn
namespace Go.Proofs.Ytekhidibignhbaa
set_option linter.unusedSimpArgs false
set_option linter.unusedVariables false
open Go Go.RowKit

theorem own_src {k : Env} {w : World} {R : Assn} {e : TypeId} {n c s : Nat} {a : Option Addr} {xs : List Value} (h : Sat k w (Own e s (.slice a n c) n xs * R)) (hn : 0 < n) :
    ∃ ad, a = some ad ∧ ∀ j u, xs[j]? = some u → w.cell? (ad.add j) = some u := by
  have hl := own_len h
  obtain ⟨g, rfl, _, hc, _⟩ := own_get h hn
  refine ⟨_, rfl, fun j u hu => ?_⟩
  rw [Addr.add_lit, Nat.zero_add, hc j (by have := (List.getElem?_eq_some_iff.1 hu).1; omega), hu]

section
variable {k : Env} {w : World} {R A1 A2 A3 A4 A5 A6 A7 A8 A9 A10 : Assn}
theorem Sat.get6 (h : Sat k w (A1 * (A2 * (A3 * (A4 * (A5 * (A6 * R))))))) : Sat k w (A6 * (A1 * (A2 * (A3 * (A4 * (A5 * R)))))) := h.of_eq (by ac_rfl)
theorem Sat.put6 (h : Sat k w (A6 * (A1 * (A2 * (A3 * (A4 * (A5 * R))))))) : Sat k w (A1 * (A2 * (A3 * (A4 * (A5 * (A6 * R)))))) := h.of_eq (by ac_rfl)
theorem Sat.get7 (h : Sat k w (A1 * (A2 * (A3 * (A4 * (A5 * (A6 * (A7 * R)))))))) : Sat k w (A7 * (A1 * (A2 * (A3 * (A4 * (A5 * (A6 * R))))))) := h.of_eq (by ac_rfl)
theorem Sat.put7 (h : Sat k w (A7 * (A1 * (A2 * (A3 * (A4 * (A5 * (A6 * R)))))))) : Sat k w (A1 * (A2 * (A3 * (A4 * (A5 * (A6 * (A7 * R))))))) := h.of_eq (by ac_rfl)
theorem Sat.get8 (h : Sat k w (A1 * (A2 * (A3 * (A4 * (A5 * (A6 * (A7 * (A8 * R))))))))) : Sat k w (A8 * (A1 * (A2 * (A3 * (A4 * (A5 * (A6 * (A7 * R)))))))) := h.of_eq (by ac_rfl)
theorem Sat.put8 (h : Sat k w (A8 * (A1 * (A2 * (A3 * (A4 * (A5 * (A6 * (A7 * R))))))))) : Sat k w (A1 * (A2 * (A3 * (A4 * (A5 * (A6 * (A7 * (A8 * R)))))))) := h.of_eq (by ac_rfl)
theorem Sat.get9 (h : Sat k w (A1 * (A2 * (A3 * (A4 * (A5 * (A6 * (A7 * (A8 * (A9 * R)))))))))) : Sat k w (A9 * (A1 * (A2 * (A3 * (A4 * (A5 * (A6 * (A7 * (A8 * R))))))))) := h.of_eq (by ac_rfl)
theorem Sat.put9 (h : Sat k w (A9 * (A1 * (A2 * (A3 * (A4 * (A5 * (A6 * (A7 * (A8 * R)))))))))) : Sat k w (A1 * (A2 * (A3 * (A4 * (A5 * (A6 * (A7 * (A8 * (A9 * R))))))))) := h.of_eq (by ac_rfl)
theorem Sat.get10 (h : Sat k w (A1 * (A2 * (A3 * (A4 * (A5 * (A6 * (A7 * (A8 * (A9 * (A10 * R))))))))))) : Sat k w (A10 * (A1 * (A2 * (A3 * (A4 * (A5 * (A6 * (A7 * (A8 * (A9 * R)))))))))) := h.of_eq (by ac_rfl)
theorem Sat.put10 (h : Sat k w (A10 * (A1 * (A2 * (A3 * (A4 * (A5 * (A6 * (A7 * (A8 * (A9 * R))))))))))) : Sat k w (A1 * (A2 * (A3 * (A4 * (A5 * (A6 * (A7 * (A8 * (A9 * (A10 * R)))))))))) := h.of_eq (by ac_rfl)
end
section
variable {k : Env} {w : World} {R A1 A2 A3 A4 A5 A6 A7 A8 A9 A10 : Assn}
theorem Sat.drop2 (h : Sat k w (A1 * (A2 * R))) : Sat k w (A1 * R) := Sat.drop (P := A2) (h.of_eq (show _ = A2 * (A1 * R) by ac_rfl))
theorem Sat.drop3 (h : Sat k w (A1 * (A2 * (A3 * R)))) : Sat k w (A1 * (A2 * R)) := Sat.drop (P := A3) (h.of_eq (show _ = A3 * (A1 * (A2 * R)) by ac_rfl))
theorem Sat.drop4 (h : Sat k w (A1 * (A2 * (A3 * (A4 * R))))) : Sat k w (A1 * (A2 * (A3 * R))) := Sat.drop (P := A4) (h.of_eq (show _ = A4 * (A1 * (A2 * (A3 * R))) by ac_rfl))
theorem Sat.drop5 (h : Sat k w (A1 * (A2 * (A3 * (A4 * (A5 * R)))))) : Sat k w (A1 * (A2 * (A3 * (A4 * R)))) := Sat.drop (P := A5) (h.of_eq (show _ = A5 * (A1 * (A2 * (A3 * (A4 * R)))) by ac_rfl))
theorem Sat.drop6 (h : Sat k w (A1 * (A2 * (A3 * (A4 * (A5 * (A6 * R))))))) : Sat k w (A1 * (A2 * (A3 * (A4 * (A5 * R))))) := Sat.drop (P := A6) (h.of_eq (show _ = A6 * (A1 * (A2 * (A3 * (A4 * (A5 * R))))) by ac_rfl))
theorem Sat.drop7 (h : Sat k w (A1 * (A2 * (A3 * (A4 * (A5 * (A6 * (A7 * R)))))))) : Sat k w (A1 * (A2 * (A3 * (A4 * (A5 * (A6 * R)))))) := Sat.drop (P := A7) (h.of_eq (show _ = A7 * (A1 * (A2 * (A3 * (A4 * (A5 * (A6 * R)))))) by ac_rfl))
theorem Sat.drop8 (h : Sat k w (A1 * (A2 * (A3 * (A4 * (A5 * (A6 * (A7 * (A8 * R))))))))) : Sat k w (A1 * (A2 * (A3 * (A4 * (A5 * (A6 * (A7 * R))))))) := Sat.drop (P := A8) (h.of_eq (show _ = A8 * (A1 * (A2 * (A3 * (A4 * (A5 * (A6 * (A7 * R))))))) by ac_rfl))
theorem Sat.drop9 (h : Sat k w (A1 * (A2 * (A3 * (A4 * (A5 * (A6 * (A7 * (A8 * (A9 * R)))))))))) : Sat k w (A1 * (A2 * (A3 * (A4 * (A5 * (A6 * (A7 * (A8 * R)))))))) := Sat.drop (P := A9) (h.of_eq (show _ = A9 * (A1 * (A2 * (A3 * (A4 * (A5 * (A6 * (A7 * (A8 * R)))))))) by ac_rfl))
end

end Go.Proofs.Ytekhidibignhbaa
