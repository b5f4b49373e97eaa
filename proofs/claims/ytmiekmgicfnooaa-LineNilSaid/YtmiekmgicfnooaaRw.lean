/- What a law is handed: slices that are read. -/
import Derived.Test.YtmiekmgicfnooaaSl
import Derived.ProofKit
import Derived.SizedLaws
import Derived.Deep.Slices
namespace Go.Proofs.Ytmiekmgicfnooaa
open Go Go.RowKit Go.ChangeShapes Go.WideShapes Go.ChangeAt

/-- A slice of integers that came in. -/
def IsRow (k : IntKind) (w : World) (a : Option Addr) (len cap : Nat) (zs : List Int) : Prop :=
  (a = none ∧ len = 0 ∧ cap = 0 ∧ zs = []) ∨
  ∃ x, a = some x ∧ len ≤ cap ∧ cap ≤ maxLen ∧ zs.length = cap ∧ (∀ i, i < zs.length → w.cell? (x.add i) = some (.int k (zs.getD i 0))) ∧ ∀ n ∈ zs, (Lit.int k n).wf = true

theorem isRow_open {H : Type} {enc : TypeId × Value → H} {P : Program} {w : World} {t e : TypeId} {k : IntKind} {a : Option Addr} {len cap : Nat} {d : DataW H} {p : List MemPlace} {held : Bool}
    (ht : P.underlying t = some (.slice e)) (he : P.underlying e = some (.int k)) (hc : P.cellsOf e = 1) (h : DataW.Trod enc P w 0 (fun _ => true) held t (.slice a len cap) d p) : ∃ zs, IsRow k w a len cap zs := by
  obtain ⟨fuel, hf⟩ := h
  rcases open_ints ht he hc hf with ⟨hcs, _⟩ | ⟨x, l, c, zs, hcs, _, hl, hm, hz, _, hcell, hwz⟩
  · simp [Value.cells] at hcs
    obtain ⟨rfl, rfl, rfl⟩ := hcs
    exact ⟨[], .inl ⟨rfl, rfl, rfl, rfl⟩⟩
  · simp [Value.cells] at hcs
    obtain ⟨rfl, rfl, rfl⟩ := hcs
    exact ⟨zs, .inr ⟨_, rfl, hl, hm, by simpa using hz, hcell, hwz⟩⟩

/-- How long a slice that came in can be. -/
theorem sized_any {H : Type} {enc : TypeId × Value → H} {P : Program} {W : World} {base : Nat} {spare : Nat → Bool} {held : Bool} {t e : TypeId} {a : Option Addr} {len cap : Nat} {d : DataW H} {ps : List MemPlace} {ts : List TypeId} {ds : List (DataW H)} {j : Nat}
    (hsz : (DataW.weightsEach P ts ds).all (· ≤ reachBytes) = true) (ht : ts[j]? = some t) (hd : ds[j]? = some d) (hu : P.underlying t = some (.slice e)) {B : Nat} (hB : P.bytesOf e = B)
    (h : DataW.Trod enc P W base spare held t (.slice a len cap) d ps) : len * B ≤ 140737488351232 := by
  obtain ⟨fuel, hf⟩ := h
  rcases Deep.open_slice hu hf with ⟨hcs, _⟩ | ⟨x, l, c, m, n, D, Pl, hcs, _, hl, _, hm, hx, _⟩
  · simp [Value.cells] at hcs
    obtain ⟨rfl, rfl, rfl⟩ := hcs
    simp
  · simp [Value.cells] at hcs
    obtain ⟨rfl, rfl, rfl⟩ := hcs
    obtain ⟨hx, _⟩ := Prod.mk.inj hx
    subst hx
    have z := sized_slice hsz ht hd hu
    rw [hB] at z
    simp only [List.length_map, List.length_range] at z
    have : len * B ≤ (len + (m - len)) * B := Nat.mul_le_mul_right _ (by omega)
    exact Nat.le_trans this z

/-- The whole of the old heap, kept: what is read of it later. -/
theorem whole_cell {W w : World} {k : Env} (h : Sat k w (whole W)) {a : Addr} {v : Value} (hc : W.cell? a = some v) : w.cell? a = some v := by
  obtain ⟨e, x, hx, p⟩ := h
  have p' : x = fun i => W.heap[i]? := p
  subst p'
  unfold World.cell? at hc ⊢
  cases hb : W.heap[a.block]? with
  | none => rw [hb] at hc; cases hc
  | some o =>
    rw [hx _ _ hb]
    rw [hb] at hc
    exact hc

theorem row_get {W w : World} {k : Env} {kd : IntKind} {a : Option Addr} {len cap : Nat} {zs : List Int} (z : IsRow kd W a len cap zs) (h : Sat k w (whole W)) (j : Nat) (hj : j < len) :
    ∃ g o u, a = some ⟨g, o, none⟩ ∧ g < w.heap.size ∧ w.cell? ⟨g, o + j, none⟩ = some (.int kd u) ∧ (Lit.int kd u).wf = true ∧ Hid (u = zs.getD j 0) := by
  rcases z with ⟨_, rfl, _⟩ | ⟨x, rfl, hl, hm, hz, hc, hw⟩
  · omega
  · obtain ⟨b, off, spot⟩ := x
    have hs : spot = none := by simpa [Addr.add] using World.cell?_spot (hc 0 (by omega))
    subst hs
    have h1 := whole_cell h (hc j (by omega))
    rw [Addr.add_lit] at h1
    refine ⟨b, off, _, rfl, World.block_lt_of_cell? w _ h1, h1, hw _ ?_, rfl⟩
    rw [List.getD, List.getElem?_eq_getElem (by omega)]; exact List.getElem_mem _
/-- An element of what came in, to be read in every later world. -/
theorem row_at {W : World} {kd : IntKind} {a : Option Addr} {len cap : Nat} {zs : List Int} (z : IsRow kd W a len cap zs) (j : Nat) (hj : j < len) :
    ∃ g o u, a = some ⟨g, o, none⟩ ∧ Hid (W.cell? ⟨g, o + j, none⟩ = some (.int kd u)) ∧ (Lit.int kd u).wf = true ∧ Hid (u = zs.getD j 0) := by
  rcases z with ⟨_, rfl, _⟩ | ⟨x, rfl, hl, hm, hz, hc, hw⟩
  · omega
  · obtain ⟨b, off, spot⟩ := x
    have hs : spot = none := by simpa [Addr.add] using World.cell?_spot (hc 0 (by omega))
    subst hs
    have h1 := hc j (by omega)
    rw [Addr.add_lit] at h1
    refine ⟨b, off, _, rfl, h1, hw _ ?_, rfl⟩
    rw [List.getD, List.getElem?_eq_getElem (by omega)]; exact List.getElem_mem _
theorem whole_at {W w : World} {k : Env} {g o : Nat} {v : Value} (h : Sat k w (whole W)) (hc : Hid (W.cell? ⟨g, o, none⟩ = some v)) : g < w.heap.size ∧ w.cell? ⟨g, o, none⟩ = some v :=
  ⟨World.block_lt_of_cell? w _ (whole_cell h hc.out), whole_cell h hc.out⟩
theorem row_bounds {kd : IntKind} {W : World} {a : Option Addr} {len cap : Nat} {zs : List Int} (z : IsRow kd W a len cap zs) : len ≤ cap ∧ cap ≤ maxLen ∧ zs.length = cap := by
  rcases z with ⟨_, rfl, rfl, rfl⟩ | ⟨x, rfl, hl, hm, hz, hc, hw⟩
  · simp [maxLen]
  · exact ⟨hl, hm, hz⟩

end Go.Proofs.Ytmiekmgicfnooaa
