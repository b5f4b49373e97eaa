/- What a law is handed: slices that are read. -/
import Derived.Test.YtlilogcojeoelaaSl
import Derived.ProofKit
import Derived.SizedLaws
import Derived.Deep.Slices
import Derived.OpenShut
namespace Go.Proofs.Ytlilogcojeoelaa
set_option linter.all false
open Go Go.RowKit Go.ChangeShapes Go.WideShapes Go.ChangeAt

/-- A slice of integers that came in. -/
def IsRow (k : IntKind) (w : World) (a : Option Addr) (len cap : Nat) (zs : List Int) : Prop :=
  (a = none ∧ len = 0 ∧ cap = 0 ∧ zs = []) ∨
  ∃ x, a = some x ∧ len ≤ cap ∧ cap ≤ maxLen ∧ zs.length = cap ∧ (∀ i, i < zs.length → w.cell? (x.add i) = some (.int k (zs.getD i 0))) ∧ ∀ n ∈ zs, (Lit.int k n).wf = true

theorem isRow_open {H : Type} {enc : TypeId × Value → H} {P : Program} {w : World} {t e : TypeId} {k : IntKind} {a : Option Addr} {len cap : Nat} {d : DataW H} {p : List MemPlace} {held : Bool}
    (ht : P.underlying t = some (.slice e)) (he : P.underlying e = some (.int k)) (hc : P.cellsOf e = 1) (h : DataW.Trod enc P w 0 (fun _ => true) held t (.slice a len cap) d p) : ∃ zs, IsRow k w a len cap zs := by
  obtain ⟨fuel, hf⟩ := h
  rcases open_ints ht he hc hf with ⟨hcs, _⟩ | ⟨x, l, c, zs, hcs, _, hl, hm, hz, _, hcell, hwz⟩
  · simp [Value.cells] at hcs
    obtain ⟨rfl, rfl, rfl⟩ := hcs
    exact ⟨[], .inl ⟨rfl, rfl, rfl, rfl⟩⟩
  · simp [Value.cells] at hcs
    obtain ⟨rfl, rfl, rfl⟩ := hcs
    exact ⟨zs, .inr ⟨_, rfl, hl, hm, by simpa using hz, hcell, hwz⟩⟩

/-- How long a slice that came in can be. -/
theorem sized_any {H : Type} {enc : TypeId × Value → H} {P : Program} {W : World} {base : Nat} {spare : Nat → Bool} {held : Bool} {t e : TypeId} {a : Option Addr} {len cap : Nat} {d : DataW H} {ps : List MemPlace} {ts : List TypeId} {ds : List (DataW H)} {j : Nat}
    (hsz : (DataW.weightsEach P ts ds).all (· ≤ reachBytes) = true) (ht : ts[j]? = some t) (hd : ds[j]? = some d) (hu : P.underlying t = some (.slice e)) {B : Nat} (hB : P.bytesOf e = B)
    (h : DataW.Trod enc P W base spare held t (.slice a len cap) d ps) : len * B ≤ 140737488351232 := by
  obtain ⟨fuel, hf⟩ := h
  rcases Deep.open_slice hu hf with ⟨hcs, _⟩ | ⟨x, l, c, m, n, D, Pl, hcs, _, hl, _, hm, hx, _⟩
  · simp [Value.cells] at hcs
    obtain ⟨rfl, rfl, rfl⟩ := hcs
    simp
  · simp [Value.cells] at hcs
    obtain ⟨rfl, rfl, rfl⟩ := hcs
    obtain ⟨hx, _⟩ := Prod.mk.inj hx
    subst hx
    have z := sized_slice hsz ht hd hu
    rw [hB] at z
    simp only [List.length_map, List.length_range] at z
    have : len * B ≤ (len + (m - len)) * B := Nat.mul_le_mul_right _ (by omega)
    exact Nat.le_trans this z

/-- The whole of the old heap, kept: what is read of it later. -/
theorem whole_cell {W w : World} {k : Env} (h : Sat k w (whole W)) {a : Addr} {v : Value} (hc : W.cell? a = some v) : w.cell? a = some v := by
  obtain ⟨e, x, hx, p⟩ := h
  have p' : x = fun i => W.heap[i]? := p
  subst p'
  unfold World.cell? at hc ⊢
  cases hb : W.heap[a.block]? with
  | none => rw [hb] at hc; cases hc
  | some o =>
    rw [hx _ _ hb]
    rw [hb] at hc
    exact hc

theorem row_get {W w : World} {k : Env} {kd : IntKind} {a : Option Addr} {len cap : Nat} {zs : List Int} (z : IsRow kd W a len cap zs) (h : Sat k w (whole W)) (j : Nat) (hj : j < len) :
    ∃ g o u, a = some ⟨g, o, none⟩ ∧ g < w.heap.size ∧ w.cell? ⟨g, o + j, none⟩ = some (.int kd u) ∧ (Lit.int kd u).wf = true ∧ Hid (u = zs.getD j 0) := by
  rcases z with ⟨_, rfl, _⟩ | ⟨x, rfl, hl, hm, hz, hc, hw⟩
  · omega
  · obtain ⟨b, off, spot⟩ := x
    have hs : spot = none := by simpa [Addr.add] using World.cell?_spot (hc 0 (by omega))
    subst hs
    have h1 := whole_cell h (hc j (by omega))
    rw [Addr.add_lit] at h1
    refine ⟨b, off, _, rfl, World.block_lt_of_cell? w _ h1, h1, hw _ ?_, rfl⟩
    rw [List.getD, List.getElem?_eq_getElem (by omega)]; exact List.getElem_mem _
/-- An element of what came in, to be read in every later world. -/
theorem row_at {W : World} {kd : IntKind} {a : Option Addr} {len cap : Nat} {zs : List Int} (z : IsRow kd W a len cap zs) (j : Nat) (hj : j < len) :
    ∃ g o u, a = some ⟨g, o, none⟩ ∧ Hid (W.cell? ⟨g, o + j, none⟩ = some (.int kd u)) ∧ (Lit.int kd u).wf = true ∧ Hid (u = zs.getD j 0) := by
  rcases z with ⟨_, rfl, _⟩ | ⟨x, rfl, hl, hm, hz, hc, hw⟩
  · omega
  · obtain ⟨b, off, spot⟩ := x
    have hs : spot = none := by simpa [Addr.add] using World.cell?_spot (hc 0 (by omega))
    subst hs
    have h1 := hc j (by omega)
    rw [Addr.add_lit] at h1
    refine ⟨b, off, _, rfl, h1, hw _ ?_, rfl⟩
    rw [List.getD, List.getElem?_eq_getElem (by omega)]; exact List.getElem_mem _
theorem whole_at {W w : World} {k : Env} {g o : Nat} {v : Value} (h : Sat k w (whole W)) (hc : Hid (W.cell? ⟨g, o, none⟩ = some v)) : g < w.heap.size ∧ w.cell? ⟨g, o, none⟩ = some v :=
  ⟨World.block_lt_of_cell? w _ (whole_cell h hc.out), whole_cell h hc.out⟩
theorem row_bounds {kd : IntKind} {W : World} {a : Option Addr} {len cap : Nat} {zs : List Int} (z : IsRow kd W a len cap zs) : len ≤ cap ∧ cap ≤ maxLen ∧ zs.length = cap := by
  rcases z with ⟨_, rfl, rfl, rfl⟩ | ⟨x, rfl, hl, hm, hz, hc, hw⟩
  · simp [maxLen]
  · exact ⟨hl, hm, hz⟩

/-- An array of integers that came in by value. -/
theorem arr_open {H : Type} {enc : TypeId × Value → H} {P : Program} {w : World} {t e : TypeId} {k : IntKind} {n : Nat} {cs : Array Value} {d : DataW H} {p : List MemPlace} {held : Bool}
    (ht : P.underlying t = some (.array n e)) (he : P.underlying e = some (.int k)) (hc : P.cellsOf e = 1) (hC : P.cellsOf t = n) (hsz : cs.size = P.cellsOf t) (h : DataW.Trod enc P w 0 (fun _ => true) held t (.agg cs) d p) :
    ∃ zs : List Int, zs.length = n ∧ cs = (zs.map (Value.int k)).toArray ∧ ∀ z ∈ zs, (Lit.int k z).wf = true := by
  obtain ⟨fuel, hf⟩ := h
  obtain ⟨xs, m, _, _, hl, hxs, hx⟩ := DataW.trod_array ht hf
  have hcs : (Value.agg cs).cells.toList = cs.toList := rfl
  have key : ∀ i, i < n → ∃ z : Int, cs.toList[i]? = some (.int k z) ∧ (Lit.int k z).wf = true := by
    intro i hi
    have h1 := hx i hi
    rw [hc, Nat.mul_one] at h1
    rw [List.getElem?_eq_getElem (by omega)] at h1
    obtain ⟨z, hz, _, hw⟩ := DataW.trod_int he h1
    refine ⟨z, ?_, hw⟩
    have h2 : ((Value.agg cs).cells.toList.drop i).take 1 = [.int k z] := hz
    rw [hcs] at h2
    have h3 := congrArg (fun l => l[0]?) h2
    simpa [List.getElem?_take, List.getElem?_drop] using h3
  obtain ⟨F, hF⟩ := Deep.choose_lt (α := Int) (p := fun i z => cs.toList[i]? = some (.int k z) ∧ (Lit.int k z).wf = true) key
  refine ⟨(List.range n).map F, by simp, ?_, ?_⟩
  · apply Array.ext'
    apply List.ext_getElem?
    intro i
    by_cases hi : i < n
    · rw [(hF i hi).1]; simp [hi]
    · have : cs.toList.length = n := by rw [Array.length_toList, hsz, hC]
      rw [List.getElem?_eq_none (by omega)]; simp [hi]
  · intro z hz
    obtain ⟨i, hi, rfl⟩ := List.mem_map.1 hz
    exact (hF i (List.mem_range.1 hi)).2

/-- A slice of records that came in: of each its cells. -/
def IsRecs (w : World) (a : Option Addr) (len cap size : Nat) (ok : List Value → Prop) (xs : List (List Value)) : Prop :=
  (a = none ∧ len = 0 ∧ cap = 0 ∧ xs = []) ∨
  ∃ x, a = some x ∧ len ≤ cap ∧ cap ≤ maxLen ∧ xs.length = len ∧ ∀ i, i < len → ∃ cs, xs[i]? = some cs ∧ cs.length = size ∧ ok cs ∧ ∀ j, j < size → w.cell? ((x.add (i * size)).add j) = cs[j]?

theorem isRecs_open {H : Type} {enc : TypeId × Value → H} {P : Program} {w : World} {t e : TypeId} {a : Option Addr} {len cap size : Nat} {d : DataW H} {p : List MemPlace} {held : Bool} {ok : List Value → Prop}
    (ht : P.underlying t = some (.slice e)) (hc : P.cellsOf e = size) (hok : ∀ fuel cs x, DataW.trod enc P w 0 (fun _ => true) held fuel e cs = some x → ok cs)
    (h : DataW.Trod enc P w 0 (fun _ => true) held t (.slice a len cap) d p) : ∃ xs, IsRecs w a len cap size ok xs := by
  obtain ⟨fuel, hf⟩ := h
  rcases Deep.open_slice ht hf with ⟨hcs, _⟩ | ⟨x, l, c, m, n, D, Pl, hcs, _, hl, hcm, hm, _, hx⟩
  · simp [Value.cells] at hcs
    obtain ⟨rfl, rfl, rfl⟩ := hcs
    exact ⟨[], .inl ⟨rfl, rfl, rfl, rfl⟩⟩
  · simp [Value.cells] at hcs
    obtain ⟨rfl, rfl, rfl⟩ := hcs
    have hm' : len ≤ m := by rw [hm]; simpa using hl
    obtain ⟨F, hF⟩ := Deep.choose_lt (α := List Value) (p := fun i cs => w.cells? 0 (x.add (i * P.cellsOf e)) (P.cellsOf e) = some cs ∧ DataW.trod enc P w 0 (fun _ => true) held n e cs = some (D i, Pl i)) hx
    refine ⟨(List.range len).map F, .inr ⟨x, rfl, hl, hcm, by simp, fun i hi => ?_⟩⟩
    obtain ⟨h1, h2⟩ := hF i (by omega)
    rw [hc] at h1
    obtain ⟨_, h3, h4⟩ := World.cells?_some h1
    exact ⟨F i, by simp [hi], h3, hok _ _ _ h2, h4⟩

theorem rec_at {W : World} {a : Option Addr} {len cap size : Nat} {ok : List Value → Prop} {xs : List (List Value)} (z : IsRecs W a len cap size ok xs) (hs : 0 < size) (i : Nat) (hi : i < len) :
    ∃ g o cs, a = some ⟨g, o, none⟩ ∧ xs[i]? = some cs ∧ cs.length = size ∧ ok cs ∧ ∀ j, j < size → Hid (W.cell? ⟨g, o + i * size + j, none⟩ = cs[j]?) := by
  rcases z with ⟨_, rfl, _⟩ | ⟨x, rfl, hl, hm, hx, hc⟩
  · omega
  · obtain ⟨b, off, spot⟩ := x
    have hsp : spot = none := by
      obtain ⟨cs, h1, h2, h3, h4⟩ := hc 0 (by omega)
      have hq := h4 0 hs
      rw [List.getElem?_eq_getElem (by omega)] at hq
      simpa [Addr.add] using World.cell?_spot hq
    obtain ⟨cs, h1, h2, h3, h4⟩ := hc i hi
    subst hsp
    refine ⟨b, off, cs, rfl, h1, h2, h3, fun j hj => ?_⟩
    have := h4 j hj
    rw [Addr.add_lit, Addr.add_lit] at this
    exact this

end Go.Proofs.Ytlilogcojeoelaa
