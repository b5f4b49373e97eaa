/- What a law is handed: structs and slices of structs with strings, none of which is larger than there is room. -/
import Derived.Test.YtlilogcojeoelaaRw
namespace Go.Proofs.Ytlilogcojeoelaa
set_option linter.all false
open Go Go.RowKit

/-- None of its strings is larger than there is room. -/
def okWt {H : Type} (P : Program) (t : TypeId) (d : DataW H) : Prop := ∀ n ∈ d.weights P t, n ≤ 140737488351232

section
variable {H : Type} {enc : TypeId × Value → H} {P : Program} {w : World} {base : Nat} {spare : Nat → Bool} {held : Bool}
theorem wt_of {ts : List TypeId} {ds : List (DataW H)} {j : Nat} {t : TypeId} {d : DataW H} (hsz : (DataW.weightsEach P ts ds).all (· ≤ reachBytes) = true) (ht : ts[j]? = some t) (hd : ds[j]? = some d) : okWt P t d := by
  intro n hn
  have := List.all_eq_true.1 hsz _ (DataW.weights_mem_each ht hd n hn)
  simp only [decide_eq_true_eq] at this
  exact Nat.le_trans this (by decide)
theorem wt_string {t : TypeId} {l : List UInt8} (h : okWt P t (DataW.lit (H := H) (.string l))) : l.length ≤ 140737488351232 := h _ (by simp [DataW.weights])
theorem wt_part {t : TypeId} {fs : Array Field} {parts : List (DataW H)} (ht : P.underlying t = some (.struct fs)) (h : okWt P t (.agg parts)) {i : Nat} {f : Field} {d : DataW H} (hf : fs[i]? = some f) (hd : parts[i]? = some d) : okWt P f.type d := by
  intro n hn
  refine h n ?_
  rw [DataW.weights, ht]
  exact DataW.weights_mem_each (ts := fs.toList.map (·.type)) (j := i) (t := f.type) (by simp [hf]) hd n hn
theorem wt_all {e : TypeId} {ds : List (DataW H)} {d : DataW H} (hd : d ∈ ds) {n : Nat} (hn : n ∈ d.weights P e) : n ∈ DataW.weightsAll P e ds := by
  induction ds with
  | nil => cases hd
  | cons x r ih =>
    rw [DataW.weightsAll, List.mem_append]
    rcases List.mem_cons.1 hd with rfl | hd
    · exact .inl hn
    · exact .inr (ih hd)
theorem wt_elem {t e : TypeId} {elems sp : List (DataW H)} (ht : P.underlying t = some (.slice e)) (h : okWt P t (.slice elems sp)) {d : DataW H} (hd : d ∈ elems) : okWt P e d := by
  intro n hn
  refine h n ?_
  rw [DataW.weights, ht]
  simp only [List.mem_cons, List.mem_append]
  exact .inr (.inl (wt_all hd hn))

theorem trod_struct4 {t : TypeId} {f0 f1 f2 f3 : Field} {fuel : Nat} {cs : List Value} {x : DataW H × List MemPlace} (ht : P.underlying t = some (.struct #[f0, f1, f2, f3])) (h : DataW.trod enc P w base spare held fuel t cs = some x) :
    ∃ y0 y1 y2 y3 n, x.1 = .agg [y0.1, y1.1, y2.1, y3.1] ∧ cs.length = P.cellsOf t ∧ DataW.trod enc P w base spare held n f0.type ((cs.drop f0.offset).take (P.cellsOf f0.type)) = some y0 ∧
      DataW.trod enc P w base spare held n f1.type ((cs.drop f1.offset).take (P.cellsOf f1.type)) = some y1 ∧ DataW.trod enc P w base spare held n f2.type ((cs.drop f2.offset).take (P.cellsOf f2.type)) = some y2 ∧
      DataW.trod enc P w base spare held n f3.type ((cs.drop f3.offset).take (P.cellsOf f3.type)) = some y3 := by
  obtain ⟨xs, n, _, rfl, hl, hlen, hf⟩ := DataW.trod_struct ht h
  match xs, hlen with
  | [y0, y1, y2, y3], _ => exact ⟨y0, y1, y2, y3, n, rfl, hl, by simpa using hf 0 f0 rfl, by simpa using hf 1 f1 rfl, by simpa using hf 2 f2 rfl, by simpa using hf 3 f3 rfl⟩

theorem isRecs_openW {t e : TypeId} {a : Option Addr} {len cap size : Nat} {d : DataW H} {p : List MemPlace} {ok : List Value → Prop}
    (ht : P.underlying t = some (.slice e)) (hc : P.cellsOf e = size) (hok : ∀ fuel cs x, DataW.trod enc P w 0 (fun _ => true) held fuel e cs = some x → okWt P e x.1 → ok cs) (hw : okWt P t d)
    (h : DataW.Trod enc P w 0 (fun _ => true) held t (.slice a len cap) d p) : ∃ xs, IsRecs w a len cap size ok xs := by
  obtain ⟨fuel, hf⟩ := h
  rcases Deep.open_slice ht hf with ⟨hcs, _⟩ | ⟨x, l, c, m, n, D, Pl, hcs, _, hl, hcm, hm, hd, hx⟩
  · simp [Value.cells] at hcs
    obtain ⟨rfl, rfl, rfl⟩ := hcs
    exact ⟨[], .inl ⟨rfl, rfl, rfl, rfl⟩⟩
  · simp [Value.cells] at hcs
    obtain ⟨rfl, rfl, rfl⟩ := hcs
    obtain ⟨hd, _⟩ := Prod.mk.inj hd
    subst hd
    have hm' : len ≤ m := by rw [hm]; simpa using hl
    obtain ⟨F, hF⟩ := Deep.choose_lt (α := List Value) (p := fun i cs => w.cells? 0 (x.add (i * P.cellsOf e)) (P.cellsOf e) = some cs ∧ DataW.trod enc P w 0 (fun _ => true) held n e cs = some (D i, Pl i)) hx
    refine ⟨(List.range len).map F, .inr ⟨x, rfl, hl, hcm, by simp, fun i hi => ?_⟩⟩
    obtain ⟨h1, h2⟩ := hF i (by omega)
    rw [hc] at h1
    obtain ⟨_, h3, h4⟩ := World.cells?_some h1
    exact ⟨F i, by simp [hi], h3, hok _ _ _ h2 (wt_elem ht hw (List.mem_map.2 ⟨i, List.mem_range.2 hi, rfl⟩)), h4⟩
end

end Go.Proofs.Ytlilogcojeoelaa
