/- What the laws of the state are handed: tables. -/
import Derived.Test.YtoeepbjnbgpmpaaStLw
namespace Go.Proofs.Ytoeepbjnbgpmpaa
set_option linter.all false
open Go Go.RowKit

section
variable {H : Type} {enc : TypeId × Value → H} {P : Program} {w : World} {base : Nat} {spare : Nat → Bool} {held : Bool}
theorem trod_struct2 {t : TypeId} {f0 f1 : Field} {fuel : Nat} {cs : List Value} {x : DataW H × List MemPlace} (ht : P.underlying t = some (.struct #[f0, f1])) (h : DataW.trod enc P w base spare held fuel t cs = some x) :
    ∃ y0 y1 n, x.1 = .agg [y0.1, y1.1] ∧ cs.length = P.cellsOf t ∧ DataW.trod enc P w base spare held n f0.type ((cs.drop f0.offset).take (P.cellsOf f0.type)) = some y0 ∧
      DataW.trod enc P w base spare held n f1.type ((cs.drop f1.offset).take (P.cellsOf f1.type)) = some y1 := by
  obtain ⟨xs, n, _, rfl, hl, hlen, hf⟩ := DataW.trod_struct ht h
  match xs, hlen with
  | [y0, y1], _ => exact ⟨y0, y1, n, rfl, hl, by simpa using hf 0 f0 rfl, by simpa using hf 1 f1 rfl⟩
theorem slice_cell8 {t e : TypeId} {fuel : Nat} {cs : List Value} {y : DataW H × List MemPlace} (ht : P.underlying t = some (.slice e)) (h : DataW.trod enc P w 0 (fun _ => true) held fuel t cs = some y) : ∃ a l c, cs = [.slice a l c] := by
  rcases Deep.open_slice ht h with ⟨rfl, _⟩ | ⟨a, len, cap, _, _, _, _, rfl, _⟩
  · exact ⟨_, _, _, rfl⟩
  · exact ⟨_, _, _, rfl⟩
end
theorem len2 {α : Type} {l : List α} (h : l.length = 2) : ∃ a b, l = [a, b] := by
  match l, h with
  | [a, b], _ => exact ⟨a, b, rfl⟩
def okRw (cs : List Value) : Prop := ∃ x : Rw2, cs = rwc x
theorem openRows {H : Type} {enc : TypeId × Value → H} {W : World} {a : Option Addr} {len cap : Nat} {d : DataW H} {p : List MemPlace} {held : Bool}
    (h : DataW.Trod enc Try.prog W 0 (fun _ => true) held 36 (.slice a len cap) d p) : ∃ xs, IsRecs W a len cap 2 okRw xs := by
  refine isRecs_open Try.underlying36 (by kernel_rfl) (fun fuel cs x hx => ?_) h
  obtain ⟨y0, y1, n, hx1, hl, h0, h1⟩ := trod_struct2 Try.underlying45 hx
  obtain ⟨a0, e0, _, _⟩ := DataW.trod_int Try.underlying3 h0
  obtain ⟨a1, e1, _, _⟩ := DataW.trod_int Try.underlying3 h1
  have hc : Try.prog.cellsOf 45 = 2 := by kernel_rfl
  have hi : Try.prog.cellsOf 3 = 1 := by kernel_rfl
  rw [hc] at hl
  simp only [hi] at e0 e1
  clear h0 h1 hx hx1 h
  obtain ⟨c0, c1, rfl⟩ := len2 hl
  have e0' : c0 = _ := List.head_eq_of_cons_eq e0
  have e1' : c1 = _ := List.head_eq_of_cons_eq e1
  subst e0' e1'
  exact ⟨(a0, a1), rfl⟩
theorem rows_in {W : World} {a : Option Addr} {len cap : Nat} {xs : List (List Value)} (z : IsRecs W a len cap 2 okRw xs) :
    ∃ l : List Rw2, l.length = len ∧ len ≤ cap ∧ ∀ k, RdR k (whole W) a l := by
  rcases z with ⟨rfl, rfl, rfl, rfl⟩ | ⟨x, rfl, hl, hm, hx, hc⟩
  · exact ⟨[], rfl, Nat.le_refl _, fun k => rdr_nil k _ _⟩
  · obtain ⟨F, hF⟩ := Deep.choose_lt (α := Rw2) (p := fun i s => ∀ j, j < 2 → W.cell? ((x.add (i * 2)).add j) = (rwc s)[j]?) (n := len) (by
      intro i hi
      obtain ⟨cs, _, _, ⟨s, rfl⟩, h2⟩ := hc i hi
      exact ⟨s, h2⟩)
    obtain ⟨b, off, spot⟩ := x
    refine ⟨(List.range len).map F, by simp, hl, fun k => ⟨b, off, ?_, ?_⟩⟩
    · intro hne
      have hp : 0 < len := by
        cases len with
        | zero => simp at hne
        | succ n => omega
      have h0 := hF 0 hp 0 (by omega)
      have : spot = none := by simpa [Addr.add] using World.cell?_spot h0
      subst this; rfl
    · intro w' h' j hj
      have hj' : j < len := by simpa using hj
      have h1 := hF 0 (by omega) 0 (by omega)
      have : spot = none := by simpa [Addr.add] using World.cell?_spot h1
      subst this
      have g0 := hF j hj' 0 (by omega)
      have g1 := hF j hj' 1 (by omega)
      rw [Addr.add_lit, Addr.add_lit] at g0 g1
      have e : ((List.range len).map F)[j] = F j := by simp
      rw [e]
      exact ⟨whole_cell h' g0, whole_cell h' g1⟩
def okTabF (W : World) (cs : List Value) : Prop := ∃ (nm : ByteArray) (a : Option Addr) (l c : Nat), cs = [.string nm, .slice a l c] ∧ nm.size ≤ 140737488351232 ∧ ∃ xs, IsRecs W a l c 2 okRw xs
theorem openTable {H : Type} {enc : TypeId × Value → H} {W : World} {a : Option Addr} {len cap : Nat} {d : DataW H} {p : List MemPlace} {held : Bool} (hw : okWt Try.prog 32 d)
    (h : DataW.Trod enc Try.prog W 0 (fun _ => true) held 32 (.slice a len cap) d p) : ∃ xs, IsRecs W a len cap 2 (okTabF W) xs := by
  refine isRecs_openW Try.underlying32 (by kernel_rfl) (fun fuel cs x hx hwx => ?_) hw h
  obtain ⟨y0, y1, n, hx1, hl, h0, h1⟩ := trod_struct2 Try.underlying43 hx
  rw [hx1] at hwx
  obtain ⟨b, e0, g0, _⟩ := DataW.trod_string Try.underlying9 h0
  obtain ⟨ra, rn, rc, e1⟩ := slice_cell8 Try.underlying36 h1
  subst g0
  have s0 := wt_string (wt_part Try.underlying43 hwx (i := 0) rfl rfl)
  rw [e1] at h1
  have o1 := openRows ⟨_, h1⟩
  have hc : Try.prog.cellsOf 43 = 2 := by kernel_rfl
  have hs : Try.prog.cellsOf 9 = 1 := by kernel_rfl
  have hsl : Try.prog.cellsOf 36 = 1 := by kernel_rfl
  rw [hc] at hl
  simp only [hs, hsl] at e0 e1
  clear h0 h1 hx hwx hx1 h hw
  obtain ⟨c0, c1, rfl⟩ := len2 hl
  have e0' : c0 = _ := List.head_eq_of_cons_eq e0
  have e1' : c1 = _ := List.head_eq_of_cons_eq e1
  subst e0' e1'
  exact ⟨b, ra, rn, rc, rfl, by rw [show b.size = b.data.toList.length by simp]; exact s0, o1⟩
/-- The tables that came in. -/
theorem tabs_in {W : World} {a : Option Addr} {len cap : Nat} {xs : List (List Value)} (z : IsRecs W a len cap 2 (okTabF W) xs) :
    ∃ P : List TbM, P.length = len ∧ len ≤ cap ∧ (∀ p ∈ P, p.nm.size ≤ 140737488351232 ∧ p.rows.length ≤ p.c) ∧ ∀ k, RdS k (whole W) a P := by
  rcases z with ⟨rfl, rfl, rfl, rfl⟩ | ⟨x, rfl, hl, hm, hx, hc⟩
  · exact ⟨[], rfl, Nat.le_refl _, by simp, fun k => rds_nil k _ _⟩
  · have inh : Inhabited TbM := ⟨zT⟩
    obtain ⟨F, hF⟩ := Deep.choose_lt (α := TbM) (p := fun i s => (s.nm.size ≤ 140737488351232 ∧ s.rows.length ≤ s.c) ∧ (∀ k, RdR k (whole W) s.a s.rows) ∧ ∀ j, j < 2 → W.cell? ((x.add (i * 2)).add j) = (tbc s)[j]?) (n := len) (by
      intro i hi
      obtain ⟨cs, _, _, ⟨nm, ra, rl, rc, rfl, hs, ys, hy⟩, h2⟩ := hc i hi
      obtain ⟨l, rfl, hlc, hr⟩ := rows_in hy
      exact ⟨⟨nm, ra, rc, l⟩, ⟨hs, hlc⟩, hr, h2⟩)
    obtain ⟨b, off, spot⟩ := x
    refine ⟨(List.range len).map F, by simp, hl, ?_, fun k => ⟨⟨b, off, ?_, ?_⟩, ?_⟩⟩
    · intro s hs
      obtain ⟨i, hi, rfl⟩ := List.mem_map.1 hs
      exact (hF i (List.mem_range.1 hi)).1
    · intro hne
      have hp : 0 < len := by
        cases len with
        | zero => simp at hne
        | succ n => omega
      have h0 := (hF 0 hp).2.2 0 (by omega)
      have : spot = none := by simpa [Addr.add] using World.cell?_spot h0
      subst this; rfl
    · intro w' h' j hj
      have hj' : j < len := by simpa using hj
      have h1 := (hF 0 (by omega)).2.2 0 (by omega)
      have : spot = none := by simpa [Addr.add] using World.cell?_spot h1
      subst this
      have g0 := (hF j hj').2.2 0 (by omega)
      have g1 := (hF j hj').2.2 1 (by omega)
      rw [Addr.add_lit, Addr.add_lit] at g0 g1
      have e : ((List.range len).map F)[j] = F j := by simp
      rw [e]
      exact ⟨whole_cell h' g0, whole_cell h' g1⟩
    · intro s hs
      obtain ⟨i, hi, rfl⟩ := List.mem_map.1 hs
      exact (hF i (List.mem_range.1 hi)).2.1 k

end Go.Proofs.Ytoeepbjnbgpmpaa
