/- What the laws of the sets are handed: slices of strings, of tokens. -/
import Derived.Test.YtoeepbjnbgpmpaaStKn
import Derived.Below
import Derived.Deep.CutBlock
namespace Go.Proofs.Ytoeepbjnbgpmpaa
set_option linter.all false
open Go Go.RowKit

def okStr (cs : List Value) : Prop := ∃ s : ByteArray, cs = [.string s] ∧ s.size ≤ 140737488351232
theorem openStrs {H : Type} {enc : TypeId × Value → H} {W : World} {a : Option Addr} {len cap : Nat} {d : DataW H} {p : List MemPlace} {held : Bool} (hw : okWt Try.prog 52 d)
    (h : DataW.Trod enc Try.prog W 0 (fun _ => true) held 52 (.slice a len cap) d p) : ∃ xs, IsRecs W a len cap 1 okStr xs := by
  refine isRecs_openW Try.underlying52 (by kernel_rfl) (fun fuel cs x hx hwx => ?_) hw h
  obtain ⟨b, e, g, _⟩ := DataW.trod_string Try.underlying9 hx
  rw [g] at hwx
  have s2 := wt_string hwx
  exact ⟨b, e, by rw [show b.size = b.data.toList.length by simp]; exact s2⟩

/-- The strings that came in. -/
theorem strs_in {W : World} {a : Option Addr} {len cap : Nat} {xs : List (List Value)} (z : IsRecs W a len cap 1 okStr xs) :
    ∃ l : List ByteArray, l.length = len ∧ (∀ s ∈ l, s.size ≤ 140737488351232) ∧ ∃ g o, (l ≠ [] → a = some ⟨g, o, none⟩) ∧ ∀ j (hj : j < l.length), W.cell? ⟨g, o + j, none⟩ = some (.string l[j]) := by
  rcases z with ⟨rfl, rfl, rfl, rfl⟩ | ⟨x, rfl, hl, hm, hx, hc⟩
  · exact ⟨[], rfl, by simp, 0, 0, fun h => absurd rfl h, fun j hj => by cases hj⟩
  · obtain ⟨F, hF⟩ := Deep.choose_lt (α := ByteArray) (p := fun i s => s.size ≤ 140737488351232 ∧ W.cell? ((x.add (i * 1)).add 0) = some (.string s)) (n := len) (by
      intro i hi
      obtain ⟨cs, _, _, ⟨s, rfl, hs⟩, h2⟩ := hc i hi
      exact ⟨s, hs, h2 0 (by omega)⟩)
    obtain ⟨b, off, spot⟩ := x
    refine ⟨(List.range len).map F, by simp, ?_, b, off, ?_, ?_⟩
    · intro s hs
      obtain ⟨i, hi, rfl⟩ := List.mem_map.1 hs
      exact (hF i (List.mem_range.1 hi)).1
    · intro hne
      have hp : 0 < len := by
        cases len with
        | zero => simp at hne
        | succ n => omega
      have h0 := (hF 0 hp).2
      have : spot = none := by simpa [Addr.add] using World.cell?_spot h0
      subst this; rfl
    · intro j hj
      have hj' : j < len := by simpa using hj
      have h0 := (hF j hj').2
      have h1 := (hF 0 (by omega)).2
      have : spot = none := by simpa [Addr.add] using World.cell?_spot h1
      subst this
      simp only [Nat.mul_one] at h0
      rw [Addr.add_lit, Addr.add_lit] at h0
      simpa using h0
theorem rd_in {W : World} {a : Option Addr} {l : List ByteArray} (h : ∃ g o, (l ≠ [] → a = some ⟨g, o, none⟩) ∧ ∀ j (hj : j < l.length), W.cell? ⟨g, o + j, none⟩ = some (.string l[j])) (k : Env) : Rd k (whole W) a l := by
  obtain ⟨g, o, h1, h2⟩ := h
  exact ⟨g, o, h1, fun w' h' j hj => whole_cell h' (h2 j hj)⟩

section
variable {H : Type} {enc : TypeId × Value → H} {P : Program} {w : World} {base : Nat} {spare : Nat → Bool} {held : Bool}
theorem trod_struct3 {t : TypeId} {f0 f1 f2 : Field} {fuel : Nat} {cs : List Value} {x : DataW H × List MemPlace} (ht : P.underlying t = some (.struct #[f0, f1, f2])) (h : DataW.trod enc P w base spare held fuel t cs = some x) :
    ∃ y0 y1 y2 n, x.1 = .agg [y0.1, y1.1, y2.1] ∧ cs.length = P.cellsOf t ∧ DataW.trod enc P w base spare held n f0.type ((cs.drop f0.offset).take (P.cellsOf f0.type)) = some y0 ∧
      DataW.trod enc P w base spare held n f1.type ((cs.drop f1.offset).take (P.cellsOf f1.type)) = some y1 ∧ DataW.trod enc P w base spare held n f2.type ((cs.drop f2.offset).take (P.cellsOf f2.type)) = some y2 := by
  obtain ⟨xs, n, _, rfl, hl, hlen, hf⟩ := DataW.trod_struct ht h
  match xs, hlen with
  | [y0, y1, y2], _ => exact ⟨y0, y1, y2, n, rfl, hl, by simpa using hf 0 f0 rfl, by simpa using hf 1 f1 rfl, by simpa using hf 2 f2 rfl⟩
end
def okTok (cs : List Value) : Prop := ∃ x : Tok, cs = tokc x ∧ x.t.size ≤ 140737488351232
theorem len3 {α : Type} {l : List α} (h : l.length = 3) : ∃ a b c, l = [a, b, c] := by
  match l, h with
  | [a, b, c], _ => exact ⟨a, b, c, rfl⟩
set_option maxRecDepth 100000 in
theorem openToken {H : Type} {enc : TypeId × Value → H} {W : World} {a : Option Addr} {len cap : Nat} {d : DataW H} {p : List MemPlace} {held : Bool} (hw : okWt Try.prog 22 d)
    (h : DataW.Trod enc Try.prog W 0 (fun _ => true) held 22 (.slice a len cap) d p) : ∃ xs, IsRecs W a len cap 3 okTok xs := by
  refine isRecs_openW Try.underlying22 (by kernel_rfl) (fun fuel cs x hx hwx => ?_) hw h
  obtain ⟨y0, y1, y2, n, hx1, hl, h0, h1, h2⟩ := trod_struct3 Try.underlying27 hx
  rw [hx1] at hwx
  obtain ⟨a, e0, g0, w0⟩ := DataW.trod_int Try.underlying3 h0
  obtain ⟨b, e1, g1, w1⟩ := DataW.trod_string Try.underlying9 h1
  obtain ⟨c, e2, g2, w2⟩ := DataW.trod_int Try.underlying3 h2
  subst g1
  have s1 := wt_string (wt_part Try.underlying27 hwx (i := 1) rfl rfl)
  have hc : Try.prog.cellsOf 27 = 3 := by kernel_rfl
  have hi : Try.prog.cellsOf 3 = 1 := by kernel_rfl
  have hs : Try.prog.cellsOf 9 = 1 := by kernel_rfl
  rw [hc] at hl
  simp only [hi, hs] at e0 e1 e2
  clear h0 h1 h2 hx hwx hx1 h hw
  obtain ⟨c0, c1, c2, rfl⟩ := len3 hl
  have e0' : c0 = _ := List.head_eq_of_cons_eq e0
  have e1' : c1 = _ := List.head_eq_of_cons_eq e1
  have e2' : c2 = _ := List.head_eq_of_cons_eq e2
  subst e0' e1' e2'
  exact ⟨⟨a, b, c⟩, rfl, by rw [show b.size = b.data.toList.length by simp]; exact s1⟩
/-- The tokens that came in. -/
theorem toks_in {W : World} {a : Option Addr} {len cap : Nat} {xs : List (List Value)} (z : IsRecs W a len cap 3 okTok xs) :
    ∃ l : List Tok, l.length = len ∧ len ≤ cap ∧ cap ≤ maxLen ∧ (∀ x ∈ l, x.t.size ≤ 140737488351232) ∧ ∀ k, RdT k (whole W) a l := by
  rcases z with ⟨rfl, rfl, rfl, rfl⟩ | ⟨x, rfl, hl, hm, hx, hc⟩
  · exact ⟨[], rfl, Nat.le_refl _, by simp [maxLen], by simp, fun k => rdt_nil k _ _⟩
  · have inh : Inhabited Tok := ⟨⟨0, ⟨#[]⟩, 0⟩⟩
    obtain ⟨F, hF⟩ := Deep.choose_lt (α := Tok) (p := fun i s => s.t.size ≤ 140737488351232 ∧ ∀ j, j < 3 → W.cell? ((x.add (i * 3)).add j) = (tokc s)[j]?) (n := len) (by
      intro i hi
      obtain ⟨cs, _, _, ⟨s, rfl, hs⟩, h2⟩ := hc i hi
      exact ⟨s, hs, h2⟩)
    obtain ⟨b, off, spot⟩ := x
    refine ⟨(List.range len).map F, by simp, hl, hm, ?_, fun k => ⟨b, off, ?_, ?_⟩⟩
    · intro s hs
      obtain ⟨i, hi, rfl⟩ := List.mem_map.1 hs
      exact (hF i (List.mem_range.1 hi)).1
    · intro hne
      have hp : 0 < len := by
        cases len with
        | zero => simp at hne
        | succ n => omega
      have h0 := (hF 0 hp).2 0 (by omega)
      have : spot = none := by simpa [Addr.add] using World.cell?_spot h0
      subst this; rfl
    · intro w' h' j hj
      have hj' : j < len := by simpa using hj
      have h1 := (hF 0 (by omega)).2 0 (by omega)
      have : spot = none := by simpa [Addr.add] using World.cell?_spot h1
      subst this
      have g0 := (hF j hj').2 0 (by omega)
      have g1 := (hF j hj').2 1 (by omega)
      have g2 := (hF j hj').2 2 (by omega)
      rw [Addr.add_lit, Addr.add_lit] at g0 g1 g2
      have e : ((List.range len).map F)[j] = F j := by simp
      rw [e]
      exact ⟨whole_cell h' g0, whole_cell h' g1, whole_cell h' g2⟩

end Go.Proofs.Ytoeepbjnbgpmpaa
