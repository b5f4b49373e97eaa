/- What the laws of the state are handed: commands. -/
import Derived.Test.YtoeepbjnbgpmpaaSetsV
namespace Go.Proofs.Ytoeepbjnbgpmpaa
set_option linter.all false
open Go Go.RowKit

section
variable {H : Type} {enc : TypeId × Value → H} {P : Program} {w : World} {base : Nat} {spare : Nat → Bool} {held : Bool}
theorem trod_struct5 {t : TypeId} {f0 f1 f2 f3 f4 : Field} {fuel : Nat} {cs : List Value} {x : DataW H × List MemPlace} (ht : P.underlying t = some (.struct #[f0, f1, f2, f3, f4])) (h : DataW.trod enc P w base spare held fuel t cs = some x) :
    ∃ y0 y1 y2 y3 y4 n, x.1 = .agg [y0.1, y1.1, y2.1, y3.1, y4.1] ∧ cs.length = P.cellsOf t ∧ DataW.trod enc P w base spare held n f0.type ((cs.drop f0.offset).take (P.cellsOf f0.type)) = some y0 ∧
      DataW.trod enc P w base spare held n f1.type ((cs.drop f1.offset).take (P.cellsOf f1.type)) = some y1 ∧ DataW.trod enc P w base spare held n f2.type ((cs.drop f2.offset).take (P.cellsOf f2.type)) = some y2 ∧
      DataW.trod enc P w base spare held n f3.type ((cs.drop f3.offset).take (P.cellsOf f3.type)) = some y3 ∧ DataW.trod enc P w base spare held n f4.type ((cs.drop f4.offset).take (P.cellsOf f4.type)) = some y4 := by
  obtain ⟨xs, n, _, rfl, hl, hlen, hf⟩ := DataW.trod_struct ht h
  match xs, hlen with
  | [y0, y1, y2, y3, y4], _ => exact ⟨y0, y1, y2, y3, y4, n, rfl, hl, by simpa using hf 0 f0 rfl, by simpa using hf 1 f1 rfl, by simpa using hf 2 f2 rfl, by simpa using hf 3 f3 rfl, by simpa using hf 4 f4 rfl⟩
end
theorem len5 {α : Type} {l : List α} (h : l.length = 5) : ∃ a b c d e, l = [a, b, c, d, e] := by
  match l, h with
  | [a, b, c, d, e], _ => exact ⟨a, b, c, d, e, rfl⟩
def okCm (y : CmdM) : Prop := y.tb.size ≤ 140737488351232
theorem openCmd {H : Type} {enc : TypeId × Value → H} {W : World} {held : Bool} {cs : Array Value} {d : DataW H} {p : List MemPlace}
    (hw : okWt Try.prog 24 d) (h : DataW.Trod enc Try.prog W 0 (fun _ => true) held 24 (.agg cs) d p) : ∃ z : CmdM, cs = (cmc z).toArray ∧ okCm z := by
  obtain ⟨fuel, h⟩ := h
  obtain ⟨y0, y1, y2, y3, y4, n, hx, hl, h0, h1, h2, h3, h4⟩ := trod_struct5 Try.underlying24 h
  simp only at hx
  obtain ⟨a, e0, g0, w0⟩ := DataW.trod_int Try.underlying3 h0
  obtain ⟨b, e1, g1, w1⟩ := DataW.trod_string Try.underlying9 h1
  obtain ⟨c, e2, g2, w2⟩ := DataW.trod_int Try.underlying3 h2
  obtain ⟨f, e3, g3, w3⟩ := DataW.trod_int Try.underlying3 h3
  obtain ⟨q, e4, g4⟩ := DataW.trod_bool Try.underlying4 h4
  subst g0 g1 g2 g3 g4
  subst hx
  have s1 := wt_string (wt_part Try.underlying24 hw (i := 1) rfl rfl)
  have hc : Try.prog.cellsOf 24 = 5 := by kernel_rfl
  have hi : Try.prog.cellsOf 3 = 1 := by kernel_rfl
  have hs : Try.prog.cellsOf 9 = 1 := by kernel_rfl
  have hb : Try.prog.cellsOf 4 = 1 := by kernel_rfl
  have hl' : cs.toList.length = 5 := hl.trans hc
  simp only [hi, hs, hb] at e0 e1 e2 e3 e4
  have hcs : cs = cs.toList.toArray := by simp
  obtain ⟨c0, c1, c2, c3, c4, hcl⟩ := len5 hl'
  have hcv : (Value.agg cs).cells.toList = [c0, c1, c2, c3, c4] := hcl
  rw [hcv] at e0 e1 e2 e3 e4
  have e0' : c0 = _ := List.head_eq_of_cons_eq e0
  have e1' : c1 = _ := List.head_eq_of_cons_eq e1
  have e2' : c2 = _ := List.head_eq_of_cons_eq e2
  have e3' : c3 = _ := List.head_eq_of_cons_eq e3
  have e4' : c4 = _ := List.head_eq_of_cons_eq e4
  refine ⟨⟨a, b, c, f, q⟩, ?_, ?_⟩
  · rw [hcs, hcl, e0', e1', e2', e3', e4']; rfl
  · show b.size ≤ _
    rw [show b.size = b.data.toList.length by simp]; exact s1

end Go.Proofs.Ytoeepbjnbgpmpaa
