/- What the laws are handed: keys. -/
import Derived.Test.YtbeidnddahglbaaKeyC
import Derived.Test.YtbeidnddahglbaaMA
import Derived.Test.YtbeidnddahglbaaCacheD
namespace Go.Proofs.Ytbeidnddahglbaa
set_option linter.all false
open Go Go.RowKit

theorem len4 {α : Type} {l : List α} (h : l.length = 4) : ∃ a b c d, l = [a, b, c, d] := by
  match l, h with
  | [a, b, c, d], _ => exact ⟨a, b, c, d, rfl⟩
def okKy (y : Ky) : Prop := y.db.size ≤ 140737488351232 ∧ y.ro.size ≤ 140737488351232 ∧ y.nm.size ≤ 140737488351232 ∧ (Lit.int .i64 y.fm).wf = true

theorem openKy {H : Type} {enc : TypeId × Value → H} {W : World} {held : Bool} {fuel : Nat} {cs : List Value} {x : DataW H × List MemPlace} (h : DataW.trod enc Try.prog W 0 (fun _ => true) held fuel 30 cs = some x) (hw : okWt Try.prog 30 x.1) : ∃ z : Ky, cs = kyc z ∧ okKy z := by
  obtain ⟨y0, y1, y2, y3, n, hx, hl, h0, h1, h2, h3⟩ := trod_struct4 Try.underlying30 h
  obtain ⟨a, e0, g0, w0⟩ := DataW.trod_string Try.underlying9 h0
  obtain ⟨b, e1, g1, w1⟩ := DataW.trod_string Try.underlying9 h1
  obtain ⟨c, e2, g2, w2⟩ := DataW.trod_int Try.underlying3 h2
  obtain ⟨d, e3, g3, w3⟩ := DataW.trod_string Try.underlying9 h3
  subst g0 g1 g2 g3
  rw [hx] at hw
  have s0 := wt_string (wt_part Try.underlying30 hw (i := 0) rfl rfl)
  have s1 := wt_string (wt_part Try.underlying30 hw (i := 1) rfl rfl)
  have s3 := wt_string (wt_part Try.underlying30 hw (i := 3) rfl rfl)
  have hc : Try.prog.cellsOf 30 = 4 := by kernel_rfl
  have hi : Try.prog.cellsOf 3 = 1 := by kernel_rfl
  have hs : Try.prog.cellsOf 9 = 1 := by kernel_rfl
  rw [hc] at hl
  simp only [hi, hs] at e0 e1 e2 e3
  clear h h0 h1 h2 h3
  obtain ⟨c0, c1, c2, c3, rfl⟩ := len4 hl
  have e0' : c0 = _ := List.head_eq_of_cons_eq e0
  have e1' : c1 = _ := List.head_eq_of_cons_eq e1
  have e2' : c2 = _ := List.head_eq_of_cons_eq e2
  have e3' : c3 = _ := List.head_eq_of_cons_eq e3
  subst e0' e1' e2' e3'
  exact ⟨⟨a, b, c, d⟩, rfl, by rw [size_list]; exact s0, by rw [size_list]; exact s1, by rw [size_list]; exact s3, w2⟩
theorem openKey {H : Type} {enc : TypeId × Value → H} {W : World} {held : Bool} {cs : Array Value} {d : DataW H} {p : List MemPlace}
    (hw : okWt Try.prog 30 d) (h : DataW.Trod enc Try.prog W 0 (fun _ => true) held 30 (.agg cs) d p) : ∃ z : Ky, cs = (kyc z).toArray ∧ okKy z := by
  obtain ⟨fuel, hf⟩ := h
  obtain ⟨z, e, ok⟩ := openKy hf hw
  have e' : cs.toList = kyc z := e
  have e2 : cs = (kyc z).toArray := by rw [← e']
  exact ⟨z, e2, ok⟩

end Go.Proofs.Ytbeidnddahglbaa
