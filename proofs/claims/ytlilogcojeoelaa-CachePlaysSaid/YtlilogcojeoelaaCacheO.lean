/- What the laws of package cache are handed: keys. -/
import Derived.Test.YtlilogcojeoelaaCacheX
import Derived.Test.YtlilogcojeoelaaMA
namespace Go.Proofs.Ytlilogcojeoelaa
set_option linter.all false
open Go Go.RowKit

theorem len4 {α : Type} {l : List α} (h : l.length = 4) : ∃ a b c d, l = [a, b, c, d] := by
  match l, h with
  | [a, b, c, d], _ => exact ⟨a, b, c, d, rfl⟩
def okKy (y : Ky) : Prop := y.db.size ≤ 140737488351232 ∧ y.ro.size ≤ 140737488351232 ∧ y.nm.size ≤ 140737488351232 ∧ (Lit.int .i64 y.fm).wf = true

theorem openKy {H : Type} {enc : TypeId × Value → H} {W : World} {held : Bool} {fuel : Nat} {cs : List Value} {x : DataW H × List MemPlace} (h : DataW.trod enc Try.prog W 0 (fun _ => true) held fuel 23 cs = some x) (hw : okWt Try.prog 23 x.1) : ∃ z : Ky, cs = kyc z ∧ okKy z := by
  obtain ⟨y0, y1, y2, y3, n, hx, hl, h0, h1, h2, h3⟩ := trod_struct4 Try.underlying23 h
  obtain ⟨a, e0, g0, w0⟩ := DataW.trod_string Try.underlying9 h0
  obtain ⟨b, e1, g1, w1⟩ := DataW.trod_string Try.underlying9 h1
  obtain ⟨c, e2, g2, w2⟩ := DataW.trod_int Try.underlying3 h2
  obtain ⟨d, e3, g3, w3⟩ := DataW.trod_string Try.underlying9 h3
  subst g0 g1 g2 g3
  rw [hx] at hw
  have s0 := wt_string (wt_part Try.underlying23 hw (i := 0) rfl rfl)
  have s1 := wt_string (wt_part Try.underlying23 hw (i := 1) rfl rfl)
  have s3 := wt_string (wt_part Try.underlying23 hw (i := 3) rfl rfl)
  have hc : Try.prog.cellsOf 23 = 4 := by kernel_rfl
  have hi : Try.prog.cellsOf 3 = 1 := by kernel_rfl
  have hs : Try.prog.cellsOf 9 = 1 := by kernel_rfl
  rw [hc] at hl
  simp only [hi, hs] at e0 e1 e2 e3
  clear h h0 h1 h2 h3
  obtain ⟨c0, c1, c2, c3, rfl⟩ := len4 hl
  have e0' : c0 = _ := List.head_eq_of_cons_eq e0
  have e1' : c1 = _ := List.head_eq_of_cons_eq e1
  have e2' : c2 = _ := List.head_eq_of_cons_eq e2
  have e3' : c3 = _ := List.head_eq_of_cons_eq e3
  subst e0' e1' e2' e3'
  exact ⟨⟨a, b, c, d⟩, rfl, by rw [size_list]; exact s0, by rw [size_list]; exact s1, by rw [size_list]; exact s3, w2⟩
theorem openKey {H : Type} {enc : TypeId × Value → H} {W : World} {held : Bool} {cs : Array Value} {d : DataW H} {p : List MemPlace}
    (hw : okWt Try.prog 23 d) (h : DataW.Trod enc Try.prog W 0 (fun _ => true) held 23 (.agg cs) d p) : ∃ z : Ky, cs = (kyc z).toArray ∧ okKy z := by
  obtain ⟨fuel, hf⟩ := h
  obtain ⟨z, e, ok⟩ := openKy hf hw
  have e' : cs.toList = kyc z := e
  have e2 : cs = (kyc z).toArray := by rw [← e']
  exact ⟨z, e2, ok⟩

set_option maxHeartbeats 1000000 in
theorem short_any (k : Env) (w : World) (R : Assn) (y : Ky) (hy : okKy y) (h : Sat k w R) :
    Calls Try.prog 8 #[kyV y] w fun e w' => e = .returned (.bool (decide (y.db.size + y.ro.size + y.nm.size ≤ 500))) ∧ Sat k w' R := by
  obtain ⟨s0, s1, s3, _⟩ := hy
  have h1 := h.alloc (.cells (kyc y).toArray 23)
  obtain ⟨db, ro, fm, nm⟩ := y
  simp only [kyc, kyV] at *
  clear h
  by_cases hs : db.size + ro.size + nm.size ≤ 500
  · have hs' : (db.size : Int) + ro.size + nm.size ≤ 500 := by omega
    have hd : decide (db.size + ro.size + nm.size ≤ 500) = true := decide_eq_true hs
    rw [hd]
    go_enter Try.func8, Try.ntmps8
    go_upto_region 1 with fail
    generalize w.alloc (.cells #[.string db, .string ro, .int .i64 fm, .string nm] 23) = w1 at *
    generalize w.heap.size = o at *
    have d0 : w1.cell? ⟨o, 0, none⟩ = some (.string db) := h1.cell 0
    have d1 : w1.cell? ⟨o, 1, none⟩ = some (.string ro) := h1.cell 1
    have d3 : w1.cell? ⟨o, 3, none⟩ = some (.string nm) := h1.cell 3
    go_wp2_with fail
    go_ret
    exact ⟨rfl, h1.drop⟩
  · have hs' : ¬ (db.size : Int) + ro.size + nm.size ≤ 500 := by omega
    have hd : decide (db.size + ro.size + nm.size ≤ 500) = false := decide_eq_false hs
    rw [hd]
    go_enter Try.func8, Try.ntmps8
    go_upto_region 1 with fail
    generalize w.alloc (.cells #[.string db, .string ro, .int .i64 fm, .string nm] 23) = w1 at *
    generalize w.heap.size = o at *
    have d0 : w1.cell? ⟨o, 0, none⟩ = some (.string db) := h1.cell 0
    have d1 : w1.cell? ⟨o, 1, none⟩ = some (.string ro) := h1.cell 1
    have d3 : w1.cell? ⟨o, 3, none⟩ = some (.string nm) := h1.cell 3
    go_wp2_with fail
    go_ret
    exact ⟨rfl, h1.drop⟩

end Go.Proofs.Ytlilogcojeoelaa
