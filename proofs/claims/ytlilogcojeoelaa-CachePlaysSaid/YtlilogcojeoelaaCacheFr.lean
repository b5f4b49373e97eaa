/- The law CacheFresh, walked. -/
import Derived.Test.YtlilogcojeoelaaCacheP
import Derived.Test.YtlilogcojeoelaaCacheAp
import Derived.Deep.CutBlock
import Derived.Deep.DeepCutAuto
namespace Go.Proofs.Ytlilogcojeoelaa
set_option linter.all false
open Go Go.RowKit

/-- Something that is done. -/
structure OpC where
  kind : Int
  y : Ky
  v : ByteArray
  now : Int
def opc (o : OpC) : List Value := [.int .i64 o.kind, .string o.y.db, .string o.y.ro, .int .i64 o.y.fm, .string o.y.nm, .string o.v, .int .i64 o.now]
def EOp : Enc OpC := ⟨opc, 7, fun _ => rfl, fun x u hu => by simp [opc] at hu; rcases hu with rfl | rfl | rfl | rfl | rfl | rfl | rfl <;> rfl⟩
theorem TOp : SliceT Try.prog 37 43 (.agg #[.int .i64 0, .string ByteArray.empty, .string ByteArray.empty, .int .i64 0, .string ByteArray.empty, .string ByteArray.empty, .int .i64 0]) 7 88 := ⟨Try.underlying37, by kernel_rfl, rfl, by decide⟩
def okOp (cs : List Value) : Prop := ∃ o : OpC, cs = opc o ∧ okKy o.y ∧ o.v.size ≤ 140737488351232 ∧ (Lit.int .i64 o.now).wf = true

theorem len7 {α : Type} {l : List α} (h : l.length = 7) : ∃ a b c d e f g, l = [a, b, c, d, e, f, g] := by
  match l, h with
  | [a, b, c, d, e, f, g], _ => exact ⟨a, b, c, d, e, f, g, rfl⟩

set_option maxRecDepth 100000 in
theorem openOp {H : Type} {enc : TypeId × Value → H} {W : World} {a : Option Addr} {len cap : Nat} {d : DataW H} {p : List MemPlace} {held : Bool} (hw : okWt Try.prog 37 d)
    (h : DataW.Trod enc Try.prog W 0 (fun _ => true) held 37 (.slice a len cap) d p) : ∃ xs, IsRecs W a len cap 7 okOp xs := by
  refine isRecs_openW Try.underlying37 (by kernel_rfl) (fun fuel cs x hx hwx => ?_) hw h
  obtain ⟨y0, y1, y2, y3, n, hx1, hl, h0, h1, h2, h3⟩ := trod_struct4 Try.underlying43 hx
  rw [hx1] at hwx
  obtain ⟨a, e0, g0, w0⟩ := DataW.trod_int Try.underlying3 h0
  obtain ⟨b, e2, g2, w2⟩ := DataW.trod_string Try.underlying9 h2
  obtain ⟨c, e3, g3, w3⟩ := DataW.trod_int Try.underlying3 h3
  obtain ⟨z, e1, ok⟩ := openKy h1 (wt_part Try.underlying43 hwx (i := 1) rfl rfl)
  subst g2
  have s2 := wt_string (wt_part Try.underlying43 hwx (i := 2) rfl rfl)
  have hc : Try.prog.cellsOf 43 = 7 := by kernel_rfl
  have hi : Try.prog.cellsOf 3 = 1 := by kernel_rfl
  have hs : Try.prog.cellsOf 9 = 1 := by kernel_rfl
  have hk : Try.prog.cellsOf 23 = 4 := by kernel_rfl
  rw [hc] at hl
  simp only [hi, hs, hk] at e0 e1 e2 e3
  clear h0 h1 h2 h3 hx hwx hx1 h hw
  obtain ⟨c0, c1, c2, c3, c4, c5, c6, rfl⟩ := len7 hl
  have e0' : c0 = _ := List.head_eq_of_cons_eq e0
  have e1' : [c1, c2, c3, c4] = kyc z := e1
  have e2' : c5 = _ := List.head_eq_of_cons_eq e2
  have e3' : c6 = _ := List.head_eq_of_cons_eq e3
  simp only [kyc, List.cons.injEq, and_true] at e1'
  obtain ⟨rfl, rfl, rfl, rfl⟩ := e1'
  subst e0' e2' e3'
  exact ⟨⟨a, z, b, c⟩, rfl, ok, by rw [size_list]; exact s2, w3⟩

/-- What was put: the ones that were taken, in their order. -/
def puO (l : List OpC) : Pu := l.map fun o => (o.y, o.v, o.now)

/-- Is what was got right, as far as one looked? -/
def okAt (l : List OpC) (y : Ky) (v : ByteArray) (is : Bool) (ttl now : Int) : Bool :=
  match lastP (puO l) y with
  | none => !is
  | some (v0, n0) => !is || (decide (v0 = v) && decide (now < n0 + ttl))
theorem okAt_snoc (l : List OpC) (o : OpC) (y : Ky) (v : ByteArray) (is : Bool) (ttl now : Int) : okAt (l ++ [o]) y v is ttl now = if o.y = y then (!is || (decide (o.v = v) && decide (now < o.now + ttl))) else okAt l y v is ttl now := by
  unfold okAt puO
  rw [List.map_append, List.map_cons, List.map_nil, lastP_snoc]
  by_cases h : o.y = y
  · simp [h]
  · simp [h]
theorem okAt_all {l : List OpC} {y : Ky} {v : ByteArray} {is : Bool} {ttl now : Int} (h : is = true → ∃ n0, lastP (puO l) y = some (v, n0) ∧ now < n0 + ttl) : okAt l y v is ttl now = true := by
  unfold okAt
  cases is with
  | false => split <;> rfl
  | true =>
    obtain ⟨n0, h1, h2⟩ := h rfl
    rw [h1]; simp [h2]

end Go.Proofs.Ytlilogcojeoelaa
