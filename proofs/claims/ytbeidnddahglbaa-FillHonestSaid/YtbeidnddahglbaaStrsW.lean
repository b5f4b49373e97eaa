/- What the laws are handed: slices of strings. -/
import Derived.Test.YtbeidnddahglbaaMA
import Derived.Test.YtbeidnddahglbaaVersF
import Derived.Test.YtbeidnddahglbaaKeyC
namespace Go.Proofs.Ytbeidnddahglbaa
set_option linter.all false
open Go Go.RowKit

def okStr (cs : List Value) : Prop := ∃ s : ByteArray, cs = [.string s] ∧ s.size ≤ 140737488351232
theorem openStrs {H : Type} {enc : TypeId × Value → H} {W : World} {a : Option Addr} {len cap : Nat} {d : DataW H} {p : List MemPlace} {held : Bool} (hw : okWt Try.prog 27 d)
    (h : DataW.Trod enc Try.prog W 0 (fun _ => true) held 27 (.slice a len cap) d p) : ∃ xs, IsRecs W a len cap 1 okStr xs := by
  refine isRecs_openW Try.underlying27 (by kernel_rfl) (fun fuel cs x hx hwx => ?_) hw h
  obtain ⟨b, e, g, _⟩ := DataW.trod_string Try.underlying9 hx
  rw [g] at hwx
  have s2 := wt_string hwx
  exact ⟨b, e, by rw [size_list]; exact s2⟩

/-- The strings that came in. -/
theorem strs_in {W : World} {a : Option Addr} {len cap : Nat} {xs : List (List Value)} (z : IsRecs W a len cap 1 okStr xs) :
    ∃ l : List ByteArray, l.length = len ∧ (∀ s ∈ l, s.size ≤ 140737488351232) ∧ ∃ g o, (l ≠ [] → a = some ⟨g, o, none⟩) ∧ ∀ j (hj : j < l.length), W.cell? ⟨g, o + j, none⟩ = some (.string l[j]) := by
  rcases z with ⟨rfl, rfl, rfl, rfl⟩ | ⟨x, rfl, hl, hm, hx, hc⟩
  · exact ⟨[], rfl, by simp, 0, 0, fun h => absurd rfl h, fun j hj => by cases hj⟩
  · obtain ⟨F, hF⟩ := Deep.choose_lt (α := ByteArray) (p := fun i s => s.size ≤ 140737488351232 ∧ W.cell? ((x.add (i * 1)).add 0) = some (.string s)) (n := len) (by
      intro i hi
      obtain ⟨cs, _, _, ⟨s, rfl, hs⟩, h2⟩ := hc i hi
      exact ⟨s, hs, h2 0 (by omega)⟩)
    obtain ⟨b, off, spot⟩ := x
    refine ⟨(List.range len).map F, by simp, ?_, b, off, ?_, ?_⟩
    · intro s hs
      obtain ⟨i, hi, rfl⟩ := List.mem_map.1 hs
      exact (hF i (List.mem_range.1 hi)).1
    · intro hne
      have hp : 0 < len := by
        cases len with
        | zero => simp at hne
        | succ n => omega
      have h0 := (hF 0 hp).2
      have : spot = none := by simpa [Addr.add] using World.cell?_spot h0
      subst this; rfl
    · intro j hj
      have hj' : j < len := by simpa using hj
      have h0 := (hF j hj').2
      have h1 := (hF 0 (by omega)).2
      have : spot = none := by simpa [Addr.add] using World.cell?_spot h1
      subst this
      simp only [Nat.mul_one] at h0
      rw [Addr.add_lit, Addr.add_lit] at h0
      simpa using h0
theorem rd_in {W : World} {a : Option Addr} {l : List ByteArray} (h : ∃ g o, (l ≠ [] → a = some ⟨g, o, none⟩) ∧ ∀ j (hj : j < l.length), W.cell? ⟨g, o + j, none⟩ = some (.string l[j])) (k : Env) : Rd k (whole W) a l := by
  obtain ⟨g, o, h1, h2⟩ := h
  exact ⟨g, o, h1, fun w' h' j hj => whole_cell h' (h2 j hj)⟩

end Go.Proofs.Ytbeidnddahglbaa
