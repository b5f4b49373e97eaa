/- Tokens that are read wherever they lie. Contracts of package lexer: double, Show. -/
import Derived.Test.YtoeepbjnbgpmpaaL4G
namespace Go.Proofs.Ytoeepbjnbgpmpaa
set_option linter.all false
open Go Go.RowKit

/-- What a slice of tokens reads as, whatever else is done. -/
def RdT (k : Env) (R : Assn) (a : Option Addr) (l : List Tok) : Prop :=
  ∃ g o, (l ≠ [] → a = some ⟨g, o, none⟩) ∧ ∀ w' : World, Sat k w' R → ∀ j (hj : j < l.length), w'.cell? ⟨g, o + j * 3, none⟩ = some (.int .i64 l[j].k) ∧ w'.cell? ⟨g, o + j * 3 + 1, none⟩ = some (.string l[j].t) ∧ w'.cell? ⟨g, o + j * 3 + 2, none⟩ = some (.int .i64 l[j].at')
theorem rdt_nil (k : Env) (R : Assn) (a : Option Addr) : RdT k R a [] := ⟨0, 0, fun h => absurd rfl h, fun _ _ j hj => by cases hj⟩
theorem rdt_get {k : Env} {w : World} {R : Assn} {a : Option Addr} {l : List Tok} (h : RdT k R a l) (hs : Sat k w R) (j : Nat) (hj : j < l.length) :
    ∃ g o, a = some ⟨g, o, none⟩ ∧ w.cell? ⟨g, o + j * 3, none⟩ = some (.int .i64 l[j].k) ∧ w.cell? ⟨g, o + j * 3 + 1, none⟩ = some (.string l[j].t) ∧ w.cell? ⟨g, o + j * 3 + 2, none⟩ = some (.int .i64 l[j].at') := by
  obtain ⟨g, o, h1, h2⟩ := h
  exact ⟨g, o, h1 (by rintro rfl; cases hj), h2 w hs j hj⟩
/-- The same place for all worlds. -/
theorem rdt_at {k : Env} {R : Assn} {a : Option Addr} {l : List Tok} (h : RdT k R a l) (hl : l ≠ []) : ∃ g o, a = some ⟨g, o, none⟩ ∧ ∀ w' : World, Sat k w' R → ∀ j (hj : j < l.length), w'.cell? ⟨g, o + j * 3, none⟩ = some (.int .i64 l[j].k) ∧ w'.cell? ⟨g, o + j * 3 + 1, none⟩ = some (.string l[j].t) ∧ w'.cell? ⟨g, o + j * 3 + 2, none⟩ = some (.int .i64 l[j].at') := by
  obtain ⟨g, o, h1, h2⟩ := h
  exact ⟨g, o, h1 hl, h2⟩
theorem RdT.mono {k : Env} {R R' : Assn} {a : Option Addr} {l : List Tok} (h : RdT k R a l) (hm : ∀ w', Sat k w' R' → Sat k w' R) : RdT k R' a l := by
  obtain ⟨g, o, h1, h2⟩ := h
  exact ⟨g, o, h1, fun w' h' => h2 w' (hm w' h')⟩
theorem RdT.take {k : Env} {R : Assn} {a : Option Addr} {l : List Tok} (h : RdT k R a l) (n : Nat) : RdT k R a (l.take n) := by
  obtain ⟨g, o, h1, h2⟩ := h
  refine ⟨g, o, fun hn => h1 (by rintro rfl; simp at hn), fun w' h' j hj => ?_⟩
  rw [List.length_take] at hj
  have := h2 w' h' j (by omega)
  simpa using this
theorem rdt_own {k : Env} {w : World} {R : Assn} {a : Option Addr} {c : Nat} {l : List Tok} (h : Sat k w (Toks (.slice a l.length c) l * R)) : RdT k (Toks (.slice a l.length c) l * R) a l := by
  cases l with
  | nil => exact rdt_nil k _ a
  | cons x r =>
    obtain ⟨g, rfl, _, _⟩ := rec_get h (by decide) 0 (by simp)
    refine ⟨g, 0, fun _ => rfl, fun w' h' j hj => ?_⟩
    obtain ⟨g', hg, _, hc⟩ := rec_get h' (by decide) j hj
    simp only [Option.some.injEq, Addr.mk.injEq, and_true] at hg
    subst hg
    rw [Nat.zero_add]
    exact ⟨hc 0 (by decide), hc 1 (by decide), hc 2 (by decide)⟩

def fq (q : UInt8) (c : UInt8) : List UInt8 := if c = q then [q, c] else [c]
theorem dbl_eq (q : UInt8) (l : List UInt8) : dbl q l = q :: l.flatMap (fq q) ++ [q] := rfl
theorem fq_len (q : UInt8) (l : List UInt8) : (l.flatMap (fq q)).length ≤ 2 * l.length := by
  induction l with
  | nil => simp
  | cons c r ih =>
    rw [List.flatMap_cons, List.length_append, List.length_cons]
    have : (fq q c).length ≤ 2 := by unfold fq; split <;> simp
    omega
theorem dbl_len (q : UInt8) (l : List UInt8) : (dbl q l).length ≤ 2 * l.length + 2 := by
  rw [dbl_eq]
  have := fq_len q l
  rw [List.length_append, List.length_cons]
  simp only [List.length_singleton]
  omega

theorem showL_snoc (l : List Tok) (x : Tok) : showL (l ++ [x]) = if l = [] then showT x else showL l ++ 32 :: showT x := by
  cases l with
  | nil => simp [showL]
  | cons y r => simp [showL]
theorem showL_le (l : List Tok) (n : Nat) : (showL (l.take n)).length ≤ (showL l).length := by
  cases l with
  | nil => simp
  | cons y r =>
    cases n with
    | zero => simp [showL]
    | succ n =>
      simp only [List.take_succ_cons, showL, List.length_append]
      have : ((r.take n).flatMap fun y => 32 :: showT y).length ≤ (r.flatMap fun y => 32 :: showT y).length := by
        conv => rhs; rw [← List.take_append_drop n r]
        rw [List.flatMap_append, List.length_append]; omega
      omega
theorem cat_mk (l : List UInt8) (s : ByteArray) : mk l ++ s = mk (l ++ bl s) := by
  apply ByteArray.ext
  apply Array.ext'
  simp [mk, bl]

end Go.Proofs.Ytoeepbjnbgpmpaa
