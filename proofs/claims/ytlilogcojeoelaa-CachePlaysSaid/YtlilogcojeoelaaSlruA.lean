/- Contracts of package slru: the representation, unlink, link. -/
import Derived.Test.YtlilogcojeoelaaProg
import Derived.Test.YtlilogcojeoelaaMB
import Derived.Test.YtlilogcojeoelaaMA
import Derived.Deep.RegionHeld3
namespace Go.Proofs.Ytlilogcojeoelaa
set_option linter.all false
open Go Go.RowKit

section
variable {k : Env} {w : World} {e size n : Nat} {xs : List Value} {R : Assn}
theorem own_ne {b g cap : Nat} {o : Obj} (h : Sat k w (blk b o * (Own e size (.slice (some ⟨g, 0, none⟩) n cap) n xs * R))) : b ≠ g ∧ g ≠ b := by
  rcases own_block h.swap with ⟨h0, _⟩ | ⟨g', cur, hg, _, _, _, _, _, hs⟩
  · cases h0
  · simp only [Option.some.injEq, Addr.mk.injEq, and_true] at hg
    subst hg
    exact ⟨fun e => hs.ne e.symm, hs.ne⟩
/-- A store into an owned slice. -/
theorem own_set {g cap : Nat} (h : Sat k w (Own e size (.slice (some ⟨g, 0, none⟩) n cap) n xs * R)) (j : Nat) (v : Value) :
    Sat k (w.setCell ⟨g, j, none⟩ v) (Own e size (.slice (some ⟨g, 0, none⟩) n cap) n (xs.set j v) * R) := by
  rcases own_block h with ⟨h0, _⟩ | ⟨g', cur, hg, h1, h2, h3, h4, h5, hs⟩
  · cases h0
  · simp only [Option.some.injEq, Addr.mk.injEq, and_true] at hg
    subst hg
    refine own_mk (hs.set j v) h1 h2 (by simpa using h3) (by simpa using h4) ?_
    rw [← h5]
    simp only [Array.toList_setIfInBounds]
    rw [List.take_set]
end

def entc (x : Ent) : List Value := [.string x.k, .int .i64 x.s, .int .i64 x.g, .int .i64 x.n, .int .i64 x.o]
def ents (A : List Ent) : List Value := A.flatMap entc
theorem ents_len (A : List Ent) : (ents A).length = A.length * 5 := by
  induction A with
  | nil => rfl
  | cons s r ih => simp only [ents, List.flatMap_cons, List.length_append, List.length_cons] at *; rw [ih]; simp [entc]; omega
theorem ents_append (l r : List Ent) : ents (l ++ r) = ents l ++ ents r := by simp [ents]
theorem ents_get (A : List Ent) (i j : Nat) (hi : i < A.length) (hj : j < 5) : (ents A)[i * 5 + j]? = (entc A[i])[j]? := by
  induction A generalizing i with
  | nil => simp at hi
  | cons s r ih =>
    cases i with
    | zero =>
      simp only [ents, List.flatMap_cons, Nat.zero_mul, Nat.zero_add, List.getElem_cons_zero]
      rw [List.getElem?_append_left (by simp [entc]; omega)]
    | succ i =>
      have e : (i + 1) * 5 + j = (entc s).length + (i * 5 + j) := by simp [entc]; omega
      rw [e]
      simp only [ents, List.flatMap_cons, List.getElem_cons_succ]
      rw [List.getElem?_append_right (by omega)]
      simp only [Nat.add_sub_cancel_left]
      exact ih i (by simpa using hi)
theorem ents_set (A : List Ent) (i j : Nat) (v : Value) (x : Ent) (hi : i < A.length) (hj : j < 5) (hx : entc x = (entc A[i]).set j v) : (ents A).set (i * 5 + j) v = ents (A.set i x) := by
  induction A generalizing i with
  | nil => simp at hi
  | cons s r ih =>
    cases i with
    | zero =>
      simp only [ents, List.flatMap_cons, Nat.zero_mul, Nat.zero_add, List.set_cons_zero]
      simp only [List.getElem_cons_zero] at hx
      rw [hx, List.set_append_left _ _ (by simp [entc]; omega)]
    | succ i =>
      have e : (i + 1) * 5 + j = (entc s).length + (i * 5 + j) := by simp [entc]; omega
      rw [e]
      simp only [ents, List.flatMap_cons, List.set_cons_succ]
      rw [List.set_append_right _ _ (by omega)]
      simp only [Nat.add_sub_cancel_left]
      congr 1
      exact ih i (by simpa using hi) (by simpa using hx)
theorem ents_setN (A : List Ent) (i : Nat) (v : Int) (hi : i < A.length) : (ents A).set (i * 5 + 3) (.int .i64 v) = ents (setN A i v) := by
  rw [ents_set A i 3 _ { A[i] with n := v } hi (by decide) rfl]
  congr 1
  rw [setN, Int.toNat_natCast, modify_set _ _ _ hi]
theorem ents_setO (A : List Ent) (i : Nat) (v : Int) (hi : i < A.length) : (ents A).set (i * 5 + 4) (.int .i64 v) = ents (setO A i v) := by
  rw [ents_set A i 4 _ { A[i] with o := v } hi (by decide) rfl]
  congr 1
  rw [setO, Int.toNat_natCast, modify_set _ _ _ hi]

theorem TEnt : SliceT Try.prog 123 134 (.agg #[.string ByteArray.empty, .int .i64 0, .int .i64 0, .int .i64 0, .int .i64 0]) 5 48 := ⟨by kernel_rfl, by kernel_rfl, rfl, by decide⟩
theorem KStr : KeyT Try.prog 9 Value.string := keyT_string Try.underlying9

def plv (P : List (ByteArray × Int)) : List (ByteArray × Value) := P.map (fun x => (x.1, Value.int .i64 x.2))

def cellsS (va vf : Value) (m : Nat) (st : St) : Array Value :=
  #[va, vf, .map (some m), .int .i64 st.l0.first, .int .i64 st.l0.last, .int .i64 st.l0.bytes, .int .i64 st.l1.first, .int .i64 st.l1.last, .int .i64 st.l1.bytes, .int .i64 st.al, .int .i64 st.kp, .int .i64 st.mo]
def StoreR (b : Nat) (st : St) : Assn :=
  ex fun p : Value × Value × Nat => blk b (.cells (cellsS p.1 p.2.1 p.2.2 st) 129 (0, 0)) * (Own 134 5 p.1 st.A.length (ents st.A) * (Own 3 1 p.2.1 st.F.length (ints st.F) * MapK Value.string p.2.2 (plv st.P)))

section
variable {k : Env} {w : World} {b : Nat} {st : St} {R : Assn}
theorem store_open (h : Sat k w (StoreR b st * R)) : ∃ aa ac fa fc m, Sat k w (blk b (.cells (cellsS (.slice aa st.A.length ac) (.slice fa st.F.length fc) m st) 129 (0, 0)) * (Own 134 5 (.slice aa st.A.length ac) st.A.length (ents st.A) * (Own 3 1 (.slice fa st.F.length fc) st.F.length (ints st.F) * (MapK Value.string m (plv st.P) * R)))) := by
  obtain ⟨⟨va, vf, m⟩, h⟩ := Sat.ex.1 h
  simp only [star_assoc] at h
  obtain ⟨aa, ac, rfl⟩ := own_val h.swap
  obtain ⟨fa, fc, rfl⟩ := own_val h.get3
  exact ⟨aa, ac, fa, fc, m, h⟩
theorem store_close {va vf : Value} {m n n' : Nat} {xs ys : List Value} {cs : Array Value} {l : List (ByteArray × Value)} (h : Sat k w (blk b (.cells cs 129 (0, 0)) * (Own 134 5 va n xs * (Own 3 1 vf n' ys * (MapK Value.string m l * R)))))
    (h0 : cs = cellsS va vf m st) (h1 : n = st.A.length) (h2 : xs = ents st.A) (h3 : n' = st.F.length) (h4 : ys = ints st.F) (h5 : l = plv st.P) : Sat k w (StoreR b st * R) := by
  subst h0; subst h1; subst h2; subst h3; subst h4; subst h5
  exact Sat.ex.2 ⟨(va, vf, m), by simp only [star_assoc]; exact h⟩

theorem ent_cells {g n ac : Nat} {A : List Ent} (h : Sat k w (Own 134 5 (.slice (some ⟨g, 0, none⟩) n ac) n (ents A) * R)) {i : Nat} {x : Ent} (hx : A[i]? = some x) :
    g < w.heap.size ∧ w.cell? ⟨g, i * 5, none⟩ = some (.string x.k) ∧ w.cell? ⟨g, i * 5 + 1, none⟩ = some (.int .i64 x.s) ∧ w.cell? ⟨g, i * 5 + 2, none⟩ = some (.int .i64 x.g) ∧ w.cell? ⟨g, i * 5 + 3, none⟩ = some (.int .i64 x.n) ∧ w.cell? ⟨g, i * 5 + 4, none⟩ = some (.int .i64 x.o) ∧ ∀ j, w.frozen? ⟨g, j, none⟩ = false := by
  obtain ⟨hi, rfl⟩ := List.getElem?_eq_some_iff.1 hx
  have hl := own_len h
  rw [ents_len] at hl
  obtain ⟨g', hg', hg, hc, hf⟩ := own_get h (by omega)
  simp only [Option.some.injEq, Addr.mk.injEq, and_true] at hg'
  subst hg'
  refine ⟨hg, ?_, ?_, ?_, ?_, ?_, hf⟩
  · exact (hc _ (by omega)).trans (ents_get A i 0 hi (by decide))
  · exact (hc _ (by omega)).trans (ents_get A i 1 hi (by decide))
  · exact (hc _ (by omega)).trans (ents_get A i 2 hi (by decide))
  · exact (hc _ (by omega)).trans (ents_get A i 3 hi (by decide))
  · exact (hc _ (by omega)).trans (ents_get A i 4 hi (by decide))
theorem ent_addr {aa : Option Addr} {n ac : Nat} {A : List Ent} (h : Sat k w (Own 134 5 (.slice aa n ac) n (ents A) * R)) {i : Nat} {x : Ent} (hx : A[i]? = some x) : ∃ g, aa = some ⟨g, 0, none⟩ := by
  obtain ⟨hi, rfl⟩ := List.getElem?_eq_some_iff.1 hx
  have hl := own_len h
  rw [ents_len] at hl
  obtain ⟨g, rfl, _⟩ := own_get h (by omega)
  exact ⟨g, rfl⟩
theorem own_setN {g n ac : Nat} {A : List Ent} (h : Sat k w (Own 134 5 (.slice (some ⟨g, 0, none⟩) n ac) n (ents A) * R)) (p : Nat) (hp : p < A.length) (v : Int) : Sat k (w.setCell ⟨g, p * 5 + 3, none⟩ (.int .i64 v)) (Own 134 5 (.slice (some ⟨g, 0, none⟩) n ac) n (ents (setN A p v)) * R) := by
  rw [← ents_setN A p v hp]; exact own_set h _ _
theorem own_setO {g n ac : Nat} {A : List Ent} (h : Sat k w (Own 134 5 (.slice (some ⟨g, 0, none⟩) n ac) n (ents A) * R)) (p : Nat) (hp : p < A.length) (v : Int) : Sat k (w.setCell ⟨g, p * 5 + 4, none⟩ (.int .i64 v)) (Own 134 5 (.slice (some ⟨g, 0, none⟩) n ac) n (ents (setO A p v)) * R) := by
  rw [← ents_setO A p v hp]; exact own_set h _ _
end

end Go.Proofs.Ytlilogcojeoelaa
