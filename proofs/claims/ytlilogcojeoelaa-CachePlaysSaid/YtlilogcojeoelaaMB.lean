/- Several texts in one: SlruM, SlruP, SlruQ, SlruS, SlruT, ExpM, ExpP. -/
import Derived.Test.YtlilogcojeoelaaMA
namespace Go.Proofs.Ytlilogcojeoelaa
set_option linter.all false
open Go

structure Ent where
  k : ByteArray
  s : Int
  g : Int
  n : Int
  o : Int
def Ent.zero : Ent := ⟨ByteArray.empty, 0, 0, 0, 0⟩
instance : Inhabited Ent := ⟨Ent.zero⟩
structure Lst where
  first : Int
  last : Int
  bytes : Int
structure St where
  A : List Ent
  F : List Int
  P : List (ByteArray × Int)
  l0 : Lst
  l1 : Lst
  al : Int
  kp : Int
  mo : Int

theorem modify_set {α : Type} (A : List α) (i : Nat) (f : α → α) (hi : i < A.length) : A.modify i f = A.set i (f A[i]) := by
  apply List.ext_getElem?
  intro n
  rw [List.getElem?_modify, List.getElem?_set]
  by_cases h : i = n
  · subst h; simp [hi]
  · simp [h]

def setN (A : List Ent) (j v : Int) : List Ent := A.modify j.toNat (fun x => { x with n := v })
def setO (A : List Ent) (j v : Int) : List Ent := A.modify j.toNat (fun x => { x with o := v })
theorem setN_len (A : List Ent) (j v : Int) : (setN A j v).length = A.length := by simp [setN]
theorem setO_len (A : List Ent) (j v : Int) : (setO A j v).length = A.length := by simp [setO]
def St.lst (st : St) (g : Int) : Lst := if g = 0 then st.l0 else st.l1
def St.setLst (st : St) (g : Int) (l : Lst) : St := if g = 0 then { st with l0 := l } else { st with l1 := l }

theorem setN_ne (A : List Ent) (p i : Nat) (v : Int) (h : p ≠ i) : (setN A p v)[i]? = A[i]? := by simp [setN, List.getElem?_modify, h]
theorem setO_ne (A : List Ent) (p i : Nat) (v : Int) (h : p ≠ i) : (setO A p v)[i]? = A[i]? := by simp [setO, List.getElem?_modify, h]

/-- unlink -/
def unlA (A : List Ent) (x : Ent) : List Ent :=
  let A1 := if x.n = -1 then A else setO A x.n x.o
  if x.o = -1 then A1 else setN A1 x.o x.n
def unlL (l : Lst) (x : Ent) : Lst := ⟨if x.n = -1 then x.o else l.first, if x.o = -1 then x.n else l.last, l.bytes - x.s⟩
def unlinkS (st : St) (i : Nat) : St :=
  let x := st.A.getD i Ent.zero
  { (st.setLst x.g (unlL (st.lst x.g) x)) with A := unlA st.A x }

/-- link -/
def linkA (A : List Ent) (i : Nat) (g : Int) (l : Lst) : List Ent :=
  let A1 := A.modify i (fun x => { x with g := g, n := -1, o := l.first })
  if l.first = -1 then A1 else setN A1 l.first i
def linkL (l : Lst) (i : Nat) (x : Ent) : Lst := ⟨i, if l.first = -1 then i else l.last, l.bytes + x.s⟩
def linkS (st : St) (i : Nat) (g : Int) : St :=
  let x := st.A.getD i Ent.zero
  { (st.setLst g (linkL (st.lst g) i x)) with A := linkA st.A i g (st.lst g) }

end Go.Proofs.Ytlilogcojeoelaa

namespace Go.Proofs.Ytlilogcojeoelaa
set_option linter.all false
open Go

def hdd : List Nat → Int → Int
  | [], q => q
  | i :: _, _ => i
def lsd : List Nat → Int → Int
  | [], p => p
  | i :: r, _ => lsd r i

/-- A doubly linked row of places. -/
def Dl (A : List Ent) (g p : Int) : List Nat → Int → Prop
  | [], _ => True
  | i :: r, q => (∃ e, A[i]? = some e ∧ e.g = g ∧ e.n = p ∧ e.o = hdd r q) ∧ Dl A g i r q

theorem hdd_append (L1 L2 : List Nat) (q : Int) : hdd (L1 ++ L2) q = hdd L1 (hdd L2 q) := by cases L1 <;> rfl
theorem lsd_append (L1 L2 : List Nat) (p : Int) : lsd (L1 ++ L2) p = lsd L2 (lsd L1 p) := by
  induction L1 generalizing p with
  | nil => rfl
  | cons i r ih => exact ih _
theorem Dl_append (A : List Ent) (g p : Int) (L1 L2 : List Nat) (q : Int) : Dl A g p (L1 ++ L2) q ↔ Dl A g p L1 (hdd L2 q) ∧ Dl A g (lsd L1 p) L2 q := by
  induction L1 generalizing p with
  | nil => simp [Dl, lsd]
  | cons i r ih =>
    simp only [List.cons_append, Dl, lsd]
    rw [ih, hdd_append]
    constructor
    · rintro ⟨h1, h2, h3⟩; exact ⟨⟨h1, h2⟩, h3⟩
    · rintro ⟨⟨h1, h2⟩, h3⟩; exact ⟨h1, h2, h3⟩
theorem Dl_frame {A B : List Ent} {g p : Int} {L : List Nat} {q : Int} (h : Dl A g p L q) (he : ∀ i ∈ L, B[i]? = A[i]?) : Dl B g p L q := by
  induction L generalizing p with
  | nil => trivial
  | cons i r ih =>
    obtain ⟨⟨e, h1, h2⟩, h3⟩ := h
    exact ⟨⟨e, (he i (by simp)).trans h1, h2⟩, ih h3 (fun j hj => he j (by simp [hj]))⟩
theorem setN_at (A : List Ent) (i : Nat) (v : Int) (e : Ent) (h : A[i]? = some e) : (setN A i v)[i]? = some { e with n := v } := by simp [setN, List.getElem?_modify, h]
theorem setO_at (A : List Ent) (i : Nat) (v : Int) (e : Ent) (h : A[i]? = some e) : (setO A i v)[i]? = some { e with o := v } := by simp [setO, List.getElem?_modify, h]

theorem lsd_mem (L : List Nat) (p : Int) : lsd L p = p ∨ ∃ i ∈ L, lsd L p = i := by
  induction L generalizing p with
  | nil => exact .inl rfl
  | cons i r ih =>
    right
    rcases ih i with h | ⟨j, hj, h⟩
    · exact ⟨i, by simp, h⟩
    · exact ⟨j, by simp [hj], h⟩

/-- The row's end gets another place behind it. -/
theorem Dl_setO {A : List Ent} {g p : Int} {L : List Nat} {q : Int} (q' : Int) (h : Dl A g p L q) (hn : L.Nodup) (hL : L ≠ []) : Dl (setO A (lsd L p) q') g p L q' := by
  induction L generalizing p with
  | nil => exact absurd rfl hL
  | cons i r ih =>
    obtain ⟨⟨e, h1, h2, h3, h4⟩, h5⟩ := h
    simp only [List.nodup_cons] at hn
    cases r with
    | nil => exact ⟨⟨{ e with o := q' }, setO_at _ _ _ _ h1, h2, h3, rfl⟩, trivial⟩
    | cons j r =>
      have h6 := ih (p := i) h5 hn.2 (by simp)
      refine ⟨⟨e, ?_, h2, h3, h4⟩, h6⟩
      obtain ⟨m, hm, he⟩ : ∃ m ∈ j :: r, lsd (j :: r) i = m := by
        rcases lsd_mem r j with h | ⟨m, hm, h⟩
        · exact ⟨j, by simp, h⟩
        · exact ⟨m, by simp [hm], h⟩
      show (setO A (lsd (j :: r) i) q')[i]? = _
      rw [he, setO_ne _ _ _ _ (by intro hmi; subst hmi; exact hn.1 hm)]
      exact h1
/-- The row's head gets another place ahead of it. -/
theorem Dl_setN {A : List Ent} {g p : Int} {j : Nat} {r : List Nat} {q : Int} (p' : Int) (h : Dl A g p (j :: r) q) (hn : (j :: r).Nodup) : Dl (setN A j p') g p' (j :: r) q := by
  obtain ⟨⟨e, h1, h2, h3, h4⟩, h5⟩ := h
  simp only [List.nodup_cons] at hn
  exact ⟨⟨{ e with n := p' }, setN_at _ _ _ _ h1, h2, rfl, h4⟩, Dl_frame h5 (fun i hi => setN_ne _ _ _ _ (fun e => hn.1 (e ▸ hi)))⟩

/-- What is kept of an entry whatever is linked. -/
def same (A B : List Ent) : Prop := B.length = A.length ∧ ∀ i : Nat, ((B[i]?).map fun e => (e.k, e.s)) = ((A[i]?).map fun e => (e.k, e.s))
theorem same.refl (A : List Ent) : same A A := ⟨rfl, fun _ => rfl⟩
theorem same.trans {A B C : List Ent} (h : same A B) (h' : same B C) : same A C := ⟨h'.1.trans h.1, fun i => (h'.2 i).trans (h.2 i)⟩
theorem same_setN (A : List Ent) (j v : Int) : same A (setN A j v) := ⟨setN_len _ _ _, fun i => by
  simp only [setN, List.getElem?_modify]
  cases A[i]? <;> simp <;> split <;> simp⟩
theorem same_setO (A : List Ent) (j v : Int) : same A (setO A j v) := ⟨setO_len _ _ _, fun i => by
  simp only [setO, List.getElem?_modify]
  cases A[i]? <;> simp <;> split <;> simp⟩
theorem same_unl (A : List Ent) (x : Ent) : same A (unlA A x) := by
  unfold unlA
  simp only []
  split <;> split
  · exact same.refl _
  · exact same_setO _ _ _
  · exact same_setN _ _ _
  · exact (same_setO _ _ _).trans (same_setN _ _ _)

/-- A segment: its row of places, its ends. -/
def Seg (A : List Ent) (g : Int) (L : List Nat) (l : Lst) : Prop := Dl A g (-1) L (-1) ∧ l.first = hdd L (-1) ∧ l.last = lsd L (-1)

theorem hdd_ge (L : List Nat) : hdd L (-1) = -1 ∨ ∃ i ∈ L, hdd L (-1) = i := by
  cases L with
  | nil => exact .inl rfl
  | cons i r => exact .inr ⟨i, by simp, rfl⟩

theorem unl_other {A : List Ent} {x : Ent} {i : Nat} (h1 : x.n = -1 ∨ ∃ p : Nat, x.n = p ∧ p ≠ i) (h2 : x.o = -1 ∨ ∃ q : Nat, x.o = q ∧ q ≠ i) : (unlA A x)[i]? = A[i]? := by
  unfold unlA
  simp only []
  rcases h1 with h1 | ⟨p, h1, hp⟩ <;> rcases h2 with h2 | ⟨q, h2, hq⟩
  · rw [if_pos h2, if_pos h1]
  · rw [if_neg (show ¬ x.o = -1 by omega), if_pos h1, h2, setN_ne _ _ _ _ hq]
  · rw [if_pos h2, if_neg (show ¬ x.n = -1 by omega), h1, setO_ne _ _ _ _ hp]
  · rw [if_neg (show ¬ x.o = -1 by omega), if_neg (show ¬ x.n = -1 by omega), h2, setN_ne _ _ _ _ hq, h1, setO_ne _ _ _ _ hp]

/-- Unlinking takes the place out of its row, and turns no other row. -/
theorem seg_unlink {A : List Ent} {g : Int} {L1 L2 : List Nat} {i : Nat} {l : Lst} {x : Ent} (h : Seg A g (L1 ++ i :: L2) l) (hn : (L1 ++ i :: L2).Nodup) (hx : A[i]? = some x) :
    Seg (unlA A x) g (L1 ++ L2) (unlL l x) ∧ x.g = g ∧ x.n = lsd L1 (-1) ∧ x.o = hdd L2 (-1) ∧ (unlA A x)[i]? = some x ∧ ∀ j, j ∉ L1 ++ i :: L2 → (unlA A x)[j]? = A[j]? := by
  obtain ⟨hd, hf, hl⟩ := h
  rw [Dl_append] at hd
  obtain ⟨d1, ⟨e, he, e1, e2, e3⟩, d2⟩ := hd
  obtain rfl : e = x := by rw [hx] at he; exact (Option.some.inj he).symm
  rw [List.nodup_append] at hn
  obtain ⟨n1, n2, n3⟩ := hn
  simp only [List.nodup_cons] at n2
  have i1 : i ∉ L1 := fun hi => n3 i hi i (by simp) rfl
  have hn' : e.n = -1 ∨ ∃ p : Nat, e.n = p ∧ p ∈ L1 := by
    rw [e2]
    rcases lsd_mem L1 (-1) with h | ⟨p, hp, h⟩
    · exact .inl h
    · exact .inr ⟨p, h, hp⟩
  have ho' : e.o = -1 ∨ ∃ p : Nat, e.o = p ∧ p ∈ L2 := by
    rw [e3]
    rcases hdd_ge L2 with h | ⟨p, hp, h⟩
    · exact .inl h
    · exact .inr ⟨p, h, hp⟩
  have hoth : ∀ j, j ∉ L1 → j ∉ L2 → (unlA A e)[j]? = A[j]? := fun j h1 h2 =>
    unl_other (hn'.imp id fun ⟨p, hp, hm⟩ => ⟨p, hp, fun e => h1 (e ▸ hm)⟩) (ho'.imp id fun ⟨p, hp, hm⟩ => ⟨p, hp, fun e => h2 (e ▸ hm)⟩)
  refine ⟨?_, e1, e2, e3, (hoth i i1 n2.1).trans hx, fun j hj => hoth j (fun h => hj (by simp [h])) (fun h => hj (by simp [h]))⟩
  have hdis : ∀ a ∈ L1, a ∉ L2 := fun a ha hb => n3 a ha a (by simp [hb]) rfl
  refine ⟨?_, ?_, ?_⟩
  · rw [Dl_append]
    unfold unlA
    simp only []
    constructor
    · -- the first half
      have step1 : Dl (if e.n = -1 then A else setO A e.n e.o) g (-1) L1 (hdd L2 (-1)) := by
        cases L1 with
        | nil => trivial
        | cons a r =>
          have : ¬ e.n = -1 := by
            rw [e2]
            rcases lsd_mem r a with h | ⟨p, _, h⟩ <;> (show ¬ lsd r a = -1; omega)
          rw [if_neg this, e2, e3]
          exact Dl_setO _ d1 n1 (by simp)
      split
      · exact step1
      · rename_i hq
        obtain ⟨q, hq', hqm⟩ := ho'.resolve_left hq
        exact Dl_frame step1 (fun a ha => by rw [hq']; exact setN_ne _ _ _ _ (fun e => hdis a ha (e ▸ hqm)))
    · cases L2 with
      | nil => trivial
      | cons c r =>
        have hq : ¬ e.o = -1 := by rw [e3]; show ¬ ((c : Int) = -1); omega
        rw [if_neg hq]
        have d2' : Dl (if e.n = -1 then A else setO A e.n e.o) g i (c :: r) (-1) := by
          split
          · exact d2
          · rename_i hp
            obtain ⟨p, hp', hpm⟩ := hn'.resolve_left hp
            exact Dl_frame d2 (fun a ha => by rw [hp']; exact setO_ne _ _ _ _ (fun e => hdis p hpm (e ▸ ha)))
        have hco : e.o = (c : Int) := e3
        have := Dl_setN e.n d2' n2.2
        rw [← hco] at this
        rw [← e2]
        exact this
  · show (if e.n = -1 then e.o else l.first) = _
    rw [hdd_append]
    cases L1 with
    | nil => rw [if_pos (by rw [e2]; rfl), e3]; rfl
    | cons a r =>
      rw [if_neg (by rw [e2]; rcases lsd_mem r a with h | ⟨p, _, h⟩ <;> (show ¬ lsd r a = -1; omega)), hf]
      rfl
  · show (if e.o = -1 then e.n else l.last) = _
    rw [lsd_append]
    cases L2 with
    | nil => rw [if_pos (by rw [e3]; rfl), e2]; rfl
    | cons c r =>
      rw [if_neg (by rw [e3]; show ¬ ((c : Int) = -1); omega), hl, lsd_append]
      rfl

end Go.Proofs.Ytlilogcojeoelaa

namespace Go.Proofs.Ytlilogcojeoelaa
set_option linter.all false
open Go

def keyA (A : List Ent) (i : Nat) : ByteArray := (A.getD i Ent.zero).k
def sizA (A : List Ent) (i : Nat) : Int := (A.getD i Ent.zero).s
def sumA (A : List Ent) : List Nat → Int
  | [] => 0
  | i :: r => sizA A i + sumA A r
theorem sumA_append (A : List Ent) (L1 L2 : List Nat) : sumA A (L1 ++ L2) = sumA A L1 + sumA A L2 := by
  induction L1 with
  | nil => simp [sumA]
  | cons i r ih => simp only [List.cons_append, sumA, ih]; omega
theorem same_key {A B : List Ent} (h : same A B) (i : Nat) : keyA B i = keyA A i ∧ sizA B i = sizA A i := by
  have := h.2 i
  unfold keyA sizA
  simp only [List.getD]
  cases ha : A[i]? <;> cases hb : B[i]? <;> simp_all
theorem same_sum {A B : List Ent} (h : same A B) (L : List Nat) : sumA B L = sumA A L := by
  induction L with
  | nil => rfl
  | cons i r ih => rw [sumA, sumA, ih, (same_key h i).2]

theorem seg_link {A : List Ent} {g : Int} {L : List Nat} {i : Nat} {l : Lst} {x : Ent} (h : Seg A g L l) (hn : (i :: L).Nodup) (hx : A[i]? = some x) :
    Seg (linkA A i g l) g (i :: L) (linkL l i x) ∧ same A (linkA A i g l) ∧ ∀ j, j ∉ i :: L → (linkA A i g l)[j]? = A[j]? := by
  obtain ⟨hd, hf, hl⟩ := h
  obtain ⟨hi, rfl⟩ := List.getElem?_eq_some_iff.1 hx
  simp only [List.nodup_cons] at hn
  have hB : ∀ j, j ≠ i → (A.modify i fun x => { x with g := g, n := -1, o := l.first })[j]? = A[j]? := fun j hj => by simp [List.getElem?_modify, Ne.symm hj]
  have hBi : (A.modify i fun x => { x with g := g, n := -1, o := l.first })[i]? = some { A[i] with g := g, n := -1, o := l.first } := by simp [List.getElem?_modify, hi]
  have hsB : same A (A.modify i fun x => { x with g := g, n := -1, o := l.first }) := ⟨by simp, fun j => by
    simp only [List.getElem?_modify]
    cases A[j]? <;> simp <;> split <;> simp⟩
  have dB : Dl (A.modify i fun x => { x with g := g, n := -1, o := l.first }) g (-1) L (-1) := Dl_frame hd (fun j hj => hB j (fun e => hn.1 (e ▸ hj)))
  unfold linkA
  simp only []
  cases L with
  | nil =>
    have h1 : l.first = -1 := hf
    rw [if_pos h1]
    refine ⟨⟨⟨⟨_, hBi, rfl, rfl, hf⟩, trivial⟩, rfl, ?_⟩, hsB, fun j hj => hB j (by simpa using hj)⟩
    show (if l.first = -1 then (i : Int) else l.last) = _
    rw [if_pos h1]; rfl
  | cons c r =>
    have h1 : l.first = c := hf
    have hci : c ≠ i := fun e => hn.1 (by simp [e])
    rw [if_neg (by omega), h1]
    refine ⟨⟨⟨⟨_, (setN_ne _ _ _ _ hci).trans (by rw [← h1]; exact hBi), rfl, rfl, hf⟩, ?_⟩, rfl, ?_⟩, (h1 ▸ hsB).trans (same_setN _ _ _), fun j hj => ?_⟩
    · rw [← h1]
      have := Dl_setN (i : Int) dB hn.2
      rw [h1] at this ⊢
      exact this
    · show (if l.first = -1 then (i : Int) else l.last) = _
      rw [if_neg (by omega), hl]; rfl
    · simp only [List.mem_cons, not_or] at hj
      rw [setN_ne _ _ _ _ (fun e => hj.2.1 e.symm)]
      rw [← h1]
      exact hB j hj.1

/-- The invariant: T, K: the rows; X: what is in no row just now. -/
structure Rep (st : St) (T K X : List Nat) : Prop where
  t : Seg st.A 0 T st.l0
  k : Seg st.A 1 K st.l1
  nd : (T ++ K ++ X).Nodup
  fr : ∃ F : List Nat, st.F = F.map (fun i : Nat => (i : Int)) ∧ (∀ i ∈ F, i ∉ T ++ K ++ X) ∧ F.Nodup ∧ ∀ i, i < st.A.length ↔ (i ∈ F ∨ i ∈ T ++ K ++ X)
  pl : ∀ (a : ByteArray) (v : Int), (a, v) ∈ st.P ↔ ∃ i ∈ T ++ K ++ X, v = (i : Int) ∧ keyA st.A i = a
  pn : (st.P.map (·.1)).Nodup
  b0 : st.l0.bytes = sumA st.A T
  b1 : st.l1.bytes = sumA st.A K
  sz : ∀ i ∈ T ++ K ++ X, 1 ≤ sizA st.A i
  tot : sumA st.A (T ++ K ++ X) ≤ st.al
  pa : 1 ≤ st.al ∧ st.al ≤ 1073741824 ∧ 0 ≤ st.kp ∧ st.kp ≤ st.al ∧ 1 ≤ st.mo ∧ st.mo ≤ st.al
  len : (st.A.length : Int) ≤ st.al

theorem sumA_nonneg {A : List Ent} {L : List Nat} (h : ∀ i ∈ L, 1 ≤ sizA A i) : (L.length : Int) ≤ sumA A L := by
  induction L with
  | nil => simp [sumA]
  | cons i r ih =>
    have h1 := h i (by simp)
    have h2 := ih (fun j hj => h j (by simp [hj]))
    simp only [sumA, List.length_cons]
    omega

theorem Rep.live {st : St} {T K X : List Nat} (h : Rep st T K X) {i : Nat} (hi : i ∈ T ++ K ++ X) : ∃ x, st.A[i]? = some x ∧ 1 ≤ x.s ∧ x.s ≤ st.al := by
  obtain ⟨F, _, _, _, hF⟩ := h.fr
  have hl := (hF i).2 (.inr hi)
  refine ⟨st.A[i], by simp [hl], ?_, ?_⟩
  · have := h.sz i hi
    simpa [sizA, List.getD, hl] using this
  · obtain ⟨L1, L2, hL⟩ := List.append_of_mem hi
    have ht := h.tot
    have hs := h.sz
    rw [hL] at ht hs
    rw [sumA_append] at ht
    simp only [sumA] at ht
    have h1 := sumA_nonneg (A := st.A) (L := L1) (fun j hj => hs j (by simp [hj]))
    have h2 := sumA_nonneg (A := st.A) (L := L2) (fun j hj => hs j (by simp [hj]))
    have : sizA st.A i = st.A[i].s := by simp [sizA, List.getD, hl]
    omega

theorem Rep.small {st : St} {T K X : List Nat} (h : Rep st T K X) : 0 ≤ st.l0.bytes ∧ st.l0.bytes ≤ st.al ∧ 0 ≤ st.l1.bytes ∧ st.l1.bytes ≤ st.al ∧ st.l0.bytes + st.l1.bytes ≤ st.al := by
  have ht := h.tot
  rw [sumA_append, sumA_append] at ht
  have h1 := sumA_nonneg (A := st.A) (L := T) (fun j hj => h.sz j (by simp [hj]))
  have h2 := sumA_nonneg (A := st.A) (L := K) (fun j hj => h.sz j (by simp [hj]))
  have h3 := sumA_nonneg (A := st.A) (L := X) (fun j hj => h.sz j (by simp [hj]))
  rw [h.b0, h.b1]
  omega

/-- Two stores with the same entries, but for how they are linked. -/
theorem rep_relink {st st' : St} {T K X T' K' X' : List Nat} (h : Rep st T K X) (ht : Seg st'.A 0 T' st'.l0) (hk : Seg st'.A 1 K' st'.l1) (hp : (T' ++ K' ++ X').Perm (T ++ K ++ X)) (hs : same st.A st'.A)
    (e1 : st'.F = st.F) (e2 : st'.P = st.P) (e3 : st'.al = st.al ∧ st'.kp = st.kp ∧ st'.mo = st.mo) (b0 : st'.l0.bytes = sumA st.A T') (b1 : st'.l1.bytes = sumA st.A K') (hsum : sumA st.A (T' ++ K' ++ X') = sumA st.A (T ++ K ++ X)) : Rep st' T' K' X' where
  t := ht
  k := hk
  nd := hp.nodup_iff.2 h.nd
  fr := by
    obtain ⟨F, h1, h2, h3, h4⟩ := h.fr
    refine ⟨F, by rw [e1, h1], fun i hi hm => h2 i hi (hp.mem_iff.1 hm), h3, fun i => ?_⟩
    rw [hs.1, h4 i, hp.mem_iff]
  pl a v := by
    rw [e2, h.pl]
    constructor
    · rintro ⟨i, hi, rfl, hk⟩; exact ⟨i, hp.mem_iff.2 hi, rfl, (same_key hs i).1.trans hk⟩
    · rintro ⟨i, hi, rfl, hk⟩; exact ⟨i, hp.mem_iff.1 hi, rfl, (same_key hs i).1.symm.trans hk⟩
  pn := by rw [e2]; exact h.pn
  b0 := by rw [same_sum hs, b0]
  b1 := by rw [same_sum hs, b1]
  sz i hi := by rw [(same_key hs i).2]; exact h.sz i (hp.mem_iff.1 hi)
  tot := by rw [same_sum hs, hsum, e3.1]; exact h.tot
  pa := by obtain ⟨a, b, c⟩ := e3; rw [a, b, c]; exact h.pa
  len := by rw [hs.1, e3.1]; exact h.len

theorem seg_frame {A B : List Ent} {g : Int} {L : List Nat} {l : Lst} (h : Seg A g L l) (he : ∀ i ∈ L, B[i]? = A[i]?) : Seg B g L l := ⟨Dl_frame h.1 he, h.2⟩

theorem rep_unlink0 {st : St} {T1 T2 K X : List Nat} {i : Nat} (h : Rep st (T1 ++ i :: T2) K X) : Rep (unlinkS st i) (T1 ++ T2) K (i :: X) := by
  obtain ⟨x, hx, _⟩ := h.live (i := i) (by simp)
  have hnd := h.nd
  obtain ⟨s1, s2, s3, s4, s5, s6⟩ := seg_unlink h.t (by rw [List.append_assoc] at hnd; exact (List.nodup_append.1 hnd).1) hx
  have e : unlinkS st i = { (st.setLst 0 (unlL st.l0 x)) with A := unlA st.A x } := by
    unfold unlinkS; simp only [List.getD, hx, Option.getD_some, s2]; rfl
  rw [e]
  have hsz : sizA st.A i = x.s := by simp [sizA, List.getD, hx]
  refine rep_relink h s1 ?_ ?_ (same_unl _ _) rfl rfl ⟨rfl, rfl, rfl⟩ ?_ h.b1 ?_
  · refine seg_frame h.k fun j hj => s6 j fun hm => ?_
    rw [List.append_assoc] at hnd
    exact (List.nodup_append.1 hnd).2.2 j hm j (by simp [hj]) rfl
  · have p1 : (T1 ++ T2 ++ K ++ i :: X).Perm (i :: (T1 ++ T2 ++ K ++ X)) := List.perm_middle
    have p2 : (T1 ++ i :: T2 ++ K ++ X).Perm (i :: (T1 ++ T2 ++ K ++ X)) := by
      simp only [List.append_assoc, List.cons_append]
      exact List.perm_middle
    exact p1.trans p2.symm
  · show st.l0.bytes - x.s = _
    rw [h.b0, sumA_append, sumA_append]
    simp only [sumA]
    omega
  · simp only [sumA_append, sumA]; omega

theorem rep_unlink1 {st : St} {T K1 K2 X : List Nat} {i : Nat} (h : Rep st T (K1 ++ i :: K2) X) : Rep (unlinkS st i) T (K1 ++ K2) (i :: X) := by
  obtain ⟨x, hx, _⟩ := h.live (i := i) (by simp)
  have hnd := h.nd
  have hnd1 : (T ++ (K1 ++ i :: K2)).Nodup := (List.nodup_append.1 hnd).1
  obtain ⟨s1, s2, s3, s4, s5, s6⟩ := seg_unlink h.k (List.nodup_append.1 hnd1).2.1 hx
  have e : unlinkS st i = { (st.setLst 1 (unlL st.l1 x)) with A := unlA st.A x } := by
    unfold unlinkS; simp only [List.getD, hx, Option.getD_some, s2]; rfl
  rw [e]
  have hsz : sizA st.A i = x.s := by simp [sizA, List.getD, hx]
  refine rep_relink h ?_ s1 ?_ (same_unl _ _) rfl rfl ⟨rfl, rfl, rfl⟩ h.b0 ?_ ?_
  · refine seg_frame h.t fun j hj => s6 j fun hm => ?_
    exact (List.nodup_append.1 hnd1).2.2 j hj j hm rfl
  · have p1 : (T ++ (K1 ++ K2) ++ i :: X).Perm (i :: (T ++ (K1 ++ K2) ++ X)) := List.perm_middle
    have p2 : (T ++ (K1 ++ i :: K2) ++ X).Perm (i :: (T ++ (K1 ++ K2) ++ X)) := by
      rw [show T ++ (K1 ++ i :: K2) ++ X = (T ++ K1) ++ i :: (K2 ++ X) by simp, show T ++ (K1 ++ K2) ++ X = (T ++ K1) ++ (K2 ++ X) by simp]
      exact List.perm_middle
    exact p1.trans p2.symm
  · show st.l1.bytes - x.s = _
    rw [h.b1, sumA_append, sumA_append]
    simp only [sumA]
    omega
  · simp only [sumA_append, sumA]; omega

theorem rep_link0 {st : St} {T K X : List Nat} {i : Nat} (h : Rep st T K (i :: X)) : Rep (linkS st i 0) (i :: T) K X := by
  obtain ⟨x, hx, _⟩ := h.live (i := i) (by simp)
  have hp : (i :: T ++ K ++ X).Perm (T ++ K ++ i :: X) := List.perm_middle.symm
  have hnd : (i :: (T ++ K ++ X)).Nodup := hp.nodup_iff.2 h.nd
  have hi : i ∉ T ∧ i ∉ K := by
    have := (List.nodup_cons.1 hnd).1
    simp only [List.mem_append, not_or] at this
    exact this.1
  have hT : T.Nodup := by have := h.nd; rw [List.append_assoc] at this; exact (List.nodup_append.1 this).1
  obtain ⟨s1, s2, s3⟩ := seg_link (g := 0) h.t (List.nodup_cons.2 ⟨hi.1, hT⟩) hx
  have e : linkS st i 0 = { (st.setLst 0 (linkL st.l0 i x)) with A := linkA st.A i 0 st.l0 } := by
    unfold linkS; simp only [List.getD, hx, Option.getD_some]; rfl
  rw [e]
  have hsz : sizA st.A i = x.s := by simp [sizA, List.getD, hx]
  refine rep_relink h s1 ?_ hp s2 rfl rfl ⟨rfl, rfl, rfl⟩ ?_ h.b1 ?_
  · refine seg_frame h.k fun j hj => s3 j fun hm => ?_
    rcases List.mem_cons.1 hm with rfl | hm
    · exact hi.2 hj
    · have := h.nd
      rw [List.append_assoc] at this
      exact (List.nodup_append.1 this).2.2 j hm j (by simp [hj]) rfl
  · show st.l0.bytes + x.s = _
    rw [h.b0]; simp only [sumA]; omega
  · simp only [List.cons_append, sumA_append, sumA]; omega

theorem rep_link1 {st : St} {T K X : List Nat} {i : Nat} (h : Rep st T K (i :: X)) : Rep (linkS st i 1) T (i :: K) X := by
  obtain ⟨x, hx, _⟩ := h.live (i := i) (by simp)
  have hp : (T ++ i :: K ++ X).Perm (T ++ K ++ i :: X) := by
    rw [show T ++ i :: K ++ X = T ++ i :: (K ++ X) by simp]
    refine List.perm_middle.trans (List.Perm.trans ?_ List.perm_middle.symm)
    simp
  have hnd : (i :: (T ++ K ++ X)).Nodup := List.perm_middle.nodup_iff.1 h.nd
  have hi : i ∉ T ∧ i ∉ K := by
    have := (List.nodup_cons.1 hnd).1
    simp only [List.mem_append, not_or] at this
    exact this.1
  have hTK : (T ++ K).Nodup := (List.nodup_append.1 h.nd).1
  obtain ⟨s1, s2, s3⟩ := seg_link (g := 1) h.k (List.nodup_cons.2 ⟨hi.2, (List.nodup_append.1 hTK).2.1⟩) hx
  have e : linkS st i 1 = { (st.setLst 1 (linkL st.l1 i x)) with A := linkA st.A i 1 st.l1 } := by
    unfold linkS; simp only [List.getD, hx, Option.getD_some]; rfl
  rw [e]
  have hsz : sizA st.A i = x.s := by simp [sizA, List.getD, hx]
  refine rep_relink h ?_ s1 hp s2 rfl rfl ⟨rfl, rfl, rfl⟩ h.b0 ?_ ?_
  · refine seg_frame h.t fun j hj => s3 j fun hm => ?_
    rcases List.mem_cons.1 hm with rfl | hm
    · exact hi.1 hj
    · exact (List.nodup_append.1 hTK).2.2 j hj j hm rfl
  · show st.l1.bytes + x.s = _
    rw [h.b1]; simp only [sumA]; omega
  · simp only [sumA_append, sumA]; omega

end Go.Proofs.Ytlilogcojeoelaa

namespace Go.Proofs.Ytlilogcojeoelaa
set_option linter.all false
open Go

abbrev KV := ByteArray × Int
def view (A : List Ent) (L : List Nat) : List KV := L.map fun i => (keyA A i, sizA A i)
def sumV : List KV → Int
  | [] => 0
  | x :: r => x.2 + sumV r
theorem sumV_append (l r : List KV) : sumV (l ++ r) = sumV l + sumV r := by
  induction l with
  | nil => simp [sumV]
  | cons x l ih => simp only [List.cons_append, sumV, ih]; omega
theorem sumV_view (A : List Ent) (L : List Nat) : sumV (view A L) = sumA A L := by
  induction L with
  | nil => rfl
  | cons i r ih => simp only [view, List.map_cons, sumV, sumA] at *; rw [ih]
theorem view_same {A B : List Ent} (h : same A B) (L : List Nat) : view B L = view A L := by
  unfold view
  refine List.map_congr_left fun i _ => ?_
  rw [(same_key h i).1, (same_key h i).2]
theorem view_frame {A B : List Ent} {L : List Nat} (h : ∀ i ∈ L, B[i]? = A[i]?) : view B L = view A L := by
  unfold view keyA sizA
  refine List.map_congr_left fun i hi => ?_
  simp only [List.getD, h i hi]
theorem view_append (A : List Ent) (L1 L2 : List Nat) : view A (L1 ++ L2) = view A L1 ++ view A L2 := by simp [view]
theorem sumA_frame {A B : List Ent} {L : List Nat} (h : ∀ i ∈ L, B[i]? = A[i]?) : sumA B L = sumA A L := by
  rw [← sumV_view, ← sumV_view, view_frame h]

/-- An entry in no row is let go. -/
def delS (st : St) (i : Nat) : St := { st with P := mdel (keyA st.A i) st.P, A := st.A.set i Ent.zero, F := st.F ++ [(i : Int)] }
def removeS (st : St) (i : Nat) : St := delS (unlinkS st i) i

theorem set_other {A : List Ent} {i j : Nat} (x : Ent) (h : j ≠ i) : (A.set i x)[j]? = A[j]? := by simp [List.getElem?_set, Ne.symm h]

theorem Rep.keys {st : St} {T K X : List Nat} (h : Rep st T K X) {i j : Nat} (hi : i ∈ T ++ K ++ X) (hj : j ∈ T ++ K ++ X) (e : keyA st.A i = keyA st.A j) : i = j := by
  have h1 := (h.pl (keyA st.A i) i).2 ⟨i, hi, rfl, rfl⟩
  have h2 := (h.pl (keyA st.A i) j).2 ⟨j, hj, rfl, e.symm⟩
  rw [← mget_mem h.pn] at h1 h2
  rw [h1] at h2
  have := Option.some.inj h2
  omega

theorem rep_del {st : St} {T K X : List Nat} {i : Nat} (h : Rep st T K (i :: X)) : Rep (delS st i) T K X := by
  have hp : (T ++ K ++ i :: X).Perm (i :: (T ++ K ++ X)) := List.perm_middle
  have hnd := List.nodup_cons.1 (hp.nodup_iff.1 h.nd)
  have hfr : ∀ j ∈ T ++ K ++ X, (st.A.set i Ent.zero)[j]? = st.A[j]? := fun j hj => set_other _ (fun e => hnd.1 (e ▸ hj))
  have hfr' : ∀ j ∈ T ++ K ++ X, keyA (st.A.set i Ent.zero) j = keyA st.A j ∧ sizA (st.A.set i Ent.zero) j = sizA st.A j := fun j hj => by
    unfold keyA sizA; simp only [List.getD, hfr j hj, and_self]
  have hmem : ∀ j, j ∈ T ++ K ++ i :: X ↔ (j = i ∨ j ∈ T ++ K ++ X) := fun j => by rw [hp.mem_iff, List.mem_cons]
  obtain ⟨F, f1, f2, f3, f4⟩ := h.fr
  have hiF : i ∉ F := fun hi => f2 i hi ((hmem i).2 (.inl rfl))
  refine ⟨seg_frame h.t fun j hj => hfr j (by simp [hj]), seg_frame h.k fun j hj => hfr j (by simp [hj]), hnd.2, ⟨F ++ [i], ?_, ?_, ?_, ?_⟩, ?_, mdel_nodup _ _ h.pn, ?_, ?_, ?_, ?_, h.pa, ?_⟩
  · show st.F ++ [(i : Int)] = _
    rw [f1, List.map_append]; rfl
  · intro j hj hm
    rcases List.mem_append.1 hj with hj | hj
    · exact f2 j hj ((hmem j).2 (.inr hm))
    · simp at hj; subst hj; exact hnd.1 hm
  · rw [List.nodup_append]
    exact ⟨f3, by simp, fun a ha b hb e => by simp at hb; subst hb; subst e; exact hiF ha⟩
  · intro j
    show j < (st.A.set i Ent.zero).length ↔ _
    have e1 : j ∈ F ++ [i] ↔ (j ∈ F ∨ j = i) := by rw [List.mem_append, List.mem_singleton]
    rw [List.length_set, f4 j, hmem j, e1]
    constructor
    · rintro (h | h | h)
      · exact .inl (.inl h)
      · exact .inl (.inr h)
      · exact .inr h
    · rintro ((h | h) | h)
      · exact .inl h
      · exact .inr (.inl h)
      · exact .inr (.inr h)
  · intro a v
    show (a, v) ∈ mdel (keyA st.A i) st.P ↔ ∃ j ∈ T ++ K ++ X, v = (j : Int) ∧ keyA (st.A.set i Ent.zero) j = a
    rw [← mget_mem (mdel_nodup _ _ h.pn), mget_del _ _ _ h.pn]
    by_cases ha : keyA st.A i = a
    · rw [if_pos ha]
      constructor
      · intro e; cases e
      · rintro ⟨j, hj, rfl, hk⟩
        rw [(hfr' j hj).1] at hk
        have := h.keys ((hmem j).2 (.inr hj)) ((hmem i).2 (.inl rfl)) (hk.trans ha.symm)
        subst this
        exact absurd hj hnd.1
    · rw [if_neg ha, mget_mem h.pn, h.pl]
      constructor
      · rintro ⟨j, hj, rfl, hk⟩
        rcases (hmem j).1 hj with rfl | hj
        · exact absurd hk ha
        · exact ⟨j, hj, rfl, by rw [(hfr' j hj).1]; exact hk⟩
      · rintro ⟨j, hj, rfl, hk⟩
        rw [(hfr' j hj).1] at hk
        exact ⟨j, (hmem j).2 (.inr hj), rfl, hk⟩
  · show st.l0.bytes = sumA (st.A.set i Ent.zero) T
    rw [sumA_frame fun j hj => hfr j (by simp [hj])]; exact h.b0
  · show st.l1.bytes = sumA (st.A.set i Ent.zero) K
    rw [sumA_frame fun j hj => hfr j (by simp [hj])]; exact h.b1
  · intro j hj
    show 1 ≤ sizA (st.A.set i Ent.zero) j
    rw [(hfr' j hj).2]
    exact h.sz j ((hmem j).2 (.inr hj))
  · show sumA (st.A.set i Ent.zero) (T ++ K ++ X) ≤ st.al
    rw [sumA_frame hfr]
    have h1 := h.tot
    have h2 := h.sz i ((hmem i).2 (.inl rfl))
    simp only [sumA_append, sumA] at h1 ⊢
    omega
  · show ((st.A.set i Ent.zero).length : Int) ≤ st.al
    rw [List.length_set]; exact h.len

theorem view_del {st : St} {T K X L : List Nat} {i : Nat} (h : Rep st T K (i :: X)) (hL : ∀ j ∈ L, j ∈ T ++ K ++ X) : view (delS st i).A L = view st.A L := by
  have hp : (T ++ K ++ i :: X).Perm (i :: (T ++ K ++ X)) := List.perm_middle
  have hnd := List.nodup_cons.1 (hp.nodup_iff.1 h.nd)
  exact view_frame fun j hj => set_other _ (fun e => hnd.1 (e ▸ hL j hj))

theorem nodup_le : ∀ (l m : List Nat), l.Nodup → l ⊆ m → l.length ≤ m.length
  | [], _, _, _ => Nat.zero_le _
  | a :: r, m, hn, hs => by
    obtain ⟨m1, m2, rfl⟩ := List.append_of_mem (hs List.mem_cons_self)
    have hn' := List.nodup_cons.1 hn
    have := nodup_le r (m1 ++ m2) hn'.2 (fun x hx => by
      have h1 := hs (List.mem_cons_of_mem a hx)
      simp only [List.mem_append, List.mem_cons] at h1 ⊢
      rcases h1 with h1 | rfl | h1
      · exact .inl h1
      · exact absurd hx hn'.1
      · exact .inr h1)
    simp only [List.length_cons, List.length_append] at this ⊢
    omega

/-- A place for a new entry. -/
def slotI (st : St) : Nat := match st.F.getLast? with
  | some i => i.toNat
  | none => st.A.length
def slotS (st : St) : St := match st.F.getLast? with
  | some _ => { st with F := st.F.dropLast }
  | none => { st with A := st.A ++ [Ent.zero] }
def addS (st : St) (i : Nat) (a : ByteArray) (s : Int) : St := { st with A := st.A.set i ⟨a, s, 0, 0, 0⟩, P := mput a (i : Int) st.P }

theorem slot_facts {st : St} {T K X : List Nat} (h : Rep st T K X) (hs : sumA st.A (T ++ K ++ X) < st.al) :
    ∃ F : List Nat, (slotS st).F = F.map (fun i : Nat => (i : Int)) ∧ slotI st ∉ F ∧ slotI st ∉ T ++ K ++ X ∧ (∀ i ∈ F, i ∉ T ++ K ++ X) ∧ F.Nodup ∧ (∀ i, i < (slotS st).A.length ↔ (i = slotI st ∨ i ∈ F ∨ i ∈ T ++ K ++ X)) ∧ (∀ i ∈ T ++ K ++ X, (slotS st).A[i]? = st.A[i]?) ∧
    ((slotS st).A.length : Int) ≤ st.al ∧ (slotS st).P = st.P ∧ (slotS st).l0 = st.l0 ∧ (slotS st).l1 = st.l1 ∧ (slotS st).al = st.al ∧ (slotS st).kp = st.kp ∧ (slotS st).mo = st.mo := by
  obtain ⟨F, f1, f2, f3, f4⟩ := h.fr
  rcases List.eq_nil_or_concat F with rfl | ⟨F', i, rfl⟩
  · have hF : st.F.getLast? = none := by rw [f1]; rfl
    have e1 : slotI st = st.A.length := by unfold slotI; rw [hF]
    have e2 : slotS st = { st with A := st.A ++ [Ent.zero] } := by unfold slotS; rw [hF]
    rw [e1, e2]
    have hlen : (st.A.length : Int) ≤ sumA st.A (T ++ K ++ X) := by
      have h1 := sumA_nonneg (A := st.A) (L := T ++ K ++ X) h.sz
      have h2 : st.A.length ≤ (T ++ K ++ X).length := by
        have : List.range st.A.length ⊆ T ++ K ++ X := fun j hj => by
          rcases (f4 j).1 (List.mem_range.1 hj) with h | h
          · simp at h
          · exact h
        have := nodup_le _ _ List.nodup_range this
        simpa using this
      omega
    refine ⟨[], f1, by simp, fun hm => ?_, by simp, by simp, fun j => ?_, fun j hj => ?_, ?_, rfl, rfl, rfl, rfl, rfl, rfl⟩
    · have := (f4 st.A.length).2 (.inr hm); omega
    · simp only [List.length_append, List.length_cons, List.length_nil]
      have := f4 j
      simp only [List.not_mem_nil, false_or] at this ⊢
      rw [← this]; omega
    · exact List.getElem?_append_left ((f4 j).2 (.inr hj))
    · simp only [List.length_append, List.length_cons, List.length_nil]; omega
  · rw [List.concat_eq_append] at *
    have hF : st.F.getLast? = some (i : Int) := by rw [f1]; simp
    have e1 : slotI st = i := by unfold slotI; rw [hF]; simp
    have e2 : slotS st = { st with F := st.F.dropLast } := by unfold slotS; rw [hF]
    rw [e1, e2]
    rw [List.nodup_append] at f3
    refine ⟨F', by rw [f1]; simp, fun hm => f3.2.2 i hm i (by simp) rfl, f2 i (by simp), fun j hj => f2 j (by simp [hj]), f3.1, fun j => ?_, fun j _ => rfl, h.len, rfl, rfl, rfl, rfl, rfl, rfl⟩
    rw [show ({ st with F := st.F.dropLast } : St).A = st.A from rfl, f4 j]
    simp only [List.mem_append, List.mem_singleton]
    constructor
    · rintro ((h | h) | h)
      · exact .inr (.inl h)
      · exact .inl h
      · exact .inr (.inr h)
    · rintro (h | h | h)
      · exact .inl (.inr h)
      · exact .inl (.inl h)
      · exact .inr h

theorem rep_add {st : St} {T K : List Nat} (h : Rep st T K []) (a : ByteArray) (s : Int) (h1 : 1 ≤ s) (hs : sumA st.A (T ++ K) + s ≤ st.al) (ha : ∀ i ∈ T ++ K, keyA st.A i ≠ a) :
    Rep (addS (slotS st) (slotI st) a s) T K [slotI st] ∧ slotI st < (slotS st).A.length ∧ (∀ i ∈ T ++ K, (addS (slotS st) (slotI st) a s).A[i]? = st.A[i]?) ∧ (addS (slotS st) (slotI st) a s).A[slotI st]? = some ⟨a, s, 0, 0, 0⟩ := by
  obtain ⟨F, q1, q2, q3, q4, q5, q6, q7, q8, q9, q10, q11, q12, q13, q14⟩ := slot_facts h (by simp only [List.append_nil]; omega)
  simp only [List.append_nil] at q3 q4 q6 q7
  have hlt : slotI st < (slotS st).A.length := (q6 _).2 (.inl rfl)
  have hat : ∀ i ∈ T ++ K, ((slotS st).A.set (slotI st) ⟨a, s, 0, 0, 0⟩)[i]? = st.A[i]? := fun i hi => (set_other (i := slotI st) (j := i) _ (fun e => q3 (e ▸ hi))).trans (q7 i hi)
  have hnew : ((slotS st).A.set (slotI st) ⟨a, s, 0, 0, 0⟩)[slotI st]? = some ⟨a, s, 0, 0, 0⟩ := by simp [hlt]
  have hk : ∀ i ∈ T ++ K, keyA ((slotS st).A.set (slotI st) ⟨a, s, 0, 0, 0⟩) i = keyA st.A i ∧ sizA ((slotS st).A.set (slotI st) ⟨a, s, 0, 0, 0⟩) i = sizA st.A i := fun i hi => by
    unfold keyA sizA; simp only [List.getD, hat i hi, and_self]
  have hkn : keyA ((slotS st).A.set (slotI st) ⟨a, s, 0, 0, 0⟩) (slotI st) = a ∧ sizA ((slotS st).A.set (slotI st) ⟨a, s, 0, 0, 0⟩) (slotI st) = s := by
    unfold keyA sizA; simp only [List.getD, hnew, Option.getD_some, and_self]
  have hmem : ∀ j, j ∈ T ++ K ++ [slotI st] ↔ (j ∈ T ++ K ∨ j = slotI st) := fun j => by rw [List.mem_append, List.mem_singleton]
  have hnd0 := h.nd
  simp only [List.append_nil] at hnd0
  refine ⟨?_, hlt, hat, hnew⟩
  refine ⟨?_, ?_, ?_, ⟨F, q1, ?_, q5, ?_⟩, ?_, ?_, ?_, ?_, ?_, ?_, ?_, ?_⟩
  · show Seg _ 0 T (slotS st).l0
    rw [q10]; exact seg_frame h.t fun j hj => hat j (by simp [hj])
  · show Seg _ 1 K (slotS st).l1
    rw [q11]; exact seg_frame h.k fun j hj => hat j (by simp [hj])
  · rw [List.nodup_append]
    exact ⟨hnd0, by simp, fun x hx y hy e => by simp at hy; subst hy; subst e; exact q3 hx⟩
  · intro i hi hm
    rcases (hmem i).1 hm with hm | rfl
    · exact q4 i hi hm
    · exact q2 hi
  · intro i
    show i < ((slotS st).A.set _ _).length ↔ _
    rw [List.length_set, q6 i, hmem i]
    constructor
    · rintro (h | h | h)
      · exact .inr (.inr h)
      · exact .inl h
      · exact .inr (.inl h)
    · rintro (h | h | h)
      · exact .inr (.inl h)
      · exact .inr (.inr h)
      · exact .inl h
  · intro b v
    show (b, v) ∈ mput a ((slotI st : Nat) : Int) (slotS st).P ↔ ∃ j ∈ T ++ K ++ [slotI st], v = (j : Int) ∧ keyA ((slotS st).A.set (slotI st) ⟨a, s, 0, 0, 0⟩) j = b
    rw [q9, ← mget_mem (mput_nodup _ _ _ h.pn), mget_put]
    by_cases hb : a = b
    · subst hb
      rw [if_pos rfl]
      constructor
      · intro e; cases e; exact ⟨_, (hmem _).2 (.inr rfl), rfl, hkn.1⟩
      · rintro ⟨j, hj, rfl, hkj⟩
        rcases (hmem j).1 hj with hj | rfl
        · rw [(hk j hj).1] at hkj; exact absurd hkj (ha j hj)
        · rfl
    · rw [if_neg hb, mget_mem h.pn, h.pl]
      simp only [List.append_nil]
      constructor
      · rintro ⟨j, hj, rfl, hkj⟩; exact ⟨j, (hmem j).2 (.inl hj), rfl, by rw [(hk j hj).1]; exact hkj⟩
      · rintro ⟨j, hj, rfl, hkj⟩
        rcases (hmem j).1 hj with hj | rfl
        · exact ⟨j, hj, rfl, by rw [← (hk j hj).1]; exact hkj⟩
        · rw [hkn.1] at hkj; exact absurd hkj hb
  · show ((mput a _ (slotS st).P).map (·.1)).Nodup
    rw [q9]; exact mput_nodup _ _ _ h.pn
  · show (slotS st).l0.bytes = _
    rw [q10, h.b0]; exact (sumA_frame fun j hj => hat j (by simp [hj])).symm
  · show (slotS st).l1.bytes = _
    rw [q11, h.b1]; exact (sumA_frame fun j hj => hat j (by simp [hj])).symm
  · intro i hi
    rcases (hmem i).1 hi with hi | rfl
    · show 1 ≤ sizA _ i
      rw [show (addS (slotS st) (slotI st) a s).A = (slotS st).A.set (slotI st) ⟨a, s, 0, 0, 0⟩ from rfl, (hk i hi).2]
      exact h.sz i (by simpa using hi)
    · show 1 ≤ sizA _ (slotI st)
      rw [show (addS (slotS st) (slotI st) a s).A = (slotS st).A.set (slotI st) ⟨a, s, 0, 0, 0⟩ from rfl, hkn.2]
      exact h1
  · show sumA ((slotS st).A.set (slotI st) ⟨a, s, 0, 0, 0⟩) (T ++ K ++ [slotI st]) ≤ (slotS st).al
    rw [sumA_append, sumA_frame (L := T ++ K) hat, q12]
    simp only [sumA, hkn.2]
    omega
  · show 1 ≤ (slotS st).al ∧ (slotS st).al ≤ 1073741824 ∧ 0 ≤ (slotS st).kp ∧ (slotS st).kp ≤ (slotS st).al ∧ 1 ≤ (slotS st).mo ∧ (slotS st).mo ≤ (slotS st).al
    rw [q12, q13, q14]; exact h.pa
  · show (((slotS st).A.set _ _).length : Int) ≤ (slotS st).al
    rw [List.length_set, q12]; exact q8

end Go.Proofs.Ytlilogcojeoelaa

namespace Go.Proofs.Ytlilogcojeoelaa
set_option linter.all false
open Go

theorem unlinkS_par (st : St) (i : Nat) : (unlinkS st i).al = st.al ∧ (unlinkS st i).kp = st.kp ∧ (unlinkS st i).mo = st.mo := by
  unfold unlinkS St.setLst
  simp only []
  split <;> exact ⟨rfl, rfl, rfl⟩
theorem linkS_par (st : St) (i : Nat) (g : Int) : (linkS st i g).al = st.al ∧ (linkS st i g).kp = st.kp ∧ (linkS st i g).mo = st.mo := by
  unfold linkS St.setLst
  simp only []
  split <;> exact ⟨rfl, rfl, rfl⟩
theorem removeS_par (st : St) (i : Nat) : (removeS st i).al = st.al ∧ (removeS st i).kp = st.kp ∧ (removeS st i).mo = st.mo := unlinkS_par st i

theorem rep_remove0 {st : St} {T1 T2 K : List Nat} {i : Nat} (h : Rep st (T1 ++ i :: T2) K []) : Rep (removeS st i) (T1 ++ T2) K [] ∧ ∀ L : List Nat, (∀ j ∈ L, j ∈ T1 ++ T2 ++ K) → view (removeS st i).A L = view st.A L := by
  have h1 := rep_unlink0 h
  refine ⟨rep_del h1, fun L hL => ?_⟩
  unfold removeS
  rw [view_del h1 (fun j hj => by rw [List.append_nil]; exact hL j hj)]
  exact view_same (same_unl _ _) L
theorem rep_remove1 {st : St} {T K1 K2 : List Nat} {i : Nat} (h : Rep st T (K1 ++ i :: K2) []) : Rep (removeS st i) T (K1 ++ K2) [] ∧ ∀ L : List Nat, (∀ j ∈ L, j ∈ T ++ (K1 ++ K2)) → view (removeS st i).A L = view st.A L := by
  have h1 := rep_unlink1 h
  refine ⟨rep_del h1, fun L hL => ?_⟩
  unfold removeS
  rw [view_del h1 (fun j hj => by rw [List.append_nil]; exact hL j hj)]
  exact view_same (same_unl _ _) L

/-- Room for some bytes: who goes. -/
def roomV (al size : Int) : Nat → List KV → List KV → List KV × List KV × List ByteArray
  | 0, t, k => (t, k, [])
  | n + 1, t, k =>
    if al < sumV t + sumV k + size then
      match t.getLast? with
      | some x => let r := roomV al size n t.dropLast k; (r.1, r.2.1, x.1 :: r.2.2)
      | none => match k.getLast? with
        | some x => let r := roomV al size n t k.dropLast; (r.1, r.2.1, x.1 :: r.2.2)
        | none => (t, k, [])
    else (t, k, [])
theorem roomV_stop {al size : Int} {t k : List KV} (n : Nat) (h : ¬ al < sumV t + sumV k + size) : roomV al size n t k = (t, k, []) := by
  cases n with
  | zero => rfl
  | succ n => rw [roomV, if_neg h]
theorem roomV_t {al size : Int} {t k : List KV} {x : KV} (n : Nat) (h : al < sumV (t ++ [x]) + sumV k + size) : roomV al size (n + 1) (t ++ [x]) k = ((roomV al size n t k).1, (roomV al size n t k).2.1, x.1 :: (roomV al size n t k).2.2) := by
  rw [roomV, if_pos h]; simp
theorem roomV_k {al size : Int} {k : List KV} {x : KV} (n : Nat) (h : al < sumV [] + sumV (k ++ [x]) + size) : roomV al size (n + 1) [] (k ++ [x]) = ((roomV al size n [] k).1, (roomV al size n [] k).2.1, x.1 :: (roomV al size n [] k).2.2) := by
  rw [roomV, if_pos h]; simp

/-- What is kept too much goes back to the tried ones. -/
def backV (kp : Int) : Nat → List KV → List KV → List KV × List KV × List ByteArray
  | 0, t, k => (t, k, [])
  | n + 1, t, k =>
    if kp < sumV k then
      match k.getLast? with
      | some x => let r := backV kp n (x :: t) k.dropLast; (r.1, r.2.1, x.1 :: r.2.2)
      | none => (t, k, [])
    else (t, k, [])
theorem backV_stop {kp : Int} {t k : List KV} (n : Nat) (h : ¬ kp < sumV k) : backV kp n t k = (t, k, []) := by
  cases n with
  | zero => rfl
  | succ n => rw [backV, if_neg h]
theorem backV_k {kp : Int} {t k : List KV} {x : KV} (n : Nat) (h : kp < sumV (k ++ [x])) : backV kp (n + 1) t (k ++ [x]) = ((backV kp n (x :: t) k).1, (backV kp n (x :: t) k).2.1, x.1 :: (backV kp n (x :: t) k).2.2) := by
  rw [backV, if_pos h]; simp

def dropV (a : ByteArray) (l : List KV) : List KV := l.filter fun x => decide (x.1 ≠ a)
def hasV (a : ByteArray) (l : List KV) : Option Int := mget a l

theorem view_keys {st : St} {T K X : List Nat} (h : Rep st T K X) {i : Nat} {L1 L2 : List Nat} (hL : ∀ j ∈ L1 ++ i :: L2, j ∈ T ++ K ++ X) (hn : (L1 ++ i :: L2).Nodup) :
    dropV (keyA st.A i) (view st.A (L1 ++ i :: L2)) = view st.A (L1 ++ L2) := by
  have hne : ∀ j ∈ L1 ++ L2, keyA st.A j ≠ keyA st.A i := by
    intro j hj e
    have := h.keys (hL j (by simp at hj ⊢; rcases hj with h | h <;> simp [h])) (hL i (by simp)) e
    subst this
    have := (List.perm_middle (l₁ := L1) (l₂ := L2) (a := j)).nodup_iff.1 hn
    exact (List.nodup_cons.1 this).1 hj
  unfold dropV
  rw [view_append, view_append, List.filter_append]
  have e0 : view st.A (i :: L2) = (keyA st.A i, sizA st.A i) :: view st.A L2 := rfl
  rw [e0, List.filter_cons, if_neg (by simp)]
  congr 1
  · rw [List.filter_eq_self]
    intro x hx
    obtain ⟨j, hj, rfl⟩ := List.mem_map.1 hx
    simpa using hne j (by simp [hj])
  · rw [List.filter_eq_self]
    intro x hx
    obtain ⟨j, hj, rfl⟩ := List.mem_map.1 hx
    simpa using hne j (by simp [hj])
theorem dropV_none {A : List Ent} {L : List Nat} {a : ByteArray} (h : ∀ j ∈ L, keyA A j ≠ a) : dropV a (view A L) = view A L := by
  unfold dropV
  rw [List.filter_eq_self]
  intro x hx
  obtain ⟨j, hj, rfl⟩ := List.mem_map.1 hx
  simpa using h j hj

theorem Rep.look {st : St} {T K : List Nat} (h : Rep st T K []) (a : ByteArray) :
    (mget a st.P = none ∧ ∀ j ∈ T ++ K, keyA st.A j ≠ a) ∨ ∃ i : Nat, mget a st.P = some (i : Int) ∧ i ∈ T ++ K ∧ keyA st.A i = a := by
  cases hm : mget a st.P with
  | none =>
    left
    refine ⟨rfl, fun j hj e => ?_⟩
    have := (h.pl a j).2 ⟨j, by simpa using hj, rfl, e⟩
    rw [← mget_mem h.pn, hm] at this
    cases this
  | some v =>
    right
    rw [mget_mem h.pn, h.pl] at hm
    obtain ⟨i, hi, rfl, hk⟩ := hm
    exact ⟨i, rfl, by simpa using hi, hk⟩

end Go.Proofs.Ytlilogcojeoelaa

namespace Go.Proofs.Ytlilogcojeoelaa
set_option linter.all false
open Go

/-- A key, its deadline, and when it was set. -/
structure It where
  k : ByteArray
  at_ : Int
  num : Int
deriving DecidableEq, Inhabited

def ilt (a b : It) : Prop := a.at_ < b.at_ ∨ (a.at_ = b.at_ ∧ a.num < b.num)
instance (a b : It) : Decidable (ilt a b) := by unfold ilt; infer_instance
def ile (a b : It) : Prop := ¬ ilt b a

theorem ile_trans {a b c : It} (h : ile a b) (h' : ile b c) : ile a c := by unfold ile ilt at *; omega
theorem ile_of_lt {a b : It} (h : ilt a b) : ile a b := by unfold ile ilt at *; omega
theorem ilt_le {a b c : It} (h : ilt a b) (h' : ile b c) : ilt a c := by unfold ile ilt at *; omega
theorem ile_lt {a b c : It} (h : ile a b) (h' : ilt b c) : ilt a c := by unfold ile ilt at *; omega
theorem ile_refl (a : It) : ile a a := by unfold ile ilt; omega

/-- Read at a place: the heap as a function. -/
def hat (H : List It) (i : Nat) : It := H.getD i default
theorem hat_get {H : List It} {i : Nat} (h : i < H.length) : hat H i = H[i] := by simp [hat, h]
def par (j : Nat) : Nat := (j - 1) / 2

def swapL (H : List It) (i k : Nat) : List It := (H.set i (hat H k)).set k (hat H i)
theorem swapL_len (H : List It) (i k : Nat) : (swapL H i k).length = H.length := by simp [swapL]
theorem hat_swap {H : List It} {i k j : Nat} (hi : i < H.length) (hk : k < H.length) : hat (swapL H i k) j = if j = k then hat H i else if j = i then hat H k else hat H j := by
  unfold hat swapL
  rw [List.getD_eq_getElem?_getD, List.getElem?_set, List.length_set]
  by_cases h1 : k = j
  · subst h1; simp [hk, hat]
  · rw [if_neg h1, if_neg (fun e => h1 e.symm), List.getElem?_set]
    by_cases h2 : i = j
    · subst h2; simp [hi, hat]
    · rw [if_neg h2, if_neg (fun e => h2 e.symm)]; simp
theorem swapL_perm {H : List It} {i k : Nat} (hi : i < H.length) (hk : k < H.length) : (swapL H i k).Perm H := by
  unfold swapL
  rw [hat_get hi, hat_get hk]
  exact List.set_set_perm hi hk

def HeapOK (H : List It) : Prop := ∀ j, j < H.length → 0 < j → ile (hat H (par j)) (hat H j)
/-- A heap, but that the one at i may be due ahead of its parent. -/
def UpI (H : List It) (i : Nat) : Prop :=
  i < H.length ∧ (∀ j, j < H.length → 0 < j → j ≠ i → ile (hat H (par j)) (hat H j)) ∧ ∀ j, j < H.length → 0 < j → par j = i → 0 < i → ile (hat H (par i)) (hat H j)
/-- A heap, but that the one at i may be due behind its children (and, as long as it stands where it began, ahead of its parent). -/
def DnI (H : List It) (i0 i : Nat) : Prop :=
  i < H.length ∧ i0 ≤ i ∧ (∀ j, j < H.length → 0 < j → par j ≠ i → (j ≠ i0 ∨ i ≠ i0) → ile (hat H (par j)) (hat H j)) ∧ ∀ j, j < H.length → 0 < j → par j = i → 0 < i → ile (hat H (par i)) (hat H j)

theorem par_lt {j : Nat} (h : 0 < j) : par j < j := by unfold par; omega
theorem par_child {j i : Nat} (h : 0 < j) (e : par j = i) : j = 2 * i + 1 ∨ j = 2 * i + 2 := by unfold par at e; omega
theorem par1 (i : Nat) : par (2 * i + 1) = i := by unfold par; omega
theorem par2 (i : Nat) : par (2 * i + 2) = i := by unfold par; omega

theorem UpI.done {H : List It} {i : Nat} (h : UpI H i) (hd : i = 0 ∨ ¬ ilt (hat H i) (hat H (par i))) : HeapOK H := by
  intro j hj h0
  by_cases e : j = i
  · subst e
    rcases hd with hd | hd
    · omega
    · exact hd
  · exact h.2.1 j hj h0 e
theorem UpI.step {H : List It} {i : Nat} (h : UpI H i) (h0 : 0 < i) (hl : ilt (hat H i) (hat H (par i))) : UpI (swapL H i (par i)) (par i) := by
  obtain ⟨hi, h1, h2⟩ := h
  have hp : par i < i := par_lt h0
  have hpl : par i < H.length := by omega
  have S := fun j => hat_swap (j := j) hi hpl
  refine ⟨by rw [swapL_len]; exact hpl, ?_, ?_⟩
  · intro j hj hj0 hjp
    rw [swapL_len] at hj
    have hpj := par_lt hj0
    rw [S (par j), S j, if_neg hjp]
    by_cases e : j = i
    · subst e
      rw [if_pos rfl, if_pos rfl]
      exact ile_of_lt hl
    · rw [if_neg e]
      by_cases e1 : par j = par i
      · rw [if_pos e1]
        have := h1 j hj hj0 e
        rw [e1] at this
        exact ile_of_lt (ilt_le hl this)
      · rw [if_neg e1]
        by_cases e2 : par j = i
        · rw [if_pos e2]
          exact h2 j hj hj0 e2 h0
        · rw [if_neg e2]
          exact h1 j hj hj0 e
  · intro j hj hj0 hjp hp0
    rw [swapL_len] at hj
    have hpp := par_lt hp0
    rw [S (par (par i)), S j, if_neg (by omega), if_neg (by omega)]
    have hpar := h1 (par i) hpl hp0 (by omega)
    by_cases e : j = par i
    · have := par_lt hj0; omega
    · rw [if_neg e]
      by_cases e1 : j = i
      · rw [if_pos e1]; exact hpar
      · rw [if_neg e1]
        have := h1 j hj hj0 e1
        rw [hjp] at this
        exact ile_trans hpar this

theorem HeapOK.up {H : List It} (h : HeapOK H) {i : Nat} (hi : i < H.length) : UpI H i :=
  ⟨hi, fun j hj h0 _ => h j hj h0, fun j hj h0 e hi0 => ile_trans (h i hi hi0) (e ▸ h j hj h0)⟩
theorem DnI.done {H : List It} {i0 i : Nat} (h : DnI H i0 i) (h1 : 2 * i + 1 < H.length → ¬ ilt (hat H (2 * i + 1)) (hat H i)) (h2 : 2 * i + 2 < H.length → ¬ ilt (hat H (2 * i + 2)) (hat H i)) : UpI H i0 := by
  obtain ⟨hi, hle, h3, h4⟩ := h
  have hc : ∀ j, j < H.length → 0 < j → par j = i → ile (hat H (par j)) (hat H j) := by
    intro j hj hj0 e
    rw [e]
    rcases par_child hj0 e with rfl | rfl
    · exact h1 hj
    · exact h2 hj
  by_cases e : i = i0
  · subst e
    refine ⟨hi, fun j hj h0 hne => ?_, h4⟩
    by_cases hp : par j = i
    · exact hc j hj h0 hp
    · exact h3 j hj h0 hp (.inl hne)
  · refine HeapOK.up (fun j hj h0 => ?_) (by omega)
    by_cases hp : par j = i
    · exact hc j hj h0 hp
    · exact h3 j hj h0 hp (.inr e)
theorem DnI.step {H : List It} {i0 i c : Nat} (h : DnI H i0 i) (hc : c < H.length) (hc0 : 0 < c) (hp : par c = i) (hl : ilt (hat H c) (hat H i)) (ho : ∀ j, j < H.length → 0 < j → par j = i → ile (hat H c) (hat H j)) : DnI (swapL H i c) i0 c := by
  obtain ⟨hi, hle, h3, h4⟩ := h
  have hic : i < c := hp ▸ par_lt hc0
  have S := fun j => hat_swap (j := j) hi hc
  refine ⟨by rw [swapL_len]; exact hc, by omega, ?_, ?_⟩
  · intro j hj hj0 hjp _
    rw [swapL_len] at hj
    have hpj := par_lt hj0
    rw [S (par j), S j, if_neg hjp]
    by_cases e : j = c
    · subst e
      rw [if_pos rfl, if_pos hp]
      exact ile_of_lt hl
    · rw [if_neg e]
      by_cases e1 : j = i
      · subst e1
        rw [if_pos rfl, if_neg (by omega)]
        have := h4 c hc hc0 hp hj0
        exact this
      · rw [if_neg e1]
        by_cases e2 : par j = i
        · rw [if_pos e2]
          exact ho j hj hj0 e2
        · rw [if_neg e2]
          exact h3 j hj hj0 e2 (by omega)
  · intro j hj hj0 hjp _
    rw [swapL_len] at hj
    have hpj := par_lt hj0
    rw [hp, S i, S j, if_neg (by omega), if_pos rfl, if_neg (by omega), if_neg (by omega)]
    have := h3 j hj hj0 (by omega) (by omega)
    rw [hjp] at this
    exact this

theorem HeapOK.root {H : List It} (h : HeapOK H) : ∀ j, j < H.length → ile (hat H 0) (hat H j) := by
  intro j
  induction j using Nat.strongRecOn with
  | ind j ih =>
    intro hj
    by_cases h0 : j = 0
    · subst h0; exact ile_refl _
    · have hp := par_lt (j := j) (by omega)
      exact ile_trans (ih (par j) hp (by omega)) (h j hj (by omega))

/-- The one at i is put at the end, and goes: what stands then. -/
def cutL (H : List It) (i : Nat) : List It := (swapL H i (H.length - 1)).dropLast
theorem cutL_len (H : List It) (i : Nat) : (cutL H i).length = H.length - 1 := by simp [cutL, swapL_len]
theorem hat_dropLast {H : List It} {j : Nat} (h : j < H.length - 1) : hat H.dropLast j = hat H j := by
  have h' : j < H.length := by omega
  simp [hat, h, h']
theorem hat_cut {H : List It} {i j : Nat} (hi : i < H.length) (hj : j < H.length - 1) : hat (cutL H i) j = if j = i then hat H (H.length - 1) else hat H j := by
  unfold cutL
  rw [hat_dropLast (by rw [swapL_len]; exact hj), hat_swap hi (by omega), if_neg (by omega)]
theorem cutL_perm {H : List It} {i : Nat} (hi : i < H.length) : (hat H i :: cutL H i).Perm H := by
  have hl : (swapL H i (H.length - 1)).length = H.length := swapL_len ..
  have hne : swapL H i (H.length - 1) ≠ [] := by intro e; rw [e] at hl; simp at hl; omega
  have h1 : (swapL H i (H.length - 1)).getLast hne = hat H i := by
    have := hat_swap (j := H.length - 1) hi (show H.length - 1 < H.length by omega)
    rw [if_pos rfl] at this
    rw [List.getLast_eq_getElem, ← hat_get (by omega)]
    rw [hl]; exact this
  have h2 := List.dropLast_concat_getLast hne
  rw [h1] at h2
  refine List.Perm.trans ?_ (swapL_perm hi (show H.length - 1 < H.length by omega))
  unfold cutL
  conv => rhs; rw [← h2]
  exact (List.perm_append_comm (l₁ := [hat H i])).symm.symm
theorem HeapOK.cut {H : List It} (h : HeapOK H) {i : Nat} (hi : i < H.length - 1) : DnI (cutL H i) i i := by
  have hil : i < H.length := by omega
  refine ⟨by rw [cutL_len]; exact hi, Nat.le_refl _, ?_, ?_⟩
  · intro j hj hj0 hp hor
    rw [cutL_len] at hj
    have hne : j ≠ i := by omega
    have hpj := par_lt hj0
    rw [hat_cut hil hj, hat_cut hil (by omega), if_neg hne, if_neg hp]
    exact h j (by omega) hj0
  · intro j hj hj0 hp hi0
    rw [cutL_len] at hj
    have hpj := par_lt hj0
    have hpi := par_lt hi0
    rw [hat_cut hil hj, hat_cut hil (by omega), if_neg (by omega), if_neg (by omega)]
    have h1 := h j (by omega) hj0
    rw [hp] at h1
    exact ile_trans (h i hil hi0) h1
theorem HeapOK.cut_last {H : List It} (h : HeapOK H) {i : Nat} (hi : i = H.length - 1) (h0 : 0 < H.length) : HeapOK (cutL H i) := by
  intro j hj hj0
  rw [cutL_len] at hj
  have hpj := par_lt hj0
  rw [hat_cut (by omega) hj, hat_cut (by omega) (by omega), if_neg (by omega), if_neg (by omega)]
  exact h j (by omega) hj0
theorem HeapOK.snoc {H : List It} (h : HeapOK H) (x : It) : UpI (H ++ [x]) H.length := by
  have e : ∀ j, j < H.length → hat (H ++ [x]) j = hat H j := fun j hj => by simp [hat, List.getElem?_append_left hj]
  refine ⟨by simp, ?_, ?_⟩
  · intro j hj hj0 hne
    have hj' : j < H.length := by simp at hj; omega
    have := par_lt hj0
    rw [e j hj', e _ (by omega)]
    exact h j hj' hj0
  · intro j hj hj0 hp _
    have := par_lt hj0
    simp at hj
    omega

end Go.Proofs.Ytlilogcojeoelaa

namespace Go.Proofs.Ytlilogcojeoelaa
set_option linter.all false
open Go

abbrev KA := ByteArray × Int
def qdrop (a : ByteArray) (L : List KA) : List KA := L.filter fun x => decide (x.1 ≠ a)
def qins (a : ByteArray) (t : Int) (L : List KA) : List KA := L.takeWhile (fun x => decide (x.2 ≤ t)) ++ (a, t) :: L.dropWhile (fun x => decide (x.2 ≤ t))
def qset (a : ByteArray) (t : Int) (L : List KA) : List KA := qins a t (qdrop a L)
def qdue (now : Int) (L : List KA) : List ByteArray := (L.takeWhile fun x => decide (x.2 ≤ now)).map (·.1)
def qrest (now : Int) (L : List KA) : List KA := L.dropWhile fun x => decide (x.2 ≤ now)
def itp (x : It) : KA := (x.k, x.at_)

/-- A heap holds these, in this order. -/
structure QInv (H : List It) (L : List KA) (s : Int) : Prop where
  hp : HeapOK H
  ex : ∃ S : List It, S.Perm H ∧ S.Pairwise ilt ∧ S.map itp = L ∧ ∀ x ∈ S, x.num ≤ s
  nd : (H.map (·.k)).Nodup
  ln : (H.length : Int) ≤ s

theorem filter_map_itp (a : ByteArray) (S : List It) : (S.filter fun x => decide (x.k ≠ a)).map itp = qdrop a (S.map itp) := by
  unfold qdrop
  rw [List.filter_map]; rfl
theorem hat_mem {H : List It} {i : Nat} (h : i < H.length) : hat H i ∈ H := by rw [hat_get h]; exact List.getElem_mem h
theorem QInv.len {H : List It} {L : List KA} {s : Int} (h : QInv H L s) : L.length = H.length := by
  obtain ⟨S, h1, _, h3, _⟩ := h.ex
  rw [← h3, List.length_map]; exact h1.length_eq
theorem QInv.keys {H : List It} {L : List KA} {s : Int} (h : QInv H L s) : (L.map (·.1)).Nodup := by
  obtain ⟨S, h1, _, h3, _⟩ := h.ex
  rw [← h3, List.map_map]
  exact (h1.map (fun x : It => x.k)).nodup_iff.2 h.nd
theorem filter_others {H : List It} {x : It} (hn : ((x :: H).map (·.k)).Nodup) : (x :: H).filter (fun y => decide (y.k ≠ x.k)) = H := by
  rw [List.map_cons, List.nodup_cons] at hn
  rw [List.filter_cons, if_neg (by simp), List.filter_eq_self]
  intro y hy
  simp only [decide_eq_true_eq]
  exact fun e => hn.1 (List.mem_map.2 ⟨y, hy, e⟩)
theorem QInv.drop {H H' : List It} {L : List KA} {s : Int} (h : QInv H L s) {i : Nat} (hi : i < H.length) (hh : HeapOK H') (hp : (hat H i :: H').Perm H) : QInv H' (qdrop (hat H i).k L) s := by
  have hnd := h.nd
  obtain ⟨S, h1, h2, h3, h4⟩ := h.ex
  have hn1 : ((hat H i :: H').map (·.k)).Nodup := (hp.map _).nodup_iff.2 hnd
  refine ⟨hh, ⟨S.filter fun x => decide (x.k ≠ (hat H i).k), ?_, h2.filter _, by rw [filter_map_itp, h3], fun x hx => h4 x (List.mem_filter.1 hx).1⟩, ?_, ?_⟩
  · refine ((h1.trans hp.symm).filter _).trans ?_
    rw [filter_others hn1]
  · rw [List.map_cons, List.nodup_cons] at hn1; exact hn1.2
  · have := hp.length_eq
    have := h.ln
    rw [List.length_cons] at *
    omega
theorem sorted_drop {S : List It} (h : S.Pairwise ilt) (t : Int) : ∀ z ∈ S.dropWhile (fun x => decide (x.at_ ≤ t)), t < z.at_ := by
  induction S with
  | nil => intro z hz; cases hz
  | cons x r ih =>
    rw [List.pairwise_cons] at h
    rw [List.dropWhile_cons]
    split
    · exact ih h.2
    · rename_i hx
      simp only [decide_eq_true_eq] at hx
      intro z hz
      rcases List.mem_cons.1 hz with rfl | hz
      · omega
      · have := h.1 z hz
        unfold ilt at this
        omega
theorem takeWhile_map_itp (t : Int) (S : List It) : (S.map itp).takeWhile (fun x => decide (x.2 ≤ t)) = (S.takeWhile fun x => decide (x.at_ ≤ t)).map itp := by
  rw [List.takeWhile_map]; rfl
theorem dropWhile_map_itp (t : Int) (S : List It) : (S.map itp).dropWhile (fun x => decide (x.2 ≤ t)) = (S.dropWhile fun x => decide (x.at_ ≤ t)).map itp := by
  rw [List.dropWhile_map]; rfl
theorem mem_takeWhile_at {t : Int} {S : List It} {x : It} (h : x ∈ S.takeWhile fun x => decide (x.at_ ≤ t)) : x.at_ ≤ t ∧ x ∈ S := by
  refine ⟨?_, List.takeWhile_sublist _ |>.mem h⟩
  have := List.all_takeWhile (p := fun x : It => decide (x.at_ ≤ t)) (l := S)
  rw [List.all_eq_true] at this
  simpa using this x h
theorem QInv.set {H H' : List It} {L : List KA} {s : Int} (h : QInv H L s) {a : ByteArray} {t : Int} (ha : a ∉ H.map (·.k)) (hh : HeapOK H') (hp : H'.Perm (H ++ [⟨a, t, s + 1⟩])) : QInv H' (qins a t L) (s + 1) := by
  have hnd := h.nd
  have hln := h.ln
  obtain ⟨S, h1, h2, h3, h4⟩ := h.ex
  have hdw := sorted_drop h2 t
  refine ⟨hh, ⟨(S.takeWhile fun x => decide (x.at_ ≤ t)) ++ ⟨a, t, s + 1⟩ :: (S.dropWhile fun x => decide (x.at_ ≤ t)), ?_, ?_, ?_, ?_⟩, ?_, ?_⟩
  · refine List.perm_middle.trans ?_
    rw [List.takeWhile_append_dropWhile]
    refine (h1.cons _).trans ?_
    refine List.Perm.trans ?_ hp.symm
    exact (List.perm_append_comm (l₁ := [_]))
  · rw [List.pairwise_append]
    refine ⟨h2.sublist (List.takeWhile_sublist _), ?_, ?_⟩
    · rw [List.pairwise_cons]
      refine ⟨fun z hz => .inl (hdw z hz), h2.sublist (List.dropWhile_sublist _)⟩
    · intro y hy z hz
      obtain ⟨y1, y2⟩ := mem_takeWhile_at hy
      have y3 := h4 y y2
      rcases List.mem_cons.1 hz with rfl | hz
      · unfold ilt; simp only; omega
      · have := hdw z hz
        exact .inl (by omega)
  · rw [List.map_append, List.map_cons, ← takeWhile_map_itp, ← dropWhile_map_itp, h3]; rfl
  · intro x hx
    rcases List.mem_append.1 hx with hx | hx
    · have := h4 x (mem_takeWhile_at hx).2; omega
    · rcases List.mem_cons.1 hx with rfl | hx
      · exact Int.le_refl _
      · have := h4 x ((List.dropWhile_sublist _).mem hx); omega
  · refine (hp.map _).nodup_iff.2 ?_
    rw [List.map_append, List.nodup_append]
    refine ⟨hnd, by simp, fun x hx y hy e => ?_⟩
    simp at hy
    subst hy e
    exact ha hx
  · have := hp.length_eq
    rw [List.length_append, List.length_cons, List.length_nil] at this
    omega
theorem QInv.head {H : List It} {L : List KA} {s : Int} (h : QInv H L s) (h0 : 0 < H.length) : ∃ r, L = itp (hat H 0) :: r ∧ qdrop (hat H 0).k L = r := by
  have hk := h.keys
  obtain ⟨S, h1, h2, h3, h4⟩ := h.ex
  cases S with
  | nil => have := h1.length_eq; simp at this; omega
  | cons x r =>
    have hx : x = hat H 0 := by
      have hm : x ∈ H := h1.mem_iff.1 (by simp)
      obtain ⟨j, hj, e⟩ := List.mem_iff_getElem.1 hm
      have hr := h.hp.root j hj
      rw [hat_get hj, e] at hr
      have hm0 := h1.mem_iff.2 (hat_mem h0)
      rcases List.mem_cons.1 hm0 with e0 | e0
      · exact e0.symm
      · exact absurd ((List.pairwise_cons.1 h2).1 _ e0) hr
    subst hx
    rw [← h3] at hk
    refine ⟨r.map itp, h3.symm, ?_⟩
    rw [← h3, List.map_cons]
    unfold qdrop
    rw [List.filter_cons, if_neg (by simp [itp]), List.filter_eq_self]
    intro y hy
    simp only [decide_eq_true_eq]
    rw [List.map_cons, List.map_cons, List.nodup_cons] at hk
    exact fun e => hk.1 (List.mem_map.2 ⟨y, hy, e⟩)
theorem QInv.get {H : List It} {L : List KA} {s : Int} (h : QInv H L s) (a : ByteArray) : (mget a L = none ∧ ∀ j, j < H.length → (hat H j).k ≠ a) ∨ ∃ j, j < H.length ∧ (hat H j).k = a ∧ mget a L = some (hat H j).at_ := by
  have hk := h.keys
  obtain ⟨S, h1, h2, h3, h4⟩ := h.ex
  by_cases hm : ∃ j, j < H.length ∧ (hat H j).k = a
  · obtain ⟨j, hj, e⟩ := hm
    right
    refine ⟨j, hj, e, ?_⟩
    rw [mget_mem hk, ← h3]
    exact List.mem_map.2 ⟨hat H j, h1.mem_iff.2 (hat_mem hj), by simp [itp, e]⟩
  · left
    refine ⟨?_, fun j hj e => hm ⟨j, hj, e⟩⟩
    rw [mget_none, ← h3]
    intro x hx e
    obtain ⟨y, hy, rfl⟩ := List.mem_map.1 hx
    obtain ⟨j, hj, e2⟩ := List.mem_iff_getElem.1 (h1.mem_iff.1 hy)
    exact hm ⟨j, hj, by rw [hat_get hj, e2]; exact e⟩
theorem qdrop_none {a : ByteArray} {L : List KA} (h : mget a L = none) : qdrop a L = L := by
  unfold qdrop
  rw [List.filter_eq_self]
  intro x hx
  simpa using mget_none.1 h x hx
theorem QInv.nil : QInv [] [] 0 := ⟨by intro j hj; simp at hj, ⟨[], List.Perm.refl _, List.Pairwise.nil, rfl, by simp⟩, by simp, by simp⟩

end Go.Proofs.Ytlilogcojeoelaa
