/- The store of two segments: what its arena stands for. Plain lists and numbers, no program. -/
import Derived.Test.YtlilogcojeoelaaSlruM
namespace Go.Proofs.Ytlilogcojeoelaa
set_option linter.all false
open Go

def hdd : List Nat → Int → Int
  | [], q => q
  | i :: _, _ => i
def lsd : List Nat → Int → Int
  | [], p => p
  | i :: r, _ => lsd r i

/-- A doubly linked row of places. -/
def Dl (A : List Ent) (g p : Int) : List Nat → Int → Prop
  | [], _ => True
  | i :: r, q => (∃ e, A[i]? = some e ∧ e.g = g ∧ e.n = p ∧ e.o = hdd r q) ∧ Dl A g i r q

theorem hdd_append (L1 L2 : List Nat) (q : Int) : hdd (L1 ++ L2) q = hdd L1 (hdd L2 q) := by cases L1 <;> rfl
theorem lsd_append (L1 L2 : List Nat) (p : Int) : lsd (L1 ++ L2) p = lsd L2 (lsd L1 p) := by
  induction L1 generalizing p with
  | nil => rfl
  | cons i r ih => exact ih _
theorem Dl_append (A : List Ent) (g p : Int) (L1 L2 : List Nat) (q : Int) : Dl A g p (L1 ++ L2) q ↔ Dl A g p L1 (hdd L2 q) ∧ Dl A g (lsd L1 p) L2 q := by
  induction L1 generalizing p with
  | nil => simp [Dl, lsd]
  | cons i r ih =>
    simp only [List.cons_append, Dl, lsd]
    rw [ih, hdd_append]
    constructor
    · rintro ⟨h1, h2, h3⟩; exact ⟨⟨h1, h2⟩, h3⟩
    · rintro ⟨⟨h1, h2⟩, h3⟩; exact ⟨h1, h2, h3⟩
theorem Dl_frame {A B : List Ent} {g p : Int} {L : List Nat} {q : Int} (h : Dl A g p L q) (he : ∀ i ∈ L, B[i]? = A[i]?) : Dl B g p L q := by
  induction L generalizing p with
  | nil => trivial
  | cons i r ih =>
    obtain ⟨⟨e, h1, h2⟩, h3⟩ := h
    exact ⟨⟨e, (he i (by simp)).trans h1, h2⟩, ih h3 (fun j hj => he j (by simp [hj]))⟩
theorem setN_at (A : List Ent) (i : Nat) (v : Int) (e : Ent) (h : A[i]? = some e) : (setN A i v)[i]? = some { e with n := v } := by simp [setN, List.getElem?_modify, h]
theorem setO_at (A : List Ent) (i : Nat) (v : Int) (e : Ent) (h : A[i]? = some e) : (setO A i v)[i]? = some { e with o := v } := by simp [setO, List.getElem?_modify, h]

theorem lsd_mem (L : List Nat) (p : Int) : lsd L p = p ∨ ∃ i ∈ L, lsd L p = i := by
  induction L generalizing p with
  | nil => exact .inl rfl
  | cons i r ih =>
    right
    rcases ih i with h | ⟨j, hj, h⟩
    · exact ⟨i, by simp, h⟩
    · exact ⟨j, by simp [hj], h⟩

/-- The row's end gets another place behind it. -/
theorem Dl_setO {A : List Ent} {g p : Int} {L : List Nat} {q : Int} (q' : Int) (h : Dl A g p L q) (hn : L.Nodup) (hL : L ≠ []) : Dl (setO A (lsd L p) q') g p L q' := by
  induction L generalizing p with
  | nil => exact absurd rfl hL
  | cons i r ih =>
    obtain ⟨⟨e, h1, h2, h3, h4⟩, h5⟩ := h
    simp only [List.nodup_cons] at hn
    cases r with
    | nil => exact ⟨⟨{ e with o := q' }, setO_at _ _ _ _ h1, h2, h3, rfl⟩, trivial⟩
    | cons j r =>
      have h6 := ih (p := i) h5 hn.2 (by simp)
      refine ⟨⟨e, ?_, h2, h3, h4⟩, h6⟩
      obtain ⟨m, hm, he⟩ : ∃ m ∈ j :: r, lsd (j :: r) i = m := by
        rcases lsd_mem r j with h | ⟨m, hm, h⟩
        · exact ⟨j, by simp, h⟩
        · exact ⟨m, by simp [hm], h⟩
      show (setO A (lsd (j :: r) i) q')[i]? = _
      rw [he, setO_ne _ _ _ _ (by intro hmi; subst hmi; exact hn.1 hm)]
      exact h1
/-- The row's head gets another place ahead of it. -/
theorem Dl_setN {A : List Ent} {g p : Int} {j : Nat} {r : List Nat} {q : Int} (p' : Int) (h : Dl A g p (j :: r) q) (hn : (j :: r).Nodup) : Dl (setN A j p') g p' (j :: r) q := by
  obtain ⟨⟨e, h1, h2, h3, h4⟩, h5⟩ := h
  simp only [List.nodup_cons] at hn
  exact ⟨⟨{ e with n := p' }, setN_at _ _ _ _ h1, h2, rfl, h4⟩, Dl_frame h5 (fun i hi => setN_ne _ _ _ _ (fun e => hn.1 (e ▸ hi)))⟩

/-- What is kept of an entry whatever is linked. -/
def same (A B : List Ent) : Prop := B.length = A.length ∧ ∀ i : Nat, ((B[i]?).map fun e => (e.k, e.s)) = ((A[i]?).map fun e => (e.k, e.s))
theorem same.refl (A : List Ent) : same A A := ⟨rfl, fun _ => rfl⟩
theorem same.trans {A B C : List Ent} (h : same A B) (h' : same B C) : same A C := ⟨h'.1.trans h.1, fun i => (h'.2 i).trans (h.2 i)⟩
theorem same_setN (A : List Ent) (j v : Int) : same A (setN A j v) := ⟨setN_len _ _ _, fun i => by
  simp only [setN, List.getElem?_modify]
  cases A[i]? <;> simp <;> split <;> simp⟩
theorem same_setO (A : List Ent) (j v : Int) : same A (setO A j v) := ⟨setO_len _ _ _, fun i => by
  simp only [setO, List.getElem?_modify]
  cases A[i]? <;> simp <;> split <;> simp⟩
theorem same_unl (A : List Ent) (x : Ent) : same A (unlA A x) := by
  unfold unlA
  simp only []
  split <;> split
  · exact same.refl _
  · exact same_setO _ _ _
  · exact same_setN _ _ _
  · exact (same_setO _ _ _).trans (same_setN _ _ _)

/-- A segment: its row of places, its ends. -/
def Seg (A : List Ent) (g : Int) (L : List Nat) (l : Lst) : Prop := Dl A g (-1) L (-1) ∧ l.first = hdd L (-1) ∧ l.last = lsd L (-1)

theorem hdd_ge (L : List Nat) : hdd L (-1) = -1 ∨ ∃ i ∈ L, hdd L (-1) = i := by
  cases L with
  | nil => exact .inl rfl
  | cons i r => exact .inr ⟨i, by simp, rfl⟩

theorem unl_other {A : List Ent} {x : Ent} {i : Nat} (h1 : x.n = -1 ∨ ∃ p : Nat, x.n = p ∧ p ≠ i) (h2 : x.o = -1 ∨ ∃ q : Nat, x.o = q ∧ q ≠ i) : (unlA A x)[i]? = A[i]? := by
  unfold unlA
  simp only []
  rcases h1 with h1 | ⟨p, h1, hp⟩ <;> rcases h2 with h2 | ⟨q, h2, hq⟩
  · rw [if_pos h2, if_pos h1]
  · rw [if_neg (show ¬ x.o = -1 by omega), if_pos h1, h2, setN_ne _ _ _ _ hq]
  · rw [if_pos h2, if_neg (show ¬ x.n = -1 by omega), h1, setO_ne _ _ _ _ hp]
  · rw [if_neg (show ¬ x.o = -1 by omega), if_neg (show ¬ x.n = -1 by omega), h2, setN_ne _ _ _ _ hq, h1, setO_ne _ _ _ _ hp]

/-- Unlinking takes the place out of its row, and turns no other row. -/
theorem seg_unlink {A : List Ent} {g : Int} {L1 L2 : List Nat} {i : Nat} {l : Lst} {x : Ent} (h : Seg A g (L1 ++ i :: L2) l) (hn : (L1 ++ i :: L2).Nodup) (hx : A[i]? = some x) :
    Seg (unlA A x) g (L1 ++ L2) (unlL l x) ∧ x.g = g ∧ x.n = lsd L1 (-1) ∧ x.o = hdd L2 (-1) ∧ (unlA A x)[i]? = some x ∧ ∀ j, j ∉ L1 ++ i :: L2 → (unlA A x)[j]? = A[j]? := by
  obtain ⟨hd, hf, hl⟩ := h
  rw [Dl_append] at hd
  obtain ⟨d1, ⟨e, he, e1, e2, e3⟩, d2⟩ := hd
  obtain rfl : e = x := by rw [hx] at he; exact (Option.some.inj he).symm
  rw [List.nodup_append] at hn
  obtain ⟨n1, n2, n3⟩ := hn
  simp only [List.nodup_cons] at n2
  have i1 : i ∉ L1 := fun hi => n3 i hi i (by simp) rfl
  have hn' : e.n = -1 ∨ ∃ p : Nat, e.n = p ∧ p ∈ L1 := by
    rw [e2]
    rcases lsd_mem L1 (-1) with h | ⟨p, hp, h⟩
    · exact .inl h
    · exact .inr ⟨p, h, hp⟩
  have ho' : e.o = -1 ∨ ∃ p : Nat, e.o = p ∧ p ∈ L2 := by
    rw [e3]
    rcases hdd_ge L2 with h | ⟨p, hp, h⟩
    · exact .inl h
    · exact .inr ⟨p, h, hp⟩
  have hoth : ∀ j, j ∉ L1 → j ∉ L2 → (unlA A e)[j]? = A[j]? := fun j h1 h2 =>
    unl_other (hn'.imp id fun ⟨p, hp, hm⟩ => ⟨p, hp, fun e => h1 (e ▸ hm)⟩) (ho'.imp id fun ⟨p, hp, hm⟩ => ⟨p, hp, fun e => h2 (e ▸ hm)⟩)
  refine ⟨?_, e1, e2, e3, (hoth i i1 n2.1).trans hx, fun j hj => hoth j (fun h => hj (by simp [h])) (fun h => hj (by simp [h]))⟩
  have hdis : ∀ a ∈ L1, a ∉ L2 := fun a ha hb => n3 a ha a (by simp [hb]) rfl
  refine ⟨?_, ?_, ?_⟩
  · rw [Dl_append]
    unfold unlA
    simp only []
    constructor
    · -- the first half
      have step1 : Dl (if e.n = -1 then A else setO A e.n e.o) g (-1) L1 (hdd L2 (-1)) := by
        cases L1 with
        | nil => trivial
        | cons a r =>
          have : ¬ e.n = -1 := by
            rw [e2]
            rcases lsd_mem r a with h | ⟨p, _, h⟩ <;> (show ¬ lsd r a = -1; omega)
          rw [if_neg this, e2, e3]
          exact Dl_setO _ d1 n1 (by simp)
      split
      · exact step1
      · rename_i hq
        obtain ⟨q, hq', hqm⟩ := ho'.resolve_left hq
        exact Dl_frame step1 (fun a ha => by rw [hq']; exact setN_ne _ _ _ _ (fun e => hdis a ha (e ▸ hqm)))
    · cases L2 with
      | nil => trivial
      | cons c r =>
        have hq : ¬ e.o = -1 := by rw [e3]; show ¬ ((c : Int) = -1); omega
        rw [if_neg hq]
        have d2' : Dl (if e.n = -1 then A else setO A e.n e.o) g i (c :: r) (-1) := by
          split
          · exact d2
          · rename_i hp
            obtain ⟨p, hp', hpm⟩ := hn'.resolve_left hp
            exact Dl_frame d2 (fun a ha => by rw [hp']; exact setO_ne _ _ _ _ (fun e => hdis p hpm (e ▸ ha)))
        have hco : e.o = (c : Int) := e3
        have := Dl_setN e.n d2' n2.2
        rw [← hco] at this
        rw [← e2]
        exact this
  · show (if e.n = -1 then e.o else l.first) = _
    rw [hdd_append]
    cases L1 with
    | nil => rw [if_pos (by rw [e2]; rfl), e3]; rfl
    | cons a r =>
      rw [if_neg (by rw [e2]; rcases lsd_mem r a with h | ⟨p, _, h⟩ <;> (show ¬ lsd r a = -1; omega)), hf]
      rfl
  · show (if e.o = -1 then e.n else l.last) = _
    rw [lsd_append]
    cases L2 with
    | nil => rw [if_pos (by rw [e3]; rfl), e2]; rfl
    | cons c r =>
      rw [if_neg (by rw [e3]; show ¬ ((c : Int) = -1); omega), hl, lsd_append]
      rfl

end Go.Proofs.Ytlilogcojeoelaa
