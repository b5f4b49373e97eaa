/- Heap assertions: a world holds a star of owned blocks, in a fixed environment (os, tape, output). No program is named here. -/
import Derived.WalkKit
import Derived.WalkSpells
import Derived.WalkLawsBesides
import Derived.Lib.Hide
namespace Go.Proofs.Ytlilogcojeoelaa
set_option linter.all false
open Go Go.RowKit

/-- A part of the heap: which blocks it has, and what they hold. -/
abbrev Hp := Nat → Option Obj
def Hp.disj (a b : Hp) : Prop := ∀ i, a i = none ∨ b i = none
def Hp.join (a b : Hp) : Hp := fun i => (a i).or (b i)
def Hp.emp : Hp := fun _ => none
def Hp.one (b : Nat) (o : Obj) : Hp := fun i => if i = b then some o else none

theorem Hp.disj_comm {a b : Hp} (h : Hp.disj a b) : Hp.disj b a := fun i => (h i).symm
theorem Hp.join_comm {a b : Hp} (h : Hp.disj a b) : Hp.join a b = Hp.join b a := by
  funext i
  rcases h i with e | e <;> simp [Hp.join, e]
theorem Hp.join_assoc (a b c : Hp) : Hp.join (Hp.join a b) c = Hp.join a (Hp.join b c) := by
  funext i; simp [Hp.join, Option.or_assoc]
theorem Hp.disj_join {a b c : Hp} : Hp.disj (Hp.join a b) c ↔ Hp.disj a c ∧ Hp.disj b c := by
  constructor
  · intro h
    refine ⟨fun i => ?_, fun i => ?_⟩ <;> rcases h i with e | e
    · simp [Hp.join] at e; exact .inl e.1
    · exact .inr e
    · simp [Hp.join] at e; exact .inl e.2
    · exact .inr e
  · rintro ⟨h1, h2⟩ i
    rcases h1 i with e | e
    · rcases h2 i with e' | e'
      · left; simp [Hp.join, e, e']
      · exact .inr e'
    · exact .inr e

structure Assn where
  on : Hp → Prop

theorem Assn.ext {P Q : Assn} (h : ∀ a, P.on a ↔ Q.on a) : P = Q := by
  cases P; cases Q; congr; funext a; exact propext (h a)

def Assn.star (P Q : Assn) : Assn := ⟨fun h => ∃ a b, Hp.disj a b ∧ h = Hp.join a b ∧ P.on a ∧ Q.on b⟩
instance : Mul Assn := ⟨Assn.star⟩
def emp : Assn := ⟨fun h => h = Hp.emp⟩
def blk (b : Nat) (o : Obj) : Assn := ⟨fun h => h = Hp.one b o⟩
def pur (p : Prop) : Assn := ⟨fun h => p ∧ h = Hp.emp⟩
def ex {α : Type} (P : α → Assn) : Assn := ⟨fun h => ∃ x, (P x).on h⟩

theorem star_on {P Q : Assn} {h : Hp} : (P * Q).on h ↔ ∃ a b, Hp.disj a b ∧ h = Hp.join a b ∧ P.on a ∧ Q.on b := Iff.rfl
theorem star_comm (P Q : Assn) : P * Q = Q * P :=
  Assn.ext fun h => ⟨fun ⟨a, b, d, e, p, q⟩ => ⟨b, a, Hp.disj_comm d, by rw [e, Hp.join_comm d], q, p⟩, fun ⟨a, b, d, e, p, q⟩ => ⟨b, a, Hp.disj_comm d, by rw [e, Hp.join_comm d], q, p⟩⟩
theorem star_assoc (P Q R : Assn) : P * Q * R = P * (Q * R) := by
  refine Assn.ext fun h => ⟨?_, ?_⟩
  · rintro ⟨x, c, d, e, ⟨a, b, d', e', p, q⟩, r⟩
    subst e'
    obtain ⟨d1, d2⟩ := Hp.disj_join.1 d
    refine ⟨a, Hp.join b c, Hp.disj_comm (Hp.disj_join.2 ⟨Hp.disj_comm d', Hp.disj_comm d1⟩), by rw [e, Hp.join_assoc], p, b, c, d2, rfl, q, r⟩
  · rintro ⟨a, x, d, e, p, b, c, d', e', q, r⟩
    subst e'
    obtain ⟨d1, d2⟩ := Hp.disj_join.1 (Hp.disj_comm d)
    refine ⟨Hp.join a b, c, Hp.disj_join.2 ⟨Hp.disj_comm d2, d'⟩, by rw [e, Hp.join_assoc], ⟨a, b, Hp.disj_comm d1, rfl, p, q⟩, r⟩
instance : Std.Commutative (α := Assn) (· * ·) := ⟨star_comm⟩
instance : Std.Associative (α := Assn) (· * ·) := ⟨star_assoc⟩
theorem star_left_comm (P Q R : Assn) : P * (Q * R) = Q * (P * R) := by rw [← star_assoc, star_comm P Q, star_assoc]
theorem emp_star (P : Assn) : emp * P = P :=
  Assn.ext fun h => ⟨by
    rintro ⟨a, b, _, e, p, q⟩
    have p' : a = Hp.emp := p
    subst p'
    have : h = b := by rw [e]; funext i; simp [Hp.join, Hp.emp]
    rw [this]; exact q, fun q => ⟨Hp.emp, h, fun _ => .inl rfl, by funext i; simp [Hp.join, Hp.emp], rfl, q⟩⟩
theorem star_emp (P : Assn) : P * emp = P := by rw [star_comm, emp_star]

/-- What a call may not change: the outside, the tape, what was printed. -/
structure Env where
  os : Os
  tape : Nat → Question → Nat
  output : Array (Nat × ByteArray)
def World.env (w : World) : Env := ⟨w.os, w.tape, w.output⟩

/-- The world holds at least this part of a heap. -/
def Sat (k : Env) (w : World) (P : Assn) : Prop := World.env w = k ∧ ∃ h : Hp, (∀ i o, h i = some o → w.heap[i]? = some o) ∧ P.on h

section
variable {k : Env} {w : World} {P Q R : Assn} {b c : Nat} {o : Obj}

theorem Sat.of_eq (h : Sat k w P) (e : P = Q) : Sat k w Q := e ▸ h
theorem Sat.env (h : Sat k w P) : World.env w = k := h.1

theorem Sat.mono (h : Sat k w (P * R)) (f : ∀ x, P.on x → Q.on x) : Sat k w (Q * R) := by
  obtain ⟨e, x, hx, a, b, d, e', p, r⟩ := h
  exact ⟨e, x, hx, a, b, d, e', f _ p, r⟩

theorem Sat.drop (h : Sat k w (P * R)) : Sat k w R := by
  obtain ⟨e, x, hx, a, b, d, e', p, r⟩ := h
  refine ⟨e, b, fun i o hi => hx i o ?_, r⟩
  rw [e']
  rcases d i with e1 | e1
  · simp [Hp.join, e1, hi]
  · rw [e1] at hi; cases hi

theorem Sat.only (h : Sat k w (P * R)) : Sat k w P := Sat.drop (h.of_eq (star_comm _ _))

theorem Sat.get (h : Sat k w (blk b o * R)) : w.heap[b]? = some o := by
  obtain ⟨e, x, hx, a, c, d, e', p, r⟩ := h
  refine hx b o ?_
  have p' : a = Hp.one b o := p
  rw [e', p']
  simp [Hp.join, Hp.one]

theorem Sat.lt (h : Sat k w (blk b o * R)) : b < w.heap.size := (Array.getElem?_eq_some_iff.1 h.get).1

theorem Sat.ne {o' : Obj} (h : Sat k w (blk b o * (blk c o' * R))) : b ≠ c := by
  obtain ⟨e, x, hx, a, y, d, e', p, c', z, d', e'', q, r⟩ := h
  have p' : a = Hp.one b o := p
  have q' : c' = Hp.one c o' := q
  intro ebc
  subst ebc
  rcases d b with e1 | e1
  · rw [p'] at e1; simp [Hp.one] at e1
  · rw [e'', q'] at e1; simp [Hp.join, Hp.one] at e1

theorem Sat.drew (h : Sat k w P) : Sat k w.drew P := h
theorem Sat.drewN (h : Sat k w P) (n : Nat) : Sat k (w.drewN n) P := h

theorem Sat.alloc (h : Sat k w P) (o : Obj) : Sat k (w.alloc o) (blk w.heap.size o * P) := by
  obtain ⟨e, x, hx, p⟩ := h
  have hlt : ∀ i, w.heap.size ≤ i → x i = none := by
    intro i hi
    cases hxi : x i with
    | none => rfl
    | some o' => have := (Array.getElem?_eq_some_iff.1 (hx i o' hxi)).1; omega
  refine ⟨e, Hp.join (Hp.one w.heap.size o) x, fun i o' hi => ?_, Hp.one w.heap.size o, x, fun i => ?_, rfl, rfl, p⟩
  · show (w.heap.push o)[i]? = some o'
    rw [Array.getElem?_push]
    by_cases hi' : i = w.heap.size
    · subst hi'
      simp [Hp.join, Hp.one] at hi
      simp [hi]
    · rw [if_neg hi']
      simp [Hp.join, Hp.one, hi'] at hi
      exact hx i o' hi
  · by_cases hi : i = w.heap.size
    · right; exact hlt i (by omega)
    · left; simp [Hp.one, hi]

/-- One block is turned into another one. -/
theorem Sat.turn {w' : World} {o' : Obj} (h : Sat k w (blk b o * R)) (he : World.env w' = World.env w) (hb : w'.heap[b]? = some o') (ho : ∀ i, i ≠ b → i < w.heap.size → w'.heap[i]? = w.heap[i]?) : Sat k w' (blk b o' * R) := by
  obtain ⟨e, x, hx, a, y, d, e', p, r⟩ := h
  have p' : a = Hp.one b o := p
  subst p'
  refine ⟨he.trans e, Hp.join (Hp.one b o') y, fun i q hi => ?_, Hp.one b o', y, fun i => ?_, rfl, rfl, r⟩
  · by_cases hib : i = b
    · subst hib
      simp [Hp.join, Hp.one] at hi
      rw [hb, hi]
    · have hyi : y i = some q := by simpa [Hp.join, Hp.one, hib] using hi
      have hxi : x i = some q := by rw [e']; simp [Hp.join, Hp.one, hib, hyi]
      rw [ho i hib (Array.getElem?_eq_some_iff.1 (hx i q hxi)).1]
      exact hx i q hxi
  · rcases d i with e1 | e1
    · left
      by_cases hib : i = b
      · subst hib; simp [Hp.one] at e1
      · simp [Hp.one, hib]
    · exact .inr e1

theorem Sat.set {cs : Array Value} {E : TypeId} {fr : Nat × Nat} (h : Sat k w (blk b (.cells cs E fr) * R)) (i : Nat) (v : Value) : Sat k (w.setCell ⟨b, i, none⟩ v) (blk b (.cells (cs.setIfInBounds i v) E fr) * R) :=
  h.turn rfl (by
    have := h.get
    simp [World.setCell, Array.getElem?_modify, this]) (fun j hj _ => Below.heap_setCell _ _ _ _ hj)

theorem Sat.setObj {o' : Obj} (h : Sat k w (blk b o * R)) : Sat k { w with heap := w.heap.setIfInBounds b o' } (blk b o' * R) :=
  h.turn rfl (by
    have := h.lt
    simp [this]) (fun j hj _ => by simp [Ne.symm hj])

theorem Sat.cell {cs : Array Value} {E : TypeId} {fr : Nat × Nat} (h : Sat k w (blk b (.cells cs E fr) * R)) (i : Nat) : w.cell? ⟨b, i, none⟩ = cs[i]? := by
  simp [World.cell?, h.get]
theorem Sat.frozen {cs : Array Value} {E : TypeId} (h : Sat k w (blk b (.cells cs E (0, 0)) * R)) (i : Nat) : w.frozen? ⟨b, i, none⟩ = false := by
  simp [World.frozen?, h.get]

theorem Sat.swap (h : Sat k w (P * (Q * R))) : Sat k w (Q * (P * R)) := h.of_eq (star_left_comm _ _ _)
theorem Sat.swap2 {S : Assn} (h : Sat k w (P * (Q * (S * R)))) : Sat k w (P * (S * (Q * R))) := h.of_eq (by rw [star_left_comm Q S R])
section
variable {A B C D E : Assn}
/-- The third, fourth, fifth part to the front ('get'), and back ('put'). -/
theorem Sat.get3 (h : Sat k w (A * (B * (C * R)))) : Sat k w (C * (A * (B * R))) := h.swap2.swap
theorem Sat.put3 (h : Sat k w (C * (A * (B * R)))) : Sat k w (A * (B * (C * R))) := h.swap.swap2
theorem Sat.get4 (h : Sat k w (A * (B * (C * (D * R))))) : Sat k w (D * (A * (B * (C * R)))) := h.of_eq (by rw [star_left_comm C D R, star_left_comm B D (C * R), star_left_comm A D])
theorem Sat.put4 (h : Sat k w (D * (A * (B * (C * R))))) : Sat k w (A * (B * (C * (D * R)))) := h.of_eq (by rw [star_left_comm C D R, star_left_comm B D (C * R), star_left_comm A D])
theorem Sat.get5 (h : Sat k w (A * (B * (C * (D * (E * R)))))) : Sat k w (E * (A * (B * (C * (D * R))))) := h.of_eq (by rw [star_left_comm D E R, star_left_comm C E (D * R), star_left_comm B E (C * (D * R)), star_left_comm A E])
theorem Sat.put5 (h : Sat k w (E * (A * (B * (C * (D * R)))))) : Sat k w (A * (B * (C * (D * (E * R))))) := h.of_eq (by rw [star_left_comm D E R, star_left_comm C E (D * R), star_left_comm B E (C * (D * R)), star_left_comm A E])
end
theorem Sat.set2 {cs : Array Value} {E : TypeId} {fr : Nat × Nat} (h : Sat k w (P * (blk b (.cells cs E fr) * R))) (i : Nat) (v : Value) : Sat k (w.setCell ⟨b, i, none⟩ v) (P * (blk b (.cells (cs.setIfInBounds i v) E fr) * R)) := (h.swap.set i v).swap
theorem Sat.cell2 {cs : Array Value} {E : TypeId} {fr : Nat × Nat} (h : Sat k w (P * (blk b (.cells cs E fr) * R))) (i : Nat) : w.cell? ⟨b, i, none⟩ = cs[i]? := h.drop.cell i
theorem Sat.frozen2 {cs : Array Value} {E : TypeId} (h : Sat k w (P * (blk b (.cells cs E (0, 0)) * R))) (i : Nat) : w.frozen? ⟨b, i, none⟩ = false := h.drop.frozen i
theorem Sat.alloc' (h : Sat k w P) (o : Obj) : Sat k (w.alloc o) P := (h.alloc o).drop

theorem Sat.pure {p : Prop} : Sat k w (pur p * R) ↔ p ∧ Sat k w R := by
  constructor
  · intro h
    obtain ⟨_, _, _, a, b, _, _, ⟨hp, _⟩, _⟩ := id h
    exact ⟨hp, h.drop⟩
  · rintro ⟨hp, e, x, hx, r⟩
    refine ⟨e, x, hx, Hp.emp, x, fun _ => .inl rfl, by funext i; simp [Hp.join, Hp.emp], ⟨hp, rfl⟩, r⟩

theorem Sat.ex {α : Type} {F : α → Assn} : Sat k w (ex F * R) ↔ ∃ x, Sat k w (F x * R) := by
  constructor
  · rintro ⟨e, x, hx, a, b, d, e', ⟨y, p⟩, r⟩
    exact ⟨y, e, x, hx, a, b, d, e', p, r⟩
  · rintro ⟨y, e, x, hx, a, b, d, e', p, r⟩
    exact ⟨e, x, hx, a, b, d, e', ⟨y, p⟩, r⟩
end

/-- All that a world's heap holds. -/
def whole (w : World) : Assn := ⟨fun h => h = fun i => w.heap[i]?⟩
theorem Sat.whole (w : World) : Sat (World.env w) w (whole w) := ⟨rfl, _, fun _ _ h => h, rfl⟩
theorem Sat.below {W w : World} (h : Sat (World.env W) w (Go.Proofs.Ytlilogcojeoelaa.whole W)) : Below W.heap.size W w := by
  obtain ⟨e, x, hx, hw⟩ := h
  have hw' : x = fun i => W.heap[i]? := hw
  subst hw'
  have e1 : (World.env w).os = (World.env W).os := by rw [e]
  have e2 : (World.env w).tape = (World.env W).tape := by rw [e]
  have e3 : (World.env w).output = (World.env W).output := by rw [e]
  refine ⟨e1, e2, e3, ?_, fun i hi => ?_⟩
  · cases hs : W.heap.size with
    | zero => omega
    | succ n =>
      have := hx n W.heap[n] (by simp [hs])
      have := (Array.getElem?_eq_some_iff.1 this).1
      omega
  · rw [hx i W.heap[i] (by simp [hi])]; simp [hi]

end Go.Proofs.Ytlilogcojeoelaa
