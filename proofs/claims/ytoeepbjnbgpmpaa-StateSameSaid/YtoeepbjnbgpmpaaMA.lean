/- Several texts in one: Assoc, Sl, Own, Own2, Rec, Rw, RwW, Map, MapR, MapS, Far, Strs. -/
import Derived.WalkKit
import Derived.WalkSpells
import Derived.WalkLawsBesides
import Derived.Lib.Hide
import Derived.Deep.RegionLaw
import Derived.BigQuiet
import Derived.ProofKit
import Derived.SizedLaws
import Derived.Deep.Slices
import Derived.OpenShut
import Derived.Maps.Own
import Derived.Maps.OwnOps
import Derived.Maps.OwnSet
import Derived.Laws.StructEq
import Derived.Maps.RangeRun
import Derived.Maps.RangeWalk
import Derived.Test.YtoeepbjnbgpmpaaProg
namespace Go.Proofs.Ytoeepbjnbgpmpaa
set_option linter.all false
open Go

section
variable {K V : Type} [DecidableEq K]

theorem map_eraseIdx' {α β : Type} (f : α → β) (l : List α) (j : Nat) : (l.eraseIdx j).map f = (l.map f).eraseIdx j := by
  induction l generalizing j with
  | nil => simp
  | cons x r ih =>
    cases j with
    | zero => simp
    | succ j => simp [ih]

/-- What is kept by a key. -/
def mget (a : K) : List (K × V) → Option V
  | [] => none
  | x :: r => if x.1 = a then some x.2 else mget a r
def mput (a : K) (v : V) : List (K × V) → List (K × V)
  | [] => [(a, v)]
  | x :: r => if x.1 = a then (a, v) :: r else x :: mput a v r
def mdel (a : K) : List (K × V) → List (K × V)
  | [] => []
  | x :: r => if x.1 = a then r else x :: mdel a r
theorem mget_put (a b : K) (v : V) (l : List (K × V)) : mget b (mput a v l) = if a = b then some v else mget b l := by
  induction l with
  | nil => simp [mput, mget]
  | cons x r ih =>
    by_cases h : x.1 = a
    · rw [mput, if_pos h]
      by_cases hb : a = b
      · simp [mget, hb]
      · have : x.1 ≠ b := by rw [h]; exact hb
        simp [mget, hb, this]
    · rw [mput, if_neg h, mget, mget, ih]
      by_cases hx : x.1 = b
      · have : a ≠ b := fun e => h (hx.trans e.symm)
        simp [hx, this]
      · simp [hx]

theorem mdel_mem {a : K} {l : List (K × V)} {x : K × V} (h : x ∈ mdel a l) : x ∈ l := by
  induction l with
  | nil => simp [mdel] at h
  | cons y r ih =>
    rw [mdel] at h
    split at h
    · exact List.mem_cons_of_mem _ h
    · rcases List.mem_cons.1 h with rfl | h
      · exact List.mem_cons_self
      · exact List.mem_cons_of_mem _ (ih h)

theorem mget_none {a : K} {l : List (K × V)} : mget a l = none ↔ ∀ x ∈ l, x.1 ≠ a := by
  induction l with
  | nil => simp [mget]
  | cons y r ih =>
    rw [mget]
    by_cases h : y.1 = a
    · simp [h]
    · simp [h, ih]

theorem mget_del (a b : K) (l : List (K × V)) (hn : (l.map (·.1)).Nodup) : mget b (mdel a l) = if a = b then none else mget b l := by
  induction l with
  | nil => simp [mdel, mget]
  | cons x r ih =>
    simp only [List.map_cons, List.nodup_cons] at hn
    by_cases h : x.1 = a
    · rw [mdel, if_pos h]
      by_cases hb : a = b
      · rw [if_pos hb, mget_none]
        intro y hy e
        exact hn.1 (by rw [h, hb, ← e]; exact List.mem_map_of_mem hy)
      · have : x.1 ≠ b := by rw [h]; exact hb
        simp [mget, hb, this]
    · rw [mdel, if_neg h, mget, mget, ih hn.2]
      by_cases hx : x.1 = b
      · have : a ≠ b := fun e => h (hx.trans e.symm)
        simp [hx, this]
      · simp [hx]

theorem mdel_nodup (a : K) (l : List (K × V)) (hn : (l.map (·.1)).Nodup) : ((mdel a l).map (·.1)).Nodup := by
  induction l with
  | nil => simp [mdel]
  | cons x r ih =>
    simp only [List.map_cons, List.nodup_cons] at hn
    rw [mdel]
    split
    · exact hn.2
    · rw [List.map_cons, List.nodup_cons]
      refine ⟨fun h => ?_, ih hn.2⟩
      obtain ⟨y, hy, he⟩ := List.mem_map.1 h
      exact hn.1 (by rw [← he]; exact List.mem_map_of_mem (mdel_mem hy))

theorem mput_keys {a : K} {v : V} {l : List (K × V)} {x : K} (h : x ∈ ((mput a v l : List (K × V)).map (·.1))) : x = a ∨ x ∈ l.map (·.1) := by
  induction l with
  | nil => simp [mput] at h; exact .inl h
  | cons y r ih =>
    rw [mput] at h
    by_cases hy : y.1 = a
    · rw [if_pos hy] at h
      simp at h
      rcases h with h | h
      · exact .inl h
      · right; simp; exact .inr h
    · rw [if_neg hy, List.map_cons] at h
      rcases List.mem_cons.1 h with h | h
      · right; rw [h]; simp
      · rcases ih h with h | h
        · exact .inl h
        · right; rw [List.map_cons]; exact List.mem_cons_of_mem _ h

theorem mput_nodup (a : K) (v : V) (l : List (K × V)) (hn : (l.map (·.1)).Nodup) : ((mput a v l).map (·.1)).Nodup := by
  induction l with
  | nil => simp [mput]
  | cons x r ih =>
    simp only [List.map_cons, List.nodup_cons] at hn
    rw [mput]
    split
    · rename_i h
      rw [List.map_cons, List.nodup_cons]
      exact ⟨by show a ∉ _; rw [← h]; exact hn.1, hn.2⟩
    · rename_i h
      rw [List.map_cons, List.nodup_cons]
      refine ⟨fun hx => ?_, ih hn.2⟩
      rcases mput_keys hx with hx | hx
      · exact h hx
      · exact hn.1 hx

theorem mget_map {W : Type} (f : V → W) (a : K) (l : List (K × V)) : mget a (l.map fun x => (x.1, f x.2)) = (mget a l).map f := by
  induction l with
  | nil => rfl
  | cons x r ih => simp only [List.map_cons, mget, ih]; split <;> rfl
theorem mdel_map {W : Type} (f : V → W) (a : K) (l : List (K × V)) : mdel a (l.map fun x => (x.1, f x.2)) = (mdel a l).map fun x => (x.1, f x.2) := by
  induction l with
  | nil => rfl
  | cons x r ih => simp only [List.map_cons, mdel, ih]; split <;> rfl
theorem mput_map {W : Type} (f : V → W) (a : K) (v : V) (l : List (K × V)) : mput a (f v) (l.map fun x => (x.1, f x.2)) = (mput a v l).map fun x => (x.1, f x.2) := by
  induction l with
  | nil => rfl
  | cons x r ih => simp only [List.map_cons, mput, ih]; split <;> rfl
theorem mget_mem {a : K} {v : V} {l : List (K × V)} (hn : (l.map (·.1)).Nodup) : mget a l = some v ↔ (a, v) ∈ l := by
  induction l with
  | nil => simp [mget]
  | cons x r ih =>
    simp only [List.map_cons, List.nodup_cons] at hn
    rw [mget]
    by_cases h : x.1 = a
    · rw [if_pos h]
      constructor
      · intro e; cases e; rw [← h]; exact List.mem_cons_self
      · intro hm
        rcases List.mem_cons.1 hm with e | hm
        · rw [← e]
        · exact absurd (by rw [h]; exact List.mem_map_of_mem hm) hn.1
    · rw [if_neg h, ih hn.2]
      constructor
      · exact fun hm => List.mem_cons_of_mem _ hm
      · intro hm
        rcases List.mem_cons.1 hm with e | hm
        · rw [← e] at h; exact absurd rfl h
        · exact hm
end

end Go.Proofs.Ytoeepbjnbgpmpaa

namespace Go.Proofs.Ytoeepbjnbgpmpaa
set_option linter.all false
open Go Go.RowKit

/-- A part of the heap: which blocks it has, and what they hold. -/
abbrev Hp := Nat → Option Obj
def Hp.disj (a b : Hp) : Prop := ∀ i, a i = none ∨ b i = none
def Hp.join (a b : Hp) : Hp := fun i => (a i).or (b i)
def Hp.emp : Hp := fun _ => none
def Hp.one (b : Nat) (o : Obj) : Hp := fun i => if i = b then some o else none

theorem Hp.disj_comm {a b : Hp} (h : Hp.disj a b) : Hp.disj b a := fun i => (h i).symm
theorem Hp.join_comm {a b : Hp} (h : Hp.disj a b) : Hp.join a b = Hp.join b a := by
  funext i
  rcases h i with e | e <;> simp [Hp.join, e]
theorem Hp.join_assoc (a b c : Hp) : Hp.join (Hp.join a b) c = Hp.join a (Hp.join b c) := by
  funext i; simp [Hp.join, Option.or_assoc]
theorem Hp.disj_join {a b c : Hp} : Hp.disj (Hp.join a b) c ↔ Hp.disj a c ∧ Hp.disj b c := by
  constructor
  · intro h
    refine ⟨fun i => ?_, fun i => ?_⟩ <;> rcases h i with e | e
    · simp [Hp.join] at e; exact .inl e.1
    · exact .inr e
    · simp [Hp.join] at e; exact .inl e.2
    · exact .inr e
  · rintro ⟨h1, h2⟩ i
    rcases h1 i with e | e
    · rcases h2 i with e' | e'
      · left; simp [Hp.join, e, e']
      · exact .inr e'
    · exact .inr e

structure Assn where
  on : Hp → Prop

theorem Assn.ext {P Q : Assn} (h : ∀ a, P.on a ↔ Q.on a) : P = Q := by
  cases P; cases Q; congr; funext a; exact propext (h a)

def Assn.star (P Q : Assn) : Assn := ⟨fun h => ∃ a b, Hp.disj a b ∧ h = Hp.join a b ∧ P.on a ∧ Q.on b⟩
instance : Mul Assn := ⟨Assn.star⟩
def emp : Assn := ⟨fun h => h = Hp.emp⟩
def blk (b : Nat) (o : Obj) : Assn := ⟨fun h => h = Hp.one b o⟩
def pur (p : Prop) : Assn := ⟨fun h => p ∧ h = Hp.emp⟩
def ex {α : Type} (P : α → Assn) : Assn := ⟨fun h => ∃ x, (P x).on h⟩

theorem star_on {P Q : Assn} {h : Hp} : (P * Q).on h ↔ ∃ a b, Hp.disj a b ∧ h = Hp.join a b ∧ P.on a ∧ Q.on b := Iff.rfl
theorem star_comm (P Q : Assn) : P * Q = Q * P :=
  Assn.ext fun h => ⟨fun ⟨a, b, d, e, p, q⟩ => ⟨b, a, Hp.disj_comm d, by rw [e, Hp.join_comm d], q, p⟩, fun ⟨a, b, d, e, p, q⟩ => ⟨b, a, Hp.disj_comm d, by rw [e, Hp.join_comm d], q, p⟩⟩
theorem star_assoc (P Q R : Assn) : P * Q * R = P * (Q * R) := by
  refine Assn.ext fun h => ⟨?_, ?_⟩
  · rintro ⟨x, c, d, e, ⟨a, b, d', e', p, q⟩, r⟩
    subst e'
    obtain ⟨d1, d2⟩ := Hp.disj_join.1 d
    refine ⟨a, Hp.join b c, Hp.disj_comm (Hp.disj_join.2 ⟨Hp.disj_comm d', Hp.disj_comm d1⟩), by rw [e, Hp.join_assoc], p, b, c, d2, rfl, q, r⟩
  · rintro ⟨a, x, d, e, p, b, c, d', e', q, r⟩
    subst e'
    obtain ⟨d1, d2⟩ := Hp.disj_join.1 (Hp.disj_comm d)
    refine ⟨Hp.join a b, c, Hp.disj_join.2 ⟨Hp.disj_comm d2, d'⟩, by rw [e, Hp.join_assoc], ⟨a, b, Hp.disj_comm d1, rfl, p, q⟩, r⟩
instance : Std.Commutative (α := Assn) (· * ·) := ⟨star_comm⟩
instance : Std.Associative (α := Assn) (· * ·) := ⟨star_assoc⟩
theorem star_left_comm (P Q R : Assn) : P * (Q * R) = Q * (P * R) := by rw [← star_assoc, star_comm P Q, star_assoc]
theorem emp_star (P : Assn) : emp * P = P :=
  Assn.ext fun h => ⟨by
    rintro ⟨a, b, _, e, p, q⟩
    have p' : a = Hp.emp := p
    subst p'
    have : h = b := by rw [e]; funext i; simp [Hp.join, Hp.emp]
    rw [this]; exact q, fun q => ⟨Hp.emp, h, fun _ => .inl rfl, by funext i; simp [Hp.join, Hp.emp], rfl, q⟩⟩
theorem star_emp (P : Assn) : P * emp = P := by rw [star_comm, emp_star]

/-- What a call may not change: the outside, the tape, what was printed. -/
structure Env where
  os : Os
  tape : Nat → Question → Nat
  output : Array (Nat × ByteArray)
def World.env (w : World) : Env := ⟨w.os, w.tape, w.output⟩

/-- The world holds at least this part of a heap. -/
def Sat (k : Env) (w : World) (P : Assn) : Prop := World.env w = k ∧ ∃ h : Hp, (∀ i o, h i = some o → w.heap[i]? = some o) ∧ P.on h

section
variable {k : Env} {w : World} {P Q R : Assn} {b c : Nat} {o : Obj}

theorem Sat.of_eq (h : Sat k w P) (e : P = Q) : Sat k w Q := e ▸ h
theorem Sat.env (h : Sat k w P) : World.env w = k := h.1

theorem Sat.mono (h : Sat k w (P * R)) (f : ∀ x, P.on x → Q.on x) : Sat k w (Q * R) := by
  obtain ⟨e, x, hx, a, b, d, e', p, r⟩ := h
  exact ⟨e, x, hx, a, b, d, e', f _ p, r⟩

theorem Sat.drop (h : Sat k w (P * R)) : Sat k w R := by
  obtain ⟨e, x, hx, a, b, d, e', p, r⟩ := h
  refine ⟨e, b, fun i o hi => hx i o ?_, r⟩
  rw [e']
  rcases d i with e1 | e1
  · simp [Hp.join, e1, hi]
  · rw [e1] at hi; cases hi

theorem Sat.only (h : Sat k w (P * R)) : Sat k w P := Sat.drop (h.of_eq (star_comm _ _))

theorem Sat.get (h : Sat k w (blk b o * R)) : w.heap[b]? = some o := by
  obtain ⟨e, x, hx, a, c, d, e', p, r⟩ := h
  refine hx b o ?_
  have p' : a = Hp.one b o := p
  rw [e', p']
  simp [Hp.join, Hp.one]

theorem Sat.lt (h : Sat k w (blk b o * R)) : b < w.heap.size := (Array.getElem?_eq_some_iff.1 h.get).1

theorem Sat.ne {o' : Obj} (h : Sat k w (blk b o * (blk c o' * R))) : b ≠ c := by
  obtain ⟨e, x, hx, a, y, d, e', p, c', z, d', e'', q, r⟩ := h
  have p' : a = Hp.one b o := p
  have q' : c' = Hp.one c o' := q
  intro ebc
  subst ebc
  rcases d b with e1 | e1
  · rw [p'] at e1; simp [Hp.one] at e1
  · rw [e'', q'] at e1; simp [Hp.join, Hp.one] at e1

theorem Sat.drew (h : Sat k w P) : Sat k w.drew P := h
theorem Sat.drewN (h : Sat k w P) (n : Nat) : Sat k (w.drewN n) P := h

theorem Sat.alloc (h : Sat k w P) (o : Obj) : Sat k (w.alloc o) (blk w.heap.size o * P) := by
  obtain ⟨e, x, hx, p⟩ := h
  have hlt : ∀ i, w.heap.size ≤ i → x i = none := by
    intro i hi
    cases hxi : x i with
    | none => rfl
    | some o' => have := (Array.getElem?_eq_some_iff.1 (hx i o' hxi)).1; omega
  refine ⟨e, Hp.join (Hp.one w.heap.size o) x, fun i o' hi => ?_, Hp.one w.heap.size o, x, fun i => ?_, rfl, rfl, p⟩
  · show (w.heap.push o)[i]? = some o'
    rw [Array.getElem?_push]
    by_cases hi' : i = w.heap.size
    · subst hi'
      simp [Hp.join, Hp.one] at hi
      simp [hi]
    · rw [if_neg hi']
      simp [Hp.join, Hp.one, hi'] at hi
      exact hx i o' hi
  · by_cases hi : i = w.heap.size
    · right; exact hlt i (by omega)
    · left; simp [Hp.one, hi]

/-- One block is turned into another one. -/
theorem Sat.turn {w' : World} {o' : Obj} (h : Sat k w (blk b o * R)) (he : World.env w' = World.env w) (hb : w'.heap[b]? = some o') (ho : ∀ i, i ≠ b → i < w.heap.size → w'.heap[i]? = w.heap[i]?) : Sat k w' (blk b o' * R) := by
  obtain ⟨e, x, hx, a, y, d, e', p, r⟩ := h
  have p' : a = Hp.one b o := p
  subst p'
  refine ⟨he.trans e, Hp.join (Hp.one b o') y, fun i q hi => ?_, Hp.one b o', y, fun i => ?_, rfl, rfl, r⟩
  · by_cases hib : i = b
    · subst hib
      simp [Hp.join, Hp.one] at hi
      rw [hb, hi]
    · have hyi : y i = some q := by simpa [Hp.join, Hp.one, hib] using hi
      have hxi : x i = some q := by rw [e']; simp [Hp.join, Hp.one, hib, hyi]
      rw [ho i hib (Array.getElem?_eq_some_iff.1 (hx i q hxi)).1]
      exact hx i q hxi
  · rcases d i with e1 | e1
    · left
      by_cases hib : i = b
      · subst hib; simp [Hp.one] at e1
      · simp [Hp.one, hib]
    · exact .inr e1

theorem Sat.set {cs : Array Value} {E : TypeId} {fr : Nat × Nat} (h : Sat k w (blk b (.cells cs E fr) * R)) (i : Nat) (v : Value) : Sat k (w.setCell ⟨b, i, none⟩ v) (blk b (.cells (cs.setIfInBounds i v) E fr) * R) :=
  h.turn rfl (by
    have := h.get
    simp [World.setCell, Array.getElem?_modify, this]) (fun j hj _ => Below.heap_setCell _ _ _ _ hj)

theorem Sat.setObj {o' : Obj} (h : Sat k w (blk b o * R)) : Sat k { w with heap := w.heap.setIfInBounds b o' } (blk b o' * R) :=
  h.turn rfl (by
    have := h.lt
    simp [this]) (fun j hj _ => by simp [Ne.symm hj])

theorem Sat.cell {cs : Array Value} {E : TypeId} {fr : Nat × Nat} (h : Sat k w (blk b (.cells cs E fr) * R)) (i : Nat) : w.cell? ⟨b, i, none⟩ = cs[i]? := by
  simp [World.cell?, h.get]
theorem Sat.frozen {cs : Array Value} {E : TypeId} (h : Sat k w (blk b (.cells cs E (0, 0)) * R)) (i : Nat) : w.frozen? ⟨b, i, none⟩ = false := by
  simp [World.frozen?, h.get]

theorem Sat.swap (h : Sat k w (P * (Q * R))) : Sat k w (Q * (P * R)) := h.of_eq (star_left_comm _ _ _)
theorem Sat.swap2 {S : Assn} (h : Sat k w (P * (Q * (S * R)))) : Sat k w (P * (S * (Q * R))) := h.of_eq (by rw [star_left_comm Q S R])
section
variable {A B C D E : Assn}
/-- The third, fourth, fifth part to the front ('get'), and back ('put'). -/
theorem Sat.get3 (h : Sat k w (A * (B * (C * R)))) : Sat k w (C * (A * (B * R))) := h.swap2.swap
theorem Sat.put3 (h : Sat k w (C * (A * (B * R)))) : Sat k w (A * (B * (C * R))) := h.swap.swap2
theorem Sat.get4 (h : Sat k w (A * (B * (C * (D * R))))) : Sat k w (D * (A * (B * (C * R)))) := h.of_eq (by rw [star_left_comm C D R, star_left_comm B D (C * R), star_left_comm A D])
theorem Sat.put4 (h : Sat k w (D * (A * (B * (C * R))))) : Sat k w (A * (B * (C * (D * R)))) := h.of_eq (by rw [star_left_comm C D R, star_left_comm B D (C * R), star_left_comm A D])
theorem Sat.get5 (h : Sat k w (A * (B * (C * (D * (E * R)))))) : Sat k w (E * (A * (B * (C * (D * R))))) := h.of_eq (by rw [star_left_comm D E R, star_left_comm C E (D * R), star_left_comm B E (C * (D * R)), star_left_comm A E])
theorem Sat.put5 (h : Sat k w (E * (A * (B * (C * (D * R)))))) : Sat k w (A * (B * (C * (D * (E * R))))) := h.of_eq (by rw [star_left_comm D E R, star_left_comm C E (D * R), star_left_comm B E (C * (D * R)), star_left_comm A E])
end
theorem Sat.set2 {cs : Array Value} {E : TypeId} {fr : Nat × Nat} (h : Sat k w (P * (blk b (.cells cs E fr) * R))) (i : Nat) (v : Value) : Sat k (w.setCell ⟨b, i, none⟩ v) (P * (blk b (.cells (cs.setIfInBounds i v) E fr) * R)) := (h.swap.set i v).swap
theorem Sat.cell2 {cs : Array Value} {E : TypeId} {fr : Nat × Nat} (h : Sat k w (P * (blk b (.cells cs E fr) * R))) (i : Nat) : w.cell? ⟨b, i, none⟩ = cs[i]? := h.drop.cell i
theorem Sat.frozen2 {cs : Array Value} {E : TypeId} (h : Sat k w (P * (blk b (.cells cs E (0, 0)) * R))) (i : Nat) : w.frozen? ⟨b, i, none⟩ = false := h.drop.frozen i
theorem Sat.alloc' (h : Sat k w P) (o : Obj) : Sat k (w.alloc o) P := (h.alloc o).drop

theorem Sat.pure {p : Prop} : Sat k w (pur p * R) ↔ p ∧ Sat k w R := by
  constructor
  · intro h
    obtain ⟨_, _, _, a, b, _, _, ⟨hp, _⟩, _⟩ := id h
    exact ⟨hp, h.drop⟩
  · rintro ⟨hp, e, x, hx, r⟩
    refine ⟨e, x, hx, Hp.emp, x, fun _ => .inl rfl, by funext i; simp [Hp.join, Hp.emp], ⟨hp, rfl⟩, r⟩

theorem Sat.ex {α : Type} {F : α → Assn} : Sat k w (ex F * R) ↔ ∃ x, Sat k w (F x * R) := by
  constructor
  · rintro ⟨e, x, hx, a, b, d, e', ⟨y, p⟩, r⟩
    exact ⟨y, e, x, hx, a, b, d, e', p, r⟩
  · rintro ⟨y, e, x, hx, a, b, d, e', p, r⟩
    exact ⟨e, x, hx, a, b, d, e', ⟨y, p⟩, r⟩
end

/-- All that a world's heap holds. -/
def whole (w : World) : Assn := ⟨fun h => h = fun i => w.heap[i]?⟩
theorem Sat.whole (w : World) : Sat (World.env w) w (whole w) := ⟨rfl, _, fun _ _ h => h, rfl⟩
theorem Sat.below {W w : World} (h : Sat (World.env W) w (Go.Proofs.Ytoeepbjnbgpmpaa.whole W)) : Below W.heap.size W w := by
  obtain ⟨e, x, hx, hw⟩ := h
  have hw' : x = fun i => W.heap[i]? := hw
  subst hw'
  have e1 : (World.env w).os = (World.env W).os := by rw [e]
  have e2 : (World.env w).tape = (World.env W).tape := by rw [e]
  have e3 : (World.env w).output = (World.env W).output := by rw [e]
  refine ⟨e1, e2, e3, ?_, fun i hi => ?_⟩
  · cases hs : W.heap.size with
    | zero => omega
    | succ n =>
      have := hx n W.heap[n] (by simp [hs])
      have := (Array.getElem?_eq_some_iff.1 this).1
      omega
  · rw [hx i W.heap[i] (by simp [hi])]; simp [hi]

end Go.Proofs.Ytoeepbjnbgpmpaa

namespace Go.Proofs.Ytoeepbjnbgpmpaa
set_option linter.all false
open Go Go.RowKit

/-- A slice value that owns its elements' cells. -/
def OwnB (e : TypeId) (size : Nat) (a : Option Addr) (n cap : Nat) (xs : List Value) : Assn :=
  match a with
  | none => pur (n = 0 ∧ cap = 0 ∧ xs = [])
  | some ad => ex fun cur : Array Value => pur (ad = ⟨ad.block, 0, none⟩ ∧ n ≤ cap ∧ cap ≤ maxLen ∧ cap * size ≤ cur.size ∧ xs.length = n * size ∧ cur.toList.take (n * size) = xs) * blk ad.block (.cells cur e (0, 0))
def Own (e : TypeId) (size : Nat) (v : Value) (n : Nat) (xs : List Value) : Assn :=
  ex fun p : Option Addr × Nat => pur (v = .slice p.1 n p.2) * OwnB e size p.1 n p.2 xs

section
variable {k : Env} {w : World} {e size n : Nat} {v : Value} {xs : List Value} {R : Assn}

theorem own_val (h : Sat k w (Own e size v n xs * R)) : ∃ a cap, v = .slice a n cap := by
  obtain ⟨p, h⟩ := Sat.ex.1 h
  rw [star_assoc] at h
  exact ⟨p.1, p.2, (Sat.pure.1 h).1⟩

theorem own_block {ad : Option Addr} {cap : Nat} (h : Sat k w (Own e size (.slice ad n cap) n xs * R)) :
    (ad = none ∧ n = 0 ∧ cap = 0 ∧ xs = [] ∧ Sat k w R) ∨
    ∃ g cur, ad = some ⟨g, 0, none⟩ ∧ n ≤ cap ∧ cap ≤ maxLen ∧ cap * size ≤ cur.size ∧ xs.length = n * size ∧ cur.toList.take (n * size) = xs ∧ Sat k w (blk g (.cells cur e (0, 0)) * R) := by
  obtain ⟨⟨a, c⟩, h⟩ := Sat.ex.1 h
  rw [star_assoc] at h
  obtain ⟨hv, h⟩ := Sat.pure.1 h
  simp only [Value.slice.injEq] at hv
  obtain ⟨rfl, _, rfl⟩ := hv
  cases ad with
  | none =>
    obtain ⟨⟨h1, h2, h3⟩, h⟩ := Sat.pure.1 h
    exact .inl ⟨rfl, h1, h2, h3, h⟩
  | some ad =>
    obtain ⟨cur, h⟩ := Sat.ex.1 h
    rw [star_assoc] at h
    obtain ⟨⟨h0, h1, h2, h3, h4, h5⟩, h⟩ := Sat.pure.1 h
    exact .inr ⟨ad.block, cur, by rw [← h0], h1, h2, h3, h4, h5, h⟩

theorem own_nil (h : Sat k w R) : Sat k w (Own e size (.slice none 0 0) 0 [] * R) :=
  Sat.ex.2 ⟨(none, 0), by rw [star_assoc]; exact Sat.pure.2 ⟨rfl, Sat.pure.2 ⟨⟨rfl, rfl, rfl⟩, h⟩⟩⟩

theorem own_mk {g cap : Nat} {cur : Array Value} (h : Sat k w (blk g (.cells cur e (0, 0)) * R)) (h1 : n ≤ cap) (h2 : cap ≤ maxLen) (h3 : cap * size ≤ cur.size) (h4 : xs.length = n * size) (h5 : cur.toList.take (n * size) = xs) :
    Sat k w (Own e size (.slice (some ⟨g, 0, none⟩) n cap) n xs * R) :=
  Sat.ex.2 ⟨(some ⟨g, 0, none⟩, cap), by
    rw [star_assoc]
    refine Sat.pure.2 ⟨rfl, ?_⟩
    show Sat k w (ex _ * R)
    exact Sat.ex.2 ⟨cur, by rw [star_assoc]; exact Sat.pure.2 ⟨⟨rfl, h1, h2, h3, h4, h5⟩, h⟩⟩⟩

theorem own_len (h : Sat k w (Own e size v n xs * R)) : xs.length = n * size := by
  obtain ⟨a, c, rfl⟩ := own_val h
  rcases own_block h with ⟨_, rfl, _, rfl, _⟩ | ⟨_, _, _, _, _, _, h, _⟩
  · simp
  · exact h

theorem own_cap {ad : Option Addr} {cap : Nat} (h : Sat k w (Own e size (.slice ad n cap) n xs * R)) : n ≤ cap ∧ cap ≤ maxLen := by
  rcases own_block h with ⟨_, rfl, rfl, rfl, _⟩ | ⟨_, _, _, h, h', _⟩
  · simp [maxLen]
  · exact ⟨h, h'⟩

theorem own_get {ad : Option Addr} {cap : Nat} (h : Sat k w (Own e size (.slice ad n cap) n xs * R)) (hn : 0 < n) :
    ∃ g, ad = some ⟨g, 0, none⟩ ∧ g < w.heap.size ∧ (∀ j, j < n * size → w.cell? ⟨g, j, none⟩ = xs[j]?) ∧ ∀ j, w.frozen? ⟨g, j, none⟩ = false := by
  rcases own_block h with ⟨_, rfl, _⟩ | ⟨g, cur, rfl, _, _, _, hl, ht, hs⟩
  · omega
  · refine ⟨g, rfl, hs.lt, fun j hj => ?_, fun j => hs.frozen j⟩
    rw [hs.cell, ← ht, List.getElem?_take, if_pos hj]; simp

theorem own_sub {ad : Option Addr} {cap : Nat} (h : Sat k w (Own e size (.slice ad n cap) n xs * R)) {m c : Nat} (hn : 0 < n) (hm : m ≤ c) (hc : c ≤ cap) (hmn : m ≤ n) :
    Sat k w (Own e size (.slice ad m c) m (xs.take (m * size)) * R) := by
  rcases own_block h with ⟨_, rfl, _⟩ | ⟨g, cur, rfl, h1, h2, h3, hl, ht, hs⟩
  · omega
  · have hms : m * size ≤ n * size := Nat.mul_le_mul_right _ hmn
    exact own_mk hs hm (Nat.le_trans hc h2) (Nat.le_trans (Nat.mul_le_mul_right _ hc) h3) (by rw [List.length_take, hl]; omega) (by rw [← ht, List.take_take, Nat.min_eq_left hms])

/-- What a slice type is, in a program. -/
structure SliceT (P : Program) (t e : TypeId) (z : Value) (size bytes : Nat) : Prop where
  und : P.underlying t = some (.slice e)
  info : (P.info? e).map (fun i => (i.zero, i.size, i.bytes)) = some (some z, size, bytes)
  zs : z.cells.size = size
  pos : 0 < size

theorem Sat.grown {w' : World} {row : Option Nat} (h : Sat k w R) (hg : w.grownBy w' row) (hr : row = none) : Sat k w' R := by
  subst hr
  obtain ⟨e, x, hx, r⟩ := h
  refine ⟨?_, x, fun i o hi => ?_, r⟩
  · rw [← e]; simp only [World.env, hg.os, hg.tape, hg.output]
  · have := hx i o hi
    rw [hg.block i (Array.getElem?_eq_some_iff.1 this).1 (by simp)]
    exact this

/-- New blocks that a world has got. -/
theorem Sat.grownNew {w' : World} {g : Nat} {o : Obj} (h : Sat k w R) (hg : w.grownBy w' none) (hb : w.heap.size ≤ g) (ho : w'.heap[g]? = some o) : Sat k w' (blk g o * R) := by
  obtain ⟨e, x, hx, r⟩ := h
  have hn : x g = none := by
    cases hxg : x g with
    | none => rfl
    | some o' => have := (Array.getElem?_eq_some_iff.1 (hx g o' hxg)).1; omega
  refine ⟨?_, Hp.join (Hp.one g o) x, fun i o' hi => ?_, Hp.one g o, x, fun i => ?_, rfl, rfl, r⟩
  · rw [← e]; simp only [World.env, hg.os, hg.tape, hg.output]
  · by_cases hig : i = g
    · subst hig
      simp [Hp.join, Hp.one] at hi
      rw [ho, hi]
    · simp [Hp.join, Hp.one, hig] at hi
      have := hx i o' hi
      rw [hg.block i (Array.getElem?_eq_some_iff.1 this).1 (by simp)]
      exact this
  · by_cases hig : i = g
    · subst hig; exact .inr hn
    · left; simp [Hp.one, hig]

theorem own_of_ownsRow {w' : World} {v' : Value} (h : Sat k w R) (hg : w.grownBy w' none) (ho : w'.ownsRow w.heap.size e size v' n xs) : Sat k w' (Own e size v' n xs * R) := by
  obtain ⟨hl, ⟨rfl, rfl⟩ | ⟨g, cap, cur, rfl, hb, hh, h1, h2, h3, h4⟩⟩ := ho
  · obtain rfl : xs = [] := List.length_eq_zero_iff.1 (by simpa using hl)
    exact own_nil (h.grown hg rfl)
  · exact own_mk (h.grownNew hg hb hh) h1 h2 (by omega) hl h4

theorem run_append_sat {P : Program} {t : TypeId} {z : Value} {bytes : Nat} (ty : TypeId) (T : SliceT P t e z size bytes) (h : Sat k w (Own e size v n xs * R))
    (a : Addr) (m c : Nat) (news : List Value) (hl : news.length = m * size) (hnews : ∀ j u, news[j]? = some u → w.cell? (a.add j) = some u) (h1 : ∀ u ∈ news, u.oneCell' = true)
    (h63 : n + m ≤ maxLen) (hbytes : (n + m) * bytes ≤ 140737488355328) :
    ∃ v' w', (Builtin.append_ #[t, t] ty #[v, .slice (some a) m c]).run P w = .ok v' w' ∧ Sat k w' (Own e size v' (n + m) (xs ++ news) * R) := by
  obtain ⟨i, hi, hz0, hz1, hz2⟩ := info_parts T.info
  obtain ⟨ad, cap, rfl⟩ := own_val h
  rcases own_block h with ⟨rfl, rfl, rfl, rfl, hR⟩ | ⟨g, cur, rfl, hc1, hc2, hc3, hlx, ht, hs⟩
  · obtain ⟨v', w', hr, ho, hg, _⟩ := run_append_own (P := P) w w.heap.size t ty e i z size bytes T.und hi hz0 hz1 hz2 T.zs T.pos _ 0 [] (World.ownsRow_nil _ _ _ _) a m c news hl hnews h1 h63 hbytes (Nat.le_refl _)
    exact ⟨v', w', hr, own_of_ownsRow hR hg ho⟩
  · by_cases hroom : n + m ≤ cap
    · have hmul : (n + m) * size ≤ cap * size := Nat.mul_le_mul_right _ hroom
      have hadd : (n + m) * size = n * size + m * size := Nat.add_mul _ _ _
      have hr := run_append_room (P := P) w t ty e i T.und hi g n cap cur hs.get a m c news (by rw [hz1]; exact hl) hnews h1 hroom (by rw [hz1, hl]; omega)
      rw [hz1] at hr
      refine ⟨_, _, hr, own_mk (hs.turn rfl (setRow_heap w g cur _ e _ hs.get) (fun j hj _ => setRow_other w g j _ hj)) hroom hc2 ?_ (by simp [hlx, hl, hadd]) ?_⟩
      · simp only [List.size_toArray, List.length_append, List.length_take, List.length_drop, Array.length_toList]
        omega
      · rw [hadd, ht, ← hlx, ← hl, ← List.length_append]
        exact List.take_left
    · obtain ⟨v', w', hr, ho, hg⟩ := run_append_arg_grows (P := P) w t ty e i z size bytes T.und hi hz0 hz1 hz2 T.zs T.pos ⟨g, 0, none⟩ n cap xs hlx (by
        intro j u hu
        rw [Addr.add_lit, Nat.zero_add, hs.cell]
        rw [← ht, List.getElem?_take] at hu
        split at hu
        · simpa using hu
        · cases hu) a m c news hl hnews (by omega) h63 hbytes
      exact ⟨v', w', hr, own_of_ownsRow hs.drop hg ho⟩

/-- append, from whatever source: a source that is nil or empty adds nothing. -/
theorem run_append_sat_any {P : Program} {t : TypeId} {z : Value} {bytes : Nat} (ty : TypeId) (T : SliceT P t e z size bytes) (h : Sat k w (Own e size v n xs * R))
    (a : Option Addr) (m c : Nat) (news : List Value) (hl : news.length = m * size) (hnews : 0 < m → ∃ ad, a = some ad ∧ ∀ j u, news[j]? = some u → w.cell? (ad.add j) = some u) (h1 : ∀ u ∈ news, u.oneCell' = true)
    (h63 : n + m ≤ maxLen) (hbytes : (n + m) * bytes ≤ 140737488355328) :
    ∃ v' w', (Builtin.append_ #[t, t] ty #[v, .slice a m c]).run P w = .ok v' w' ∧ Sat k w' (Own e size v' (n + m) (xs ++ news) * R) := by
  by_cases hm : 0 < m
  · obtain ⟨ad, rfl, hn⟩ := hnews hm
    exact run_append_sat ty T h ad m c news hl hn h1 h63 hbytes
  · obtain rfl : m = 0 := by omega
    obtain rfl : news = [] := List.length_eq_zero_iff.1 (by simpa using hl)
    cases a with
    | some ad => exact run_append_sat ty T h ad 0 c [] hl (by simp) h1 h63 hbytes
    | none =>
      obtain ⟨i, hi, hz0, hz1, hz2⟩ := info_parts T.info
      obtain ⟨ad, cap, rfl⟩ := own_val h
      refine ⟨.slice ad n cap, w, ?_, by simpa using h⟩
      have hcap := (own_cap h).1
      rcases own_block h with ⟨rfl, rfl, rfl, rfl, hR⟩ | ⟨g, cur, rfl, hc1, hc2, hc3, hlx, ht, hs⟩
      · simp [Builtin.append_, run_underlying T.und, sizeOf, typeInfo, hi, Builtin.lenOf, Builtin.firstCells]
      · simp [Builtin.append_, run_underlying T.und, sizeOf, typeInfo, hi, Builtin.lenOf, Builtin.firstCells, hcap, storeCells]

theorem wpList_append_sat {P : Program} {ops : Array Oper} {rest : List Oper} {o : Oper} {a : Act} {Q : Exit → Act → World → Prop} {t : TypeId} {z : Value} {bytes : Nat} (T : SliceT P t e z size bytes)
    (h : Sat k w (Own e size v n xs * R)) (s x : Operand) (ad : Option Addr) (m c : Nat) (news : List Value) (hgd : o.guard = none) 
    (ho : o.op = .call { callee := .builtin .append, args := #[s, x], argTypes := #[t, t] })
    (hs : a.eval s = v) (hx : a.eval x = .slice ad m c) (hl : news.length = m * size)
    (hnews : 0 < m → ∃ ad', ad = some ad' ∧ ∀ j u, news[j]? = some u → w.cell? (ad'.add j) = some u) (h1 : ∀ u ∈ news, u.oneCell' = true)
    (h63 : n + m ≤ maxLen) (hbytes : (n + m) * bytes ≤ 140737488355328)
    (hK : ∀ a' c' w', Sat k w' (Own e size (.slice a' (n + m) c') (n + m) (xs ++ news) * R) → wpList P ops Q rest (a.put o.dst (.slice a' (n + m) c')) w') : wpList P ops Q (o :: rest) a w := by
  refine wpList_plain hgd fun K hK' => ?_
  obtain ⟨v', w', hr, h2⟩ := run_append_sat_any o.type T h ad m c news hl hnews h1 h63 hbytes
  obtain ⟨a', c', rfl⟩ := own_val h2
  unfold Oper.wp execOp
  simp only [ho, resolve, invoke, builtin, Sem.run_bind, Sem.run_pure, Result.andThen_ok, List.map_toArray, List.map_cons, List.map_nil, hs, hx, hr]
  exact hK' _ _ (hK a' c' w' h2)

theorem step_append_sat {P : Program} {ops : Array Oper} {o : Oper} {a : Act} {K : Act → World → Prop} {Q : Exit → Act → World → Prop} {E : Prop} {t : TypeId} {z : Value} {bytes : Nat} (T : SliceT P t e z size bytes)
    (h : Sat k w (Own e size v n xs * R)) (s x : Operand) (ad : Option Addr) (m c : Nat) (news : List Value) (hgd : o.guard = none) 
    (ho : o.op = .call { callee := .builtin .append, args := #[s, x], argTypes := #[t, t] })
    (hs : a.eval s = v) (hx : a.eval x = .slice ad m c) (hl : news.length = m * size)
    (hnews : 0 < m → ∃ ad', ad = some ad' ∧ ∀ j u, news[j]? = some u → w.cell? (ad'.add j) = some u) (h1 : ∀ u ∈ news, u.oneCell' = true)
    (h63 : n + m ≤ maxLen) (hbytes : (n + m) * bytes ≤ 140737488355328)
    (hK : ∀ a' c' w', Sat k w' (Own e size (.slice a' (n + m) c') (n + m) (xs ++ news) * R) → K (a.put o.dst (.slice a' (n + m) c')) w') : if Region.wanted o (yielded ops a.tmps) = true then Oper.wp P o a w K Q else E := by
  have hw : Region.wanted o (yielded ops a.tmps) = true := by simp [Region.wanted, hgd]
  rw [if_pos hw]
  obtain ⟨v', w', hr, h2⟩ := run_append_sat_any o.type T h ad m c news hl hnews h1 h63 hbytes
  obtain ⟨a', c', rfl⟩ := own_val h2
  unfold Oper.wp execOp
  simp only [ho, resolve, invoke, builtin, Sem.run_bind, Sem.run_pure, Result.andThen_ok, List.map_toArray, List.map_cons, List.map_nil, hs, hx, hr]
  exact hK a' c' w' h2
end

/-- The cells of a block that was laid just now. -/
theorem new_cells (w : World) (cs : List Value) (E : TypeId) : ∀ j u, cs[j]? = some u → (w.alloc (.cells cs.toArray E)).cell? ((⟨w.heap.size, 0, none⟩ : Addr).add j) = some u := by
  intro j u hu
  rw [Addr.add_lit, Nat.zero_add, World.cell?_alloc_new]
  simpa using hu

theorem new_cells_at (w : World) (g : Nat) (cs : List Value) (E : TypeId) (hg : w.heap.size = g) : ∀ j u, cs[j]? = some u → (w.alloc (.cells cs.toArray E)).cell? ((⟨g, 0, none⟩ : Addr).add j) = some u := by
  subst hg
  exact new_cells w cs E

end Go.Proofs.Ytoeepbjnbgpmpaa

namespace Go.Proofs.Ytoeepbjnbgpmpaa
set_option linter.all false
open Go Go.RowKit

theorem own_src {k : Env} {w : World} {R : Assn} {e : TypeId} {n c s : Nat} {a : Option Addr} {xs : List Value} (h : Sat k w (Own e s (.slice a n c) n xs * R)) (hn : 0 < n) :
    ∃ ad, a = some ad ∧ ∀ j u, xs[j]? = some u → w.cell? (ad.add j) = some u := by
  have hl := own_len h
  obtain ⟨g, rfl, _, hc, _⟩ := own_get h hn
  refine ⟨_, rfl, fun j u hu => ?_⟩
  rw [Addr.add_lit, Nat.zero_add, hc j (by have := (List.getElem?_eq_some_iff.1 hu).1; omega), hu]

section
variable {k : Env} {w : World} {R A1 A2 A3 A4 A5 A6 A7 A8 A9 A10 : Assn}
theorem Sat.get6 (h : Sat k w (A1 * (A2 * (A3 * (A4 * (A5 * (A6 * R))))))) : Sat k w (A6 * (A1 * (A2 * (A3 * (A4 * (A5 * R)))))) := h.of_eq (by ac_rfl)
theorem Sat.put6 (h : Sat k w (A6 * (A1 * (A2 * (A3 * (A4 * (A5 * R))))))) : Sat k w (A1 * (A2 * (A3 * (A4 * (A5 * (A6 * R)))))) := h.of_eq (by ac_rfl)
theorem Sat.get7 (h : Sat k w (A1 * (A2 * (A3 * (A4 * (A5 * (A6 * (A7 * R)))))))) : Sat k w (A7 * (A1 * (A2 * (A3 * (A4 * (A5 * (A6 * R))))))) := h.of_eq (by ac_rfl)
theorem Sat.put7 (h : Sat k w (A7 * (A1 * (A2 * (A3 * (A4 * (A5 * (A6 * R)))))))) : Sat k w (A1 * (A2 * (A3 * (A4 * (A5 * (A6 * (A7 * R))))))) := h.of_eq (by ac_rfl)
theorem Sat.get8 (h : Sat k w (A1 * (A2 * (A3 * (A4 * (A5 * (A6 * (A7 * (A8 * R))))))))) : Sat k w (A8 * (A1 * (A2 * (A3 * (A4 * (A5 * (A6 * (A7 * R)))))))) := h.of_eq (by ac_rfl)
theorem Sat.put8 (h : Sat k w (A8 * (A1 * (A2 * (A3 * (A4 * (A5 * (A6 * (A7 * R))))))))) : Sat k w (A1 * (A2 * (A3 * (A4 * (A5 * (A6 * (A7 * (A8 * R)))))))) := h.of_eq (by ac_rfl)
theorem Sat.get9 (h : Sat k w (A1 * (A2 * (A3 * (A4 * (A5 * (A6 * (A7 * (A8 * (A9 * R)))))))))) : Sat k w (A9 * (A1 * (A2 * (A3 * (A4 * (A5 * (A6 * (A7 * (A8 * R))))))))) := h.of_eq (by ac_rfl)
theorem Sat.put9 (h : Sat k w (A9 * (A1 * (A2 * (A3 * (A4 * (A5 * (A6 * (A7 * (A8 * R)))))))))) : Sat k w (A1 * (A2 * (A3 * (A4 * (A5 * (A6 * (A7 * (A8 * (A9 * R))))))))) := h.of_eq (by ac_rfl)
theorem Sat.get10 (h : Sat k w (A1 * (A2 * (A3 * (A4 * (A5 * (A6 * (A7 * (A8 * (A9 * (A10 * R))))))))))) : Sat k w (A10 * (A1 * (A2 * (A3 * (A4 * (A5 * (A6 * (A7 * (A8 * (A9 * R)))))))))) := h.of_eq (by ac_rfl)
theorem Sat.put10 (h : Sat k w (A10 * (A1 * (A2 * (A3 * (A4 * (A5 * (A6 * (A7 * (A8 * (A9 * R))))))))))) : Sat k w (A1 * (A2 * (A3 * (A4 * (A5 * (A6 * (A7 * (A8 * (A9 * (A10 * R)))))))))) := h.of_eq (by ac_rfl)
end
section
variable {k : Env} {w : World} {R A1 A2 A3 A4 A5 A6 A7 A8 A9 A10 : Assn}
theorem Sat.drop2 (h : Sat k w (A1 * (A2 * R))) : Sat k w (A1 * R) := Sat.drop (P := A2) (h.of_eq (show _ = A2 * (A1 * R) by ac_rfl))
theorem Sat.drop3 (h : Sat k w (A1 * (A2 * (A3 * R)))) : Sat k w (A1 * (A2 * R)) := Sat.drop (P := A3) (h.of_eq (show _ = A3 * (A1 * (A2 * R)) by ac_rfl))
theorem Sat.drop4 (h : Sat k w (A1 * (A2 * (A3 * (A4 * R))))) : Sat k w (A1 * (A2 * (A3 * R))) := Sat.drop (P := A4) (h.of_eq (show _ = A4 * (A1 * (A2 * (A3 * R))) by ac_rfl))
theorem Sat.drop5 (h : Sat k w (A1 * (A2 * (A3 * (A4 * (A5 * R)))))) : Sat k w (A1 * (A2 * (A3 * (A4 * R)))) := Sat.drop (P := A5) (h.of_eq (show _ = A5 * (A1 * (A2 * (A3 * (A4 * R)))) by ac_rfl))
theorem Sat.drop6 (h : Sat k w (A1 * (A2 * (A3 * (A4 * (A5 * (A6 * R))))))) : Sat k w (A1 * (A2 * (A3 * (A4 * (A5 * R))))) := Sat.drop (P := A6) (h.of_eq (show _ = A6 * (A1 * (A2 * (A3 * (A4 * (A5 * R))))) by ac_rfl))
theorem Sat.drop7 (h : Sat k w (A1 * (A2 * (A3 * (A4 * (A5 * (A6 * (A7 * R)))))))) : Sat k w (A1 * (A2 * (A3 * (A4 * (A5 * (A6 * R)))))) := Sat.drop (P := A7) (h.of_eq (show _ = A7 * (A1 * (A2 * (A3 * (A4 * (A5 * (A6 * R)))))) by ac_rfl))
theorem Sat.drop8 (h : Sat k w (A1 * (A2 * (A3 * (A4 * (A5 * (A6 * (A7 * (A8 * R))))))))) : Sat k w (A1 * (A2 * (A3 * (A4 * (A5 * (A6 * (A7 * R))))))) := Sat.drop (P := A8) (h.of_eq (show _ = A8 * (A1 * (A2 * (A3 * (A4 * (A5 * (A6 * (A7 * R))))))) by ac_rfl))
theorem Sat.drop9 (h : Sat k w (A1 * (A2 * (A3 * (A4 * (A5 * (A6 * (A7 * (A8 * (A9 * R)))))))))) : Sat k w (A1 * (A2 * (A3 * (A4 * (A5 * (A6 * (A7 * (A8 * R)))))))) := Sat.drop (P := A9) (h.of_eq (show _ = A9 * (A1 * (A2 * (A3 * (A4 * (A5 * (A6 * (A7 * (A8 * R)))))))) by ac_rfl))
end
section
variable {k : Env} {w : World} {R A1 A2 A3 A4 A5 A6 A7 A8 A9 A10 A11 A12 : Assn}
theorem Sat.get11 (h : Sat k w (A1 * (A2 * (A3 * (A4 * (A5 * (A6 * (A7 * (A8 * (A9 * (A10 * (A11 * R)))))))))))) : Sat k w (A11 * (A1 * (A2 * (A3 * (A4 * (A5 * (A6 * (A7 * (A8 * (A9 * (A10 * R))))))))))) := h.of_eq (by ac_rfl)
theorem Sat.put11 (h : Sat k w (A11 * (A1 * (A2 * (A3 * (A4 * (A5 * (A6 * (A7 * (A8 * (A9 * (A10 * R)))))))))))) : Sat k w (A1 * (A2 * (A3 * (A4 * (A5 * (A6 * (A7 * (A8 * (A9 * (A10 * (A11 * R))))))))))) := h.of_eq (by ac_rfl)
theorem Sat.get12 (h : Sat k w (A1 * (A2 * (A3 * (A4 * (A5 * (A6 * (A7 * (A8 * (A9 * (A10 * (A11 * (A12 * R))))))))))))) : Sat k w (A12 * (A1 * (A2 * (A3 * (A4 * (A5 * (A6 * (A7 * (A8 * (A9 * (A10 * (A11 * R)))))))))))) := h.of_eq (by ac_rfl)
theorem Sat.put12 (h : Sat k w (A12 * (A1 * (A2 * (A3 * (A4 * (A5 * (A6 * (A7 * (A8 * (A9 * (A10 * (A11 * R))))))))))))) : Sat k w (A1 * (A2 * (A3 * (A4 * (A5 * (A6 * (A7 * (A8 * (A9 * (A10 * (A11 * (A12 * R)))))))))))) := h.of_eq (by ac_rfl)
theorem Sat.get2 (h : Sat k w (A1 * (A2 * R))) : Sat k w (A2 * (A1 * R)) := h.swap
theorem Sat.put2 (h : Sat k w (A2 * (A1 * R))) : Sat k w (A1 * (A2 * R)) := h.swap
end
/-- A block for each of a list. -/
def stars {α : Type} (f : α → Assn) : List α → Assn
  | [] => emp
  | x :: r => f x * stars f r
theorem stars_append {α : Type} (f : α → Assn) (l r : List α) : stars f (l ++ r) = stars f l * stars f r := by
  induction l with
  | nil => rw [List.nil_append, stars, emp_star]
  | cons x l ih => rw [List.cons_append, stars, stars, ih, star_assoc]
theorem stars_mid {α : Type} (f : α → Assn) (p q : List α) (x : α) : stars f (p ++ x :: q) = f x * stars f (p ++ q) := by
  rw [stars_append, stars, stars_append, star_left_comm]
theorem stars_snoc {α : Type} (f : α → Assn) (p : List α) (x : α) : stars f (p ++ [x]) = f x * stars f p := by
  rw [stars_mid, List.append_nil]
theorem stars_congr {α : Type} {f g : α → Assn} {l : List α} (h : ∀ x ∈ l, f x = g x) : stars f l = stars g l := by
  induction l with
  | nil => rfl
  | cons x r ih => rw [stars, stars, h x (by simp), ih fun y hy => h y (by simp [hy])]
section
variable {k : Env} {w : World} {e size n : Nat} {xs : List Value} {R : Assn}
theorem own_ne2 {b g cap : Nat} {o : Obj} (h : Sat k w (blk b o * (Own e size (.slice (some ⟨g, 0, none⟩) n cap) n xs * R))) : b ≠ g ∧ g ≠ b := by
  rcases own_block h.swap with ⟨h0, _⟩ | ⟨g', cur, hg, _, _, _, _, _, hs⟩
  · cases h0
  · simp only [Option.some.injEq, Addr.mk.injEq, and_true] at hg
    subst hg
    exact ⟨fun e => hs.ne e.symm, hs.ne⟩
/-- A store into an owned slice. -/
theorem own_set2 {g cap : Nat} (h : Sat k w (Own e size (.slice (some ⟨g, 0, none⟩) n cap) n xs * R)) (j : Nat) (v : Value) :
    Sat k (w.setCell ⟨g, j, none⟩ v) (Own e size (.slice (some ⟨g, 0, none⟩) n cap) n (xs.set j v) * R) := by
  rcases own_block h with ⟨h0, _⟩ | ⟨g', cur, hg, h1, h2, h3, h4, h5, hs⟩
  · cases h0
  · simp only [Option.some.injEq, Addr.mk.injEq, and_true] at hg
    subst hg
    refine own_mk (hs.set j v) h1 h2 (by simpa using h3) (by simpa using h4) ?_
    rw [← h5]
    simp only [Array.toList_setIfInBounds]
    rw [List.take_set]
/-- A cell of an owned slice: what it holds, and that it can be written. -/
theorem own_at {g cap : Nat} (h : Sat k w (Own e size (.slice (some ⟨g, 0, none⟩) n cap) n xs * R)) (j : Nat) (hj : j < n * size) : ∃ u, xs[j]? = some u ∧ w.cell? ⟨g, j, none⟩ = some u ∧ w.frozen? ⟨g, j, none⟩ = false ∧ g < w.heap.size := by
  have hn : 0 < n := by rcases Nat.eq_zero_or_pos n with rfl | h; simp at hj; exact h
  have hl := own_len h
  obtain ⟨g', hg', hg, hc, hf⟩ := own_get h hn
  simp only [Option.some.injEq, Addr.mk.injEq, and_true] at hg'
  subst hg'
  have hx : xs[j]? = some (xs[j]'(by omega)) := List.getElem?_eq_getElem (by omega)
  exact ⟨_, hx, (hc j hj).trans hx, hf j, hg⟩
end
theorem perm_erase {α : Type} (l : List α) (j : Nat) (hj : j < l.length) : (l[j] :: l.eraseIdx j).Perm l := by
  induction l generalizing j with
  | nil => simp at hj
  | cons x r ih =>
    cases j with
    | zero => exact List.Perm.refl _
    | succ j => exact (List.Perm.swap _ _ _).trans ((ih j (by simpa using hj)).cons x)

end Go.Proofs.Ytoeepbjnbgpmpaa

namespace Go.Proofs.Ytoeepbjnbgpmpaa
set_option linter.all false
open Go Go.RowKit

/-- How records lie in cells. -/
structure Enc (α : Type) where
  f : α → List Value
  n : Nat
  len : ∀ x, (f x).length = n
  one : ∀ x, ∀ u ∈ f x, u.oneCell' = true

section
variable {α : Type} (E : Enc α)

def Enc.recs (l : List α) : List Value := l.flatMap E.f
theorem Enc.recs_len (l : List α) : (E.recs l).length = l.length * E.n := by
  induction l with
  | nil => simp [Enc.recs]
  | cons s r ih => simp only [Enc.recs, List.flatMap_cons, List.length_append, List.length_cons] at *; rw [ih, E.len, Nat.add_mul]; omega
theorem Enc.recs_append (l r : List α) : E.recs (l ++ r) = E.recs l ++ E.recs r := by simp [Enc.recs]
theorem Enc.recs_snoc (l : List α) (x : α) : E.recs l ++ E.f x = E.recs (l ++ [x]) := by simp [Enc.recs]
theorem Enc.recs_one (x : α) : E.recs [x] = E.f x := by simp [Enc.recs]
theorem Enc.recs_nil : E.recs [] = [] := rfl
theorem Enc.recs_ones (l : List α) : ∀ u ∈ E.recs l, u.oneCell' = true := by
  intro u hu
  obtain ⟨x, _, hx⟩ := List.mem_flatMap.1 hu
  exact E.one x u hx
theorem Enc.recs_get (l : List α) (i j : Nat) (hi : i < l.length) (hj : j < E.n) : (E.recs l)[i * E.n + j]? = (E.f l[i])[j]? := by
  induction l generalizing i with
  | nil => simp at hi
  | cons s r ih =>
    cases i with
    | zero =>
      simp only [Enc.recs, List.flatMap_cons, Nat.zero_mul, Nat.zero_add, List.getElem_cons_zero]
      rw [List.getElem?_append_left (by rw [E.len]; exact hj)]
    | succ i =>
      have e : (i + 1) * E.n + j = (E.f s).length + (i * E.n + j) := by rw [E.len, Nat.add_mul]; omega
      rw [e]
      simp only [Enc.recs, List.flatMap_cons, List.getElem_cons_succ]
      rw [List.getElem?_append_right (by omega)]
      simp only [Nat.add_sub_cancel_left]
      exact ih i (by simpa using hi)
theorem Enc.recs_set (l : List α) (i j : Nat) (v : Value) (x : α) (hi : i < l.length) (hj : j < E.n) (hx : E.f x = (E.f l[i]).set j v) : (E.recs l).set (i * E.n + j) v = E.recs (l.set i x) := by
  induction l generalizing i with
  | nil => simp at hi
  | cons s r ih =>
    cases i with
    | zero =>
      simp only [Enc.recs, List.flatMap_cons, Nat.zero_mul, Nat.zero_add, List.set_cons_zero]
      simp only [List.getElem_cons_zero] at hx
      rw [hx, List.set_append_left _ _ (by rw [E.len]; exact hj)]
    | succ i =>
      have e : (i + 1) * E.n + j = (E.f s).length + (i * E.n + j) := by rw [E.len, Nat.add_mul]; omega
      rw [e]
      simp only [Enc.recs, List.flatMap_cons, List.set_cons_succ]
      rw [List.set_append_right _ _ (by omega)]
      simp only [Nat.add_sub_cancel_left]
      congr 1
      exact ih i (by simpa using hi) (by simpa using hx)
theorem Enc.recs_take (l : List α) (i : Nat) : (E.recs l).take (i * E.n) = E.recs (l.take i) := by
  induction l generalizing i with
  | nil => simp [Enc.recs]
  | cons s r ih =>
    cases i with
    | zero => simp [Enc.recs]
    | succ i =>
      have e : (i + 1) * E.n = (E.f s).length + i * E.n := by rw [E.len, Nat.add_mul]; omega
      simp only [Enc.recs, List.flatMap_cons, List.take_succ_cons] at *
      rw [e, List.take_length_add_append, ih]
theorem Enc.recs_drop (l : List α) (i : Nat) : (E.recs l).drop (i * E.n) = E.recs (l.drop i) := by
  induction l generalizing i with
  | nil => simp [Enc.recs]
  | cons s r ih =>
    cases i with
    | zero => simp [Enc.recs]
    | succ i =>
      have e : (i + 1) * E.n = (E.f s).length + i * E.n := by rw [E.len, Nat.add_mul]; omega
      simp only [Enc.recs, List.flatMap_cons, List.drop_succ_cons] at *
      rw [e, List.drop_length_add_append, ih]

/-- A slice of records that is owned. -/
def RecS (t : TypeId) (v : Value) (l : List α) : Assn := Own t E.n v l.length (E.recs l)

variable {E} {k : Env} {w : World} {t : TypeId} {R : Assn} {l : List α}
theorem rec_val {v : Value} (h : Sat k w (RecS E t v l * R)) : ∃ a c, v = .slice a l.length c := own_val h
theorem rec_nil (h : Sat k w R) : Sat k w (RecS E t (.slice none 0 0) [] * R) := own_nil h
theorem rec_push {v : Value} {x : α} (h : Sat k w (Own t E.n v (l.length + 1) (E.recs l ++ E.f x) * R)) : Sat k w (RecS E t v (l ++ [x]) * R) := by
  unfold RecS; rw [← E.recs_snoc, List.length_append]; exact h
theorem rec_join {v : Value} {r : List α} (h : Sat k w (Own t E.n v (l.length + r.length) (E.recs l ++ E.recs r) * R)) : Sat k w (RecS E t v (l ++ r) * R) := by
  unfold RecS; rw [E.recs_append, List.length_append]; exact h
theorem rec_cap {a : Option Addr} {c : Nat} (h : Sat k w (RecS E t (.slice a l.length c) l * R)) : l.length ≤ c ∧ c ≤ maxLen := own_cap h
theorem rec_get {a : Option Addr} {c : Nat} (h : Sat k w (RecS E t (.slice a l.length c) l * R)) (hE : 0 < E.n) (j : Nat) (hj : j < l.length) :
    ∃ g, a = some ⟨g, 0, none⟩ ∧ g < w.heap.size ∧ ∀ i, i < E.n → w.cell? ⟨g, j * E.n + i, none⟩ = (E.f l[j])[i]? := by
  obtain ⟨g, rfl, hg, hc, _⟩ := own_get h (by omega)
  refine ⟨g, rfl, hg, fun i hi => ?_⟩
  have : (j + 1) * E.n ≤ l.length * E.n := Nat.mul_le_mul_right _ hj
  rw [Nat.add_mul] at this
  exact (hc _ (by omega)).trans (E.recs_get l j i hj hi)
/-- A literal. -/
theorem rec_lit (hl : l.length ≤ maxLen) (h : Sat k w R) (g : Nat) (hg : w.heap.size = g) :
    Sat k (w.alloc (.cells (E.recs l).toArray t)) (RecS E t (.slice (some ⟨g, 0, none⟩) l.length l.length) l * R) := by
  subst hg
  exact own_mk (h.alloc _) (Nat.le_refl _) hl (by simp [E.recs_len]) (E.recs_len l) (List.take_of_length_le (by rw [← E.recs_len]; simp))
end

end Go.Proofs.Ytoeepbjnbgpmpaa

namespace Go.Proofs.Ytoeepbjnbgpmpaa
set_option linter.all false
open Go Go.RowKit Go.ChangeShapes Go.WideShapes Go.ChangeAt

/-- A slice of integers that came in. -/
def IsRow (k : IntKind) (w : World) (a : Option Addr) (len cap : Nat) (zs : List Int) : Prop :=
  (a = none ∧ len = 0 ∧ cap = 0 ∧ zs = []) ∨
  ∃ x, a = some x ∧ len ≤ cap ∧ cap ≤ maxLen ∧ zs.length = cap ∧ (∀ i, i < zs.length → w.cell? (x.add i) = some (.int k (zs.getD i 0))) ∧ ∀ n ∈ zs, (Lit.int k n).wf = true

theorem isRow_open {H : Type} {enc : TypeId × Value → H} {P : Program} {w : World} {t e : TypeId} {k : IntKind} {a : Option Addr} {len cap : Nat} {d : DataW H} {p : List MemPlace} {held : Bool}
    (ht : P.underlying t = some (.slice e)) (he : P.underlying e = some (.int k)) (hc : P.cellsOf e = 1) (h : DataW.Trod enc P w 0 (fun _ => true) held t (.slice a len cap) d p) : ∃ zs, IsRow k w a len cap zs := by
  obtain ⟨fuel, hf⟩ := h
  rcases open_ints ht he hc hf with ⟨hcs, _⟩ | ⟨x, l, c, zs, hcs, _, hl, hm, hz, _, hcell, hwz⟩
  · simp [Value.cells] at hcs
    obtain ⟨rfl, rfl, rfl⟩ := hcs
    exact ⟨[], .inl ⟨rfl, rfl, rfl, rfl⟩⟩
  · simp [Value.cells] at hcs
    obtain ⟨rfl, rfl, rfl⟩ := hcs
    exact ⟨zs, .inr ⟨_, rfl, hl, hm, by simpa using hz, hcell, hwz⟩⟩

/-- How long a slice that came in can be. -/
theorem sized_any {H : Type} {enc : TypeId × Value → H} {P : Program} {W : World} {base : Nat} {spare : Nat → Bool} {held : Bool} {t e : TypeId} {a : Option Addr} {len cap : Nat} {d : DataW H} {ps : List MemPlace} {ts : List TypeId} {ds : List (DataW H)} {j : Nat}
    (hsz : (DataW.weightsEach P ts ds).all (· ≤ reachBytes) = true) (ht : ts[j]? = some t) (hd : ds[j]? = some d) (hu : P.underlying t = some (.slice e)) {B : Nat} (hB : P.bytesOf e = B)
    (h : DataW.Trod enc P W base spare held t (.slice a len cap) d ps) : len * B ≤ 140737488351232 := by
  obtain ⟨fuel, hf⟩ := h
  rcases Deep.open_slice hu hf with ⟨hcs, _⟩ | ⟨x, l, c, m, n, D, Pl, hcs, _, hl, _, hm, hx, _⟩
  · simp [Value.cells] at hcs
    obtain ⟨rfl, rfl, rfl⟩ := hcs
    simp
  · simp [Value.cells] at hcs
    obtain ⟨rfl, rfl, rfl⟩ := hcs
    obtain ⟨hx, _⟩ := Prod.mk.inj hx
    subst hx
    have z := sized_slice hsz ht hd hu
    rw [hB] at z
    simp only [List.length_map, List.length_range] at z
    have : len * B ≤ (len + (m - len)) * B := Nat.mul_le_mul_right _ (by omega)
    exact Nat.le_trans this z

/-- The whole of the old heap, kept: what is read of it later. -/
theorem whole_cell {W w : World} {k : Env} (h : Sat k w (whole W)) {a : Addr} {v : Value} (hc : W.cell? a = some v) : w.cell? a = some v := by
  obtain ⟨e, x, hx, p⟩ := h
  have p' : x = fun i => W.heap[i]? := p
  subst p'
  unfold World.cell? at hc ⊢
  cases hb : W.heap[a.block]? with
  | none => rw [hb] at hc; cases hc
  | some o =>
    rw [hx _ _ hb]
    rw [hb] at hc
    exact hc

theorem row_get {W w : World} {k : Env} {kd : IntKind} {a : Option Addr} {len cap : Nat} {zs : List Int} (z : IsRow kd W a len cap zs) (h : Sat k w (whole W)) (j : Nat) (hj : j < len) :
    ∃ g o u, a = some ⟨g, o, none⟩ ∧ g < w.heap.size ∧ w.cell? ⟨g, o + j, none⟩ = some (.int kd u) ∧ (Lit.int kd u).wf = true ∧ Hid (u = zs.getD j 0) := by
  rcases z with ⟨_, rfl, _⟩ | ⟨x, rfl, hl, hm, hz, hc, hw⟩
  · omega
  · obtain ⟨b, off, spot⟩ := x
    have hs : spot = none := by simpa [Addr.add] using World.cell?_spot (hc 0 (by omega))
    subst hs
    have h1 := whole_cell h (hc j (by omega))
    rw [Addr.add_lit] at h1
    refine ⟨b, off, _, rfl, World.block_lt_of_cell? w _ h1, h1, hw _ ?_, rfl⟩
    rw [List.getD, List.getElem?_eq_getElem (by omega)]; exact List.getElem_mem _
/-- An element of what came in, to be read in every later world. -/
theorem row_at {W : World} {kd : IntKind} {a : Option Addr} {len cap : Nat} {zs : List Int} (z : IsRow kd W a len cap zs) (j : Nat) (hj : j < len) :
    ∃ g o u, a = some ⟨g, o, none⟩ ∧ Hid (W.cell? ⟨g, o + j, none⟩ = some (.int kd u)) ∧ (Lit.int kd u).wf = true ∧ Hid (u = zs.getD j 0) := by
  rcases z with ⟨_, rfl, _⟩ | ⟨x, rfl, hl, hm, hz, hc, hw⟩
  · omega
  · obtain ⟨b, off, spot⟩ := x
    have hs : spot = none := by simpa [Addr.add] using World.cell?_spot (hc 0 (by omega))
    subst hs
    have h1 := hc j (by omega)
    rw [Addr.add_lit] at h1
    refine ⟨b, off, _, rfl, h1, hw _ ?_, rfl⟩
    rw [List.getD, List.getElem?_eq_getElem (by omega)]; exact List.getElem_mem _
theorem whole_at {W w : World} {k : Env} {g o : Nat} {v : Value} (h : Sat k w (whole W)) (hc : Hid (W.cell? ⟨g, o, none⟩ = some v)) : g < w.heap.size ∧ w.cell? ⟨g, o, none⟩ = some v :=
  ⟨World.block_lt_of_cell? w _ (whole_cell h hc.out), whole_cell h hc.out⟩
theorem row_bounds {kd : IntKind} {W : World} {a : Option Addr} {len cap : Nat} {zs : List Int} (z : IsRow kd W a len cap zs) : len ≤ cap ∧ cap ≤ maxLen ∧ zs.length = cap := by
  rcases z with ⟨_, rfl, rfl, rfl⟩ | ⟨x, rfl, hl, hm, hz, hc, hw⟩
  · simp [maxLen]
  · exact ⟨hl, hm, hz⟩

/-- An array of integers that came in by value. -/
theorem arr_open {H : Type} {enc : TypeId × Value → H} {P : Program} {w : World} {t e : TypeId} {k : IntKind} {n : Nat} {cs : Array Value} {d : DataW H} {p : List MemPlace} {held : Bool}
    (ht : P.underlying t = some (.array n e)) (he : P.underlying e = some (.int k)) (hc : P.cellsOf e = 1) (hC : P.cellsOf t = n) (hsz : cs.size = P.cellsOf t) (h : DataW.Trod enc P w 0 (fun _ => true) held t (.agg cs) d p) :
    ∃ zs : List Int, zs.length = n ∧ cs = (zs.map (Value.int k)).toArray ∧ ∀ z ∈ zs, (Lit.int k z).wf = true := by
  obtain ⟨fuel, hf⟩ := h
  obtain ⟨xs, m, _, _, hl, hxs, hx⟩ := DataW.trod_array ht hf
  have hcs : (Value.agg cs).cells.toList = cs.toList := rfl
  have key : ∀ i, i < n → ∃ z : Int, cs.toList[i]? = some (.int k z) ∧ (Lit.int k z).wf = true := by
    intro i hi
    have h1 := hx i hi
    rw [hc, Nat.mul_one] at h1
    rw [List.getElem?_eq_getElem (by omega)] at h1
    obtain ⟨z, hz, _, hw⟩ := DataW.trod_int he h1
    refine ⟨z, ?_, hw⟩
    have h2 : ((Value.agg cs).cells.toList.drop i).take 1 = [.int k z] := hz
    rw [hcs] at h2
    have h3 := congrArg (fun l => l[0]?) h2
    simpa [List.getElem?_take, List.getElem?_drop] using h3
  obtain ⟨F, hF⟩ := Deep.choose_lt (α := Int) (p := fun i z => cs.toList[i]? = some (.int k z) ∧ (Lit.int k z).wf = true) key
  refine ⟨(List.range n).map F, by simp, ?_, ?_⟩
  · apply Array.ext'
    apply List.ext_getElem?
    intro i
    by_cases hi : i < n
    · rw [(hF i hi).1]; simp [hi]
    · have : cs.toList.length = n := by rw [Array.length_toList, hsz, hC]
      rw [List.getElem?_eq_none (by omega)]; simp [hi]
  · intro z hz
    obtain ⟨i, hi, rfl⟩ := List.mem_map.1 hz
    exact (hF i (List.mem_range.1 hi)).2

/-- A slice of records that came in: of each its cells. -/
def IsRecs (w : World) (a : Option Addr) (len cap size : Nat) (ok : List Value → Prop) (xs : List (List Value)) : Prop :=
  (a = none ∧ len = 0 ∧ cap = 0 ∧ xs = []) ∨
  ∃ x, a = some x ∧ len ≤ cap ∧ cap ≤ maxLen ∧ xs.length = len ∧ ∀ i, i < len → ∃ cs, xs[i]? = some cs ∧ cs.length = size ∧ ok cs ∧ ∀ j, j < size → w.cell? ((x.add (i * size)).add j) = cs[j]?

theorem isRecs_open {H : Type} {enc : TypeId × Value → H} {P : Program} {w : World} {t e : TypeId} {a : Option Addr} {len cap size : Nat} {d : DataW H} {p : List MemPlace} {held : Bool} {ok : List Value → Prop}
    (ht : P.underlying t = some (.slice e)) (hc : P.cellsOf e = size) (hok : ∀ fuel cs x, DataW.trod enc P w 0 (fun _ => true) held fuel e cs = some x → ok cs)
    (h : DataW.Trod enc P w 0 (fun _ => true) held t (.slice a len cap) d p) : ∃ xs, IsRecs w a len cap size ok xs := by
  obtain ⟨fuel, hf⟩ := h
  rcases Deep.open_slice ht hf with ⟨hcs, _⟩ | ⟨x, l, c, m, n, D, Pl, hcs, _, hl, hcm, hm, _, hx⟩
  · simp [Value.cells] at hcs
    obtain ⟨rfl, rfl, rfl⟩ := hcs
    exact ⟨[], .inl ⟨rfl, rfl, rfl, rfl⟩⟩
  · simp [Value.cells] at hcs
    obtain ⟨rfl, rfl, rfl⟩ := hcs
    have hm' : len ≤ m := by rw [hm]; simpa using hl
    obtain ⟨F, hF⟩ := Deep.choose_lt (α := List Value) (p := fun i cs => w.cells? 0 (x.add (i * P.cellsOf e)) (P.cellsOf e) = some cs ∧ DataW.trod enc P w 0 (fun _ => true) held n e cs = some (D i, Pl i)) hx
    refine ⟨(List.range len).map F, .inr ⟨x, rfl, hl, hcm, by simp, fun i hi => ?_⟩⟩
    obtain ⟨h1, h2⟩ := hF i (by omega)
    rw [hc] at h1
    obtain ⟨_, h3, h4⟩ := World.cells?_some h1
    exact ⟨F i, by simp [hi], h3, hok _ _ _ h2, h4⟩

theorem rec_at {W : World} {a : Option Addr} {len cap size : Nat} {ok : List Value → Prop} {xs : List (List Value)} (z : IsRecs W a len cap size ok xs) (hs : 0 < size) (i : Nat) (hi : i < len) :
    ∃ g o cs, a = some ⟨g, o, none⟩ ∧ xs[i]? = some cs ∧ cs.length = size ∧ ok cs ∧ ∀ j, j < size → Hid (W.cell? ⟨g, o + i * size + j, none⟩ = cs[j]?) := by
  rcases z with ⟨_, rfl, _⟩ | ⟨x, rfl, hl, hm, hx, hc⟩
  · omega
  · obtain ⟨b, off, spot⟩ := x
    have hsp : spot = none := by
      obtain ⟨cs, h1, h2, h3, h4⟩ := hc 0 (by omega)
      have hq := h4 0 hs
      rw [List.getElem?_eq_getElem (by omega)] at hq
      simpa [Addr.add] using World.cell?_spot hq
    obtain ⟨cs, h1, h2, h3, h4⟩ := hc i hi
    subst hsp
    refine ⟨b, off, cs, rfl, h1, h2, h3, fun j hj => ?_⟩
    have := h4 j hj
    rw [Addr.add_lit, Addr.add_lit] at this
    exact this

end Go.Proofs.Ytoeepbjnbgpmpaa

namespace Go.Proofs.Ytoeepbjnbgpmpaa
set_option linter.all false
open Go Go.RowKit

/-- None of its strings is larger than there is room. -/
def okWt {H : Type} (P : Program) (t : TypeId) (d : DataW H) : Prop := ∀ n ∈ d.weights P t, n ≤ 140737488351232

section
variable {H : Type} {enc : TypeId × Value → H} {P : Program} {w : World} {base : Nat} {spare : Nat → Bool} {held : Bool}
theorem wt_of {ts : List TypeId} {ds : List (DataW H)} {j : Nat} {t : TypeId} {d : DataW H} (hsz : (DataW.weightsEach P ts ds).all (· ≤ reachBytes) = true) (ht : ts[j]? = some t) (hd : ds[j]? = some d) : okWt P t d := by
  intro n hn
  have := List.all_eq_true.1 hsz _ (DataW.weights_mem_each ht hd n hn)
  simp only [decide_eq_true_eq] at this
  exact Nat.le_trans this (by decide)
theorem wt_string {t : TypeId} {l : List UInt8} (h : okWt P t (DataW.lit (H := H) (.string l))) : l.length ≤ 140737488351232 := h _ (by simp [DataW.weights])
theorem wt_part {t : TypeId} {fs : Array Field} {parts : List (DataW H)} (ht : P.underlying t = some (.struct fs)) (h : okWt P t (.agg parts)) {i : Nat} {f : Field} {d : DataW H} (hf : fs[i]? = some f) (hd : parts[i]? = some d) : okWt P f.type d := by
  intro n hn
  refine h n ?_
  rw [DataW.weights, ht]
  exact DataW.weights_mem_each (ts := fs.toList.map (·.type)) (j := i) (t := f.type) (by simp [hf]) hd n hn
theorem wt_all {e : TypeId} {ds : List (DataW H)} {d : DataW H} (hd : d ∈ ds) {n : Nat} (hn : n ∈ d.weights P e) : n ∈ DataW.weightsAll P e ds := by
  induction ds with
  | nil => cases hd
  | cons x r ih =>
    rw [DataW.weightsAll, List.mem_append]
    rcases List.mem_cons.1 hd with rfl | hd
    · exact .inl hn
    · exact .inr (ih hd)
theorem wt_elem {t e : TypeId} {elems sp : List (DataW H)} (ht : P.underlying t = some (.slice e)) (h : okWt P t (.slice elems sp)) {d : DataW H} (hd : d ∈ elems) : okWt P e d := by
  intro n hn
  refine h n ?_
  rw [DataW.weights, ht]
  simp only [List.mem_cons, List.mem_append]
  exact .inr (.inl (wt_all hd hn))

theorem trod_struct4 {t : TypeId} {f0 f1 f2 f3 : Field} {fuel : Nat} {cs : List Value} {x : DataW H × List MemPlace} (ht : P.underlying t = some (.struct #[f0, f1, f2, f3])) (h : DataW.trod enc P w base spare held fuel t cs = some x) :
    ∃ y0 y1 y2 y3 n, x.1 = .agg [y0.1, y1.1, y2.1, y3.1] ∧ cs.length = P.cellsOf t ∧ DataW.trod enc P w base spare held n f0.type ((cs.drop f0.offset).take (P.cellsOf f0.type)) = some y0 ∧
      DataW.trod enc P w base spare held n f1.type ((cs.drop f1.offset).take (P.cellsOf f1.type)) = some y1 ∧ DataW.trod enc P w base spare held n f2.type ((cs.drop f2.offset).take (P.cellsOf f2.type)) = some y2 ∧
      DataW.trod enc P w base spare held n f3.type ((cs.drop f3.offset).take (P.cellsOf f3.type)) = some y3 := by
  obtain ⟨xs, n, _, rfl, hl, hlen, hf⟩ := DataW.trod_struct ht h
  match xs, hlen with
  | [y0, y1, y2, y3], _ => exact ⟨y0, y1, y2, y3, n, rfl, hl, by simpa using hf 0 f0 rfl, by simpa using hf 1 f1 rfl, by simpa using hf 2 f2 rfl, by simpa using hf 3 f3 rfl⟩

theorem isRecs_openW {t e : TypeId} {a : Option Addr} {len cap size : Nat} {d : DataW H} {p : List MemPlace} {ok : List Value → Prop}
    (ht : P.underlying t = some (.slice e)) (hc : P.cellsOf e = size) (hok : ∀ fuel cs x, DataW.trod enc P w 0 (fun _ => true) held fuel e cs = some x → okWt P e x.1 → ok cs) (hw : okWt P t d)
    (h : DataW.Trod enc P w 0 (fun _ => true) held t (.slice a len cap) d p) : ∃ xs, IsRecs w a len cap size ok xs := by
  obtain ⟨fuel, hf⟩ := h
  rcases Deep.open_slice ht hf with ⟨hcs, _⟩ | ⟨x, l, c, m, n, D, Pl, hcs, _, hl, hcm, hm, hd, hx⟩
  · simp [Value.cells] at hcs
    obtain ⟨rfl, rfl, rfl⟩ := hcs
    exact ⟨[], .inl ⟨rfl, rfl, rfl, rfl⟩⟩
  · simp [Value.cells] at hcs
    obtain ⟨rfl, rfl, rfl⟩ := hcs
    obtain ⟨hd, _⟩ := Prod.mk.inj hd
    subst hd
    have hm' : len ≤ m := by rw [hm]; simpa using hl
    obtain ⟨F, hF⟩ := Deep.choose_lt (α := List Value) (p := fun i cs => w.cells? 0 (x.add (i * P.cellsOf e)) (P.cellsOf e) = some cs ∧ DataW.trod enc P w 0 (fun _ => true) held n e cs = some (D i, Pl i)) hx
    refine ⟨(List.range len).map F, .inr ⟨x, rfl, hl, hcm, by simp, fun i hi => ?_⟩⟩
    obtain ⟨h1, h2⟩ := hF i (by omega)
    rw [hc] at h1
    obtain ⟨_, h3, h4⟩ := World.cells?_some h1
    exact ⟨F i, by simp [hi], h3, hok _ _ _ h2 (wt_elem ht hw (List.mem_map.2 ⟨i, List.mem_range.2 hi, rfl⟩)), h4⟩
end

end Go.Proofs.Ytoeepbjnbgpmpaa

namespace Go.Proofs.Ytoeepbjnbgpmpaa
set_option linter.all false
open Go Go.RowKit

section
variable {K : Type} [DecidableEq K]

def mloc (a : K) : List (K × Value) → Nat → Option (Nat × Value)
  | [], _ => none
  | x :: r, i => if x.1 = a then some (i, x.2) else mloc a r (i + 1)

theorem mloc_none {a : K} {v : Value} {l : List (K × Value)} {i : Nat} (h : mloc a l i = none) : mget a l = none ∧ mput a v l = l ++ [(a, v)] ∧ mdel a l = l := by
  induction l generalizing i with
  | nil => simp [mget, mput, mdel]
  | cons x r ih =>
    rw [mloc] at h
    by_cases hx : x.1 = a
    · rw [if_pos hx] at h; cases h
    · rw [if_neg hx] at h
      obtain ⟨h1, h2, h3⟩ := ih h
      exact ⟨by rw [mget, if_neg hx, h1], by rw [mput, if_neg hx, h2]; rfl, by rw [mdel, if_neg hx, h3]⟩

theorem mloc_some {a : K} {v : Value} {l : List (K × Value)} {i j : Nat} {u : Value} (h : mloc a l i = some (j, u)) :
    i ≤ j ∧ mget a l = some u ∧ (∃ y, l[j - i]? = some y ∧ y.1 = a) ∧ mput a v l = l.set (j - i) (a, v) ∧ mdel a l = l.eraseIdx (j - i) := by
  induction l generalizing i with
  | nil => simp [mloc] at h
  | cons x r ih =>
    rw [mloc] at h
    by_cases hx : x.1 = a
    · rw [if_pos hx] at h
      simp only [Option.some.injEq, Prod.mk.injEq] at h
      obtain ⟨rfl, rfl⟩ := h
      simp [mget, mput, mdel, hx]
    · rw [if_neg hx] at h
      obtain ⟨h1, h2, ⟨y, h3, h3'⟩, h4, h5⟩ := ih h
      have e : j - i = (j - (i + 1)) + 1 := by omega
      refine ⟨by omega, by rw [mget, if_neg hx, h2], ⟨y, by rw [e]; simpa using h3, h3'⟩, ?_, ?_⟩
      · rw [mput, if_neg hx, h4, e]; rfl
      · rw [mdel, if_neg hx, h5, e]; rfl
end

theorem bytes_beq (a b : ByteArray) : (a == b) = decide (a = b) := by
  have h : (a == b) = (a.data == b.data) := rfl
  rw [h]
  by_cases e : a = b
  · subst e; simp
  · have : a.data ≠ b.data := fun h => e (by cases a; cases b; simp_all)
    simp [this, e]

theorem tl_beq (a b : ByteArray) : (a.toList == b.toList) = decide (a = b) := by rw [← beq_toListBytes, bytes_beq]

/-- A map's key type, at keys of a Lean type. -/
structure KeyT (P : Program) (t : TypeId) {K : Type} [DecidableEq K] (kv : K → Value) : Prop where
  check : ∀ (b : Bool) (a : K) (w : World), (Instr.checkKey b 10000 t (kv a)).run P w = .ok () w
  find : ∀ (a : K) (es : List MapEntry) (l : List (K × Value)) (w : World), es.map (fun e => (e.key, e.val)) = l.map (fun x => (kv x.1, x.2)) → (Instr.findKey t (kv a) es).run P w = .ok (mloc a l 0) w
  bits : ∀ a : K, Instr.sameBits 10000 (kv a) (kv a) = true

theorem findNow_at {K : Type} [DecidableEq K] {kd : TypeDesc} {kv : K → Value} (hs : ∀ a b : K, Instr.sameNow kd (kv a) (kv b) = some (decide (a = b))) (a : K) (es : List MapEntry) (l : List (K × Value)) (i : Nat)
    (h : es.map (fun e => (e.key, e.val)) = l.map (fun x => (kv x.1, x.2))) : Instr.findNow kd (kv a) es i = some (mloc a l i) := by
  induction es generalizing l i with
  | nil =>
    cases l with
    | nil => rfl
    | cons x r => simp at h
  | cons e es ih =>
    cases l with
    | nil => simp at h
    | cons x r =>
      simp only [List.map_cons, List.cons.injEq, Prod.mk.injEq] at h
      obtain ⟨⟨h1, h2⟩, h3⟩ := h
      rw [Instr.findNow, h1, hs]
      by_cases hx : x.1 = a
      · subst hx
        simp [mloc, h2]
      · have hx' : ¬ a = x.1 := fun e => hx e.symm
        simp only [hx', decide_false]
        rw [mloc, if_neg hx]
        exact ih r (i + 1) h3

theorem keyT_int {P : Program} {t : TypeId} {k : IntKind} (ht : P.underlying t = some (.int k)) : KeyT P t (Value.int k) where
  check b a w := by
    show (Instr.checkKey b (9999 + 1) t _).run P w = _
    rw [Instr.checkKey]
    simp [run_underlying ht]
  find a es l w h := by
    unfold Instr.findKey
    simp only [Sem.run_bind, run_underlying ht, Result.andThen_ok]
    rw [findNow_at (kv := Value.int k) (fun a b => by by_cases h : a = b <;> simp [Instr.sameNow, h]) a es l 0 h]
    rfl
  bits a := by simp [Instr.sameBits]

theorem keyT_string {P : Program} {t : TypeId} (ht : P.underlying t = some .string) : KeyT P t Value.string where
  check b a w := by
    show (Instr.checkKey b (9999 + 1) t _).run P w = _
    rw [Instr.checkKey]
    simp [run_underlying ht]
  find a es l w h := by
    unfold Instr.findKey
    simp only [Sem.run_bind, run_underlying ht, Result.andThen_ok]
    rw [findNow_at (kv := Value.string) (fun a b => by simp [Instr.sameNow, bytes_beq]) a es l 0 h]
    rfl
  bits a := by simp [Instr.sameBits, bytes_beq]

/-- A map that the world holds: its entries, in the order in which they came. -/
def MapK {K : Type} (kv : K → Value) (b : Nat) (l : List (K × Value)) : Assn :=
  ex fun p : Array MapEntry × Nat => pur (p.1.toList.map (fun e => (e.key, e.val)) = l.map (fun x => (kv x.1, x.2)) ∧ (l.map (·.1)).Nodup ∧ (p.1.toList.map (·.born)).Pairwise (· < ·) ∧ ∀ e ∈ p.1.toList, e.born < p.2) * blk b (.map p.1 p.2)

section
variable {K : Type} [DecidableEq K] {kv : K → Value} {k : Env} {w : World} {b : Nat} {l : List (K × Value)} {R : Assn} {P : Program} {mt kt et : TypeId}

omit [DecidableEq K] in
theorem map_open (h : Sat k w (MapK kv b l * R)) : ∃ es c, es.toList.map (fun e => (e.key, e.val)) = l.map (fun x => (kv x.1, x.2)) ∧ (l.map (·.1)).Nodup ∧ (es.toList.map (·.born)).Pairwise (· < ·) ∧ (∀ e ∈ es.toList, e.born < c) ∧ Sat k w (blk b (.map es c) * R) := by
  obtain ⟨⟨es, c⟩, h⟩ := Sat.ex.1 h
  rw [star_assoc] at h
  obtain ⟨⟨h1, h2, h3, h4⟩, h⟩ := Sat.pure.1 h
  exact ⟨es, c, h1, h2, h3, h4, h⟩
omit [DecidableEq K] in
theorem map_close {es : Array MapEntry} {c : Nat} (h : Sat k w (blk b (.map es c) * R)) (h1 : es.toList.map (fun e => (e.key, e.val)) = l.map (fun x => (kv x.1, x.2))) (h2 : (l.map (·.1)).Nodup) (h3 : (es.toList.map (·.born)).Pairwise (· < ·)) (h4 : ∀ e ∈ es.toList, e.born < c) :
    Sat k w (MapK kv b l * R) :=
  Sat.ex.2 ⟨(es, c), by rw [star_assoc]; exact Sat.pure.2 ⟨⟨h1, h2, h3, h4⟩, h⟩⟩

omit [DecidableEq K] in
theorem map_nodup (h : Sat k w (MapK kv b l * R)) : (l.map (·.1)).Nodup := by
  obtain ⟨_, _, _, h, _⟩ := map_open h
  exact h

omit [DecidableEq K] in
theorem map_made (h : Sat k w R) : Sat k (w.alloc (.map #[] 0)) (MapK kv w.heap.size ([] : List (K × Value)) * R) :=
  map_close (h.alloc _) rfl (by simp) (by simp) (by simp)

theorem run_lookup_sat (T : KeyT P kt kv) (hm : P.underlying mt = some (.map kt et)) {z : Value} (hz : ∀ w, (zeroValue et).run P w = .ok z w) (h : Sat k w (MapK kv b l * R)) (a : K) :
    (Instr.lookup mt (.map (some b)) (kv a) false).run P w = .ok ((mget a l).getD z) w := by
  obtain ⟨es, c, h1, _, _, _, hs⟩ := map_open h
  have hg := hs.get
  unfold Instr.lookup
  simp only [Sem.run_bind, run_underlying hm, Result.andThen_ok]
  simp [getObj, Sem.run, hg, T.check, T.find a _ _ _ h1]
  cases hq : mloc a l 0 with
  | none => simp [(mloc_none (v := .bool false) hq).1, hz]
  | some y => obtain ⟨j, u⟩ := y; simp [(mloc_some (v := .bool false) hq).2.1]

theorem run_lookup_ok_sat (T : KeyT P kt kv) (hm : P.underlying mt = some (.map kt et)) {z : Value} (hz : ∀ w, (zeroValue et).run P w = .ok z w) (h : Sat k w (MapK kv b l * R)) (a : K) :
    (Instr.lookup mt (.map (some b)) (kv a) true).run P w = .ok (.tuple #[(mget a l).getD z, .bool (mget a l).isSome]) w := by
  obtain ⟨es, c, h1, _, _, _, hs⟩ := map_open h
  have hg := hs.get
  unfold Instr.lookup
  simp only [Sem.run_bind, run_underlying hm, Result.andThen_ok]
  simp [getObj, Sem.run, hg, T.check, T.find a _ _ _ h1]
  cases hq : mloc a l 0 with
  | none => simp [(mloc_none (v := .bool false) hq).1, hz]
  | some y => obtain ⟨j, u⟩ := y; simp [(mloc_some (v := .bool false) hq).2.1]


theorem run_lookup_nil (T : KeyT P kt kv) (hm : P.underlying mt = some (.map kt et)) {z : Value} (hz : ∀ w, (zeroValue et).run P w = .ok z w) (a : K) (w : World) :
    (Instr.lookup mt (.map none) (kv a) false).run P w = .ok z w := by
  unfold Instr.lookup
  simp only [Sem.run_bind, run_underlying hm, Result.andThen_ok]
  simp [T.check, T.find a [] [] _ rfl, mloc, hz]
theorem run_lookup_ok_nil (T : KeyT P kt kv) (hm : P.underlying mt = some (.map kt et)) {z : Value} (hz : ∀ w, (zeroValue et).run P w = .ok z w) (a : K) (w : World) :
    (Instr.lookup mt (.map none) (kv a) true).run P w = .ok (.tuple #[z, .bool false]) w := by
  unfold Instr.lookup
  simp only [Sem.run_bind, run_underlying hm, Result.andThen_ok]
  simp [T.check, T.find a [] [] _ rfl, mloc, hz]

omit [DecidableEq K] in
theorem run_len_map (ty : TypeId) (hm : P.underlying mt = some (.map kt et)) (h : Sat k w (MapK kv b l * R)) : (Builtin.len_ #[mt] ty #[.map (some b)]).run P w = .ok (.int .i64 l.length) w := by
  obtain ⟨es, c, h1, _, _, _, hs⟩ := map_open h
  have hg := hs.get
  have hl : es.size = l.length := by have := congrArg List.length h1; simpa using this
  unfold Builtin.len_
  simp only [Sem.run_bind, run_underlying hm, Result.andThen_ok, List.getElem?_toArray, List.getElem?_cons_zero]
  simp [getObj, Sem.run, hg, goInt, hl]

theorem run_update_sat (T : KeyT P kt kv) (hm : P.underlying mt = some (.map kt et)) (h : Sat k w (MapK kv b l * R)) (a : K) (v : Value) :
    ∃ w', (Instr.mapUpdate mt (.map (some b)) (kv a) v).run P w = .ok () w' ∧ Sat k w' (MapK kv b (mput a v l) * R) := by
  obtain ⟨es, c, h1, h2, h3, h4, hs⟩ := map_open h
  have hg := hs.get
  have hlen : es.size = l.length := by have := congrArg List.length h1; simpa using this
  unfold Instr.mapUpdate
  simp only [Sem.run_bind, run_underlying hm, Result.andThen_ok]
  simp [getObj, Sem.run, hg, T.check, T.find a _ _ _ h1]
  cases hq : mloc a l 0 with
  | none =>
    obtain ⟨_, e2, _⟩ := mloc_none (v := v) hq
    simp [setObj, Sem.run, hg]
    refine map_close hs.setObj ?_ (mput_nodup _ _ _ h2) ?_ ?_
    · rw [e2]; simp [h1]
    · simp only [Array.toList_push, List.map_append, List.pairwise_append]
      refine ⟨h3, by simp, fun x hx y hy => ?_⟩
      obtain ⟨e, he, rfl⟩ := List.mem_map.1 hx
      simp at hy
      subst hy
      exact h4 e he
    · intro e he
      simp only [Array.toList_push, List.mem_append, List.mem_singleton] at he
      rcases he with he | rfl
      · exact Nat.lt_succ_of_lt (h4 e he)
      · exact Nat.lt_succ_self c
  | some y =>
    obtain ⟨j, u⟩ := y
    obtain ⟨_, _, ⟨y, hy, hya⟩, e2, _⟩ := mloc_some (v := v) hq
    simp only [Nat.sub_zero] at hy e2
    have hj : j < l.length := (List.getElem?_eq_some_iff.1 hy).1
    have hje : j < es.size := by omega
    have hkey : es[j].key = kv a := by
      have h5 : (es.toList.map (fun e => (e.key, e.val)))[j]? = (l.map (fun x => (kv x.1, x.2)))[j]? := by rw [h1]
      rw [List.getElem?_map, List.getElem?_map, hy] at h5
      simp [hje] at h5
      rw [h5.1, hya]
    have hks : Instr.keyThatStays (kv a) (kv a) = pure (kv a) := by unfold Instr.keyThatStays; rw [if_pos (T.bits a)]
    simp [hje, hkey, hks, setObj, Sem.run, hg]
    have hb : (es.modify j fun e => { e with key := kv a, val := v }).toList.map (·.born) = es.toList.map (·.born) := by
      apply List.ext_getElem?
      intro n
      simp only [List.getElem?_map, Array.getElem?_toList, Array.getElem?_modify]
      split
      · cases es[n]? <;> rfl
      · rfl
    refine map_close hs.setObj ?_ (mput_nodup _ _ _ h2) ?_ ?_
    · rw [e2]
      apply List.ext_getElem?
      intro n
      have h5 : (es.toList.map (fun e => (e.key, e.val)))[n]? = (l.map (fun x => (kv x.1, x.2)))[n]? := by rw [h1]
      simp only [List.getElem?_map, Array.getElem?_toList] at h5
      simp only [List.getElem?_map, Array.getElem?_toList, Array.getElem?_modify, List.getElem?_set]
      by_cases hn : j = n
      · subst hn
        simp [hje, hj]
      · simp [hn, h5]
    · rw [hb]; exact h3
    · intro e he
      have : e.born ∈ (es.modify j fun e => { e with key := kv a, val := v }).toList.map (·.born) := List.mem_map_of_mem he
      rw [hb] at this
      obtain ⟨e', he', hq'⟩ := List.mem_map.1 this
      rw [← hq']
      exact h4 e' he'

theorem run_delete_sat (T : KeyT P kt kv) (hm : P.underlying mt = some (.map kt et)) (h : Sat k w (MapK kv b l * R)) (a : K) (ty : TypeId) :
    ∃ w', (Builtin.delete_ #[mt, kt] ty #[.map (some b), kv a]).run P w = .ok (.tuple #[]) w' ∧ Sat k w' (MapK kv b (mdel a l) * R) := by
  obtain ⟨es, c, h1, h2, h3, h4, hs⟩ := map_open h
  have hg := hs.get
  have hlen : es.size = l.length := by have := congrArg List.length h1; simpa using this
  unfold Builtin.delete_
  simp only [Sem.run_bind, run_underlying hm, Result.andThen_ok, List.getElem?_toArray, List.getElem?_cons_zero, List.getElem?_cons_succ]
  simp [getObj, Sem.run, hg, T.check, T.find a _ _ _ h1]
  cases hq : mloc a l 0 with
  | none =>
    obtain ⟨_, _, e3⟩ := mloc_none (v := .bool false) hq
    simp [setObj, Sem.run, hg]
    rw [e3]
    exact map_close hs.setObj h1 h2 h3 h4
  | some y =>
    obtain ⟨j, u⟩ := y
    obtain ⟨_, _, ⟨y, hy, hya⟩, _, e3⟩ := mloc_some (v := .bool false) hq
    simp only [Nat.sub_zero] at hy e3
    have hj : j < l.length := (List.getElem?_eq_some_iff.1 hy).1
    have hje : j < es.size := by omega
    simp [setObj, Sem.run, hg, hje]
    have ht : (es.eraseIdxIfInBounds j).toList = es.toList.eraseIdx j := by
      simp [Array.eraseIdxIfInBounds, hje]
    refine map_close hs.setObj ?_ (mdel_nodup _ _ h2) ?_ ?_
    · rw [ht, e3, map_eraseIdx', map_eraseIdx', h1]
    · rw [ht, map_eraseIdx']
      exact h3.sublist (List.eraseIdx_sublist _ _)
    · intro e he
      rw [ht] at he
      exact h4 e (List.mem_of_mem_eraseIdx he)

section
variable {ops : Array Oper} {rest : List Oper} {o : Oper} {act : Act} {Q : Exit → Act → World → Prop}
theorem wpList_update_sat (T : KeyT P kt kv) (hm : P.underlying mt = some (.map kt et)) (h : Sat k w (MapK kv b l * R)) (a : K) (v : Value) (m x y : Operand) (hgd : o.guard = none) (ho : o.op = Op.mapUpdate mt m x y)
    (e1 : act.eval m = .map (some b)) (e2 : act.eval x = kv a) (e3 : act.eval y = v)
    (hK : ∀ w', Sat k w' (MapK kv b (mput a v l) * R) → wpList P ops Q rest (act.put o.dst undef) w') : wpList P ops Q (o :: rest) act w := by
  refine wpList_plain hgd fun K' hK' => ?_
  obtain ⟨w', hr, h2⟩ := run_update_sat T hm h a v
  unfold Oper.wp
  simp [execOp, ho, e1, e2, e3, hr, Result.andThen]
  exact hK' _ _ (hK w' h2)

theorem wpList_delete_sat (T : KeyT P kt kv) (hm : P.underlying mt = some (.map kt et)) (h : Sat k w (MapK kv b l * R)) (a : K) (m x : Operand) (hgd : o.guard = none) (ho : o.op = Op.call { callee := Callee.builtin Builtin.delete, args := #[m, x], argTypes := #[mt, kt] })
    (e1 : act.eval m = .map (some b)) (e2 : act.eval x = kv a)
    (hK : ∀ w', Sat k w' (MapK kv b (mdel a l) * R) → wpList P ops Q rest (act.put o.dst (.tuple #[])) w') : wpList P ops Q (o :: rest) act w := by
  refine wpList_plain hgd fun K' hK' => ?_
  obtain ⟨w', hr, h2⟩ := run_delete_sat T hm h a o.type
  unfold Oper.wp
  simp [execOp, ho, resolve, invoke, builtin, e1, e2, hr, Result.andThen]
  exact hK' _ _ (hK w' h2)
theorem step_delete_sat {K' : Act → World → Prop} {E : Prop} (T : KeyT P kt kv) (hm : P.underlying mt = some (.map kt et)) (h : Sat k w (MapK kv b l * R)) (a : K) (m x : Operand) (hgd : o.guard = none) (ho : o.op = Op.call { callee := Callee.builtin Builtin.delete, args := #[m, x], argTypes := #[mt, kt] })
    (e1 : act.eval m = .map (some b)) (e2 : act.eval x = kv a)
    (hK : ∀ w', Sat k w' (MapK kv b (mdel a l) * R) → K' (act.put o.dst (.tuple #[])) w') : if Region.wanted o (yielded ops act.tmps) = true then Oper.wp P o act w K' Q else E := by
  have hw : Region.wanted o (yielded ops act.tmps) = true := by simp [Region.wanted, hgd]
  rw [if_pos hw]
  obtain ⟨w', hr, h2⟩ := run_delete_sat T hm h a o.type
  unfold Oper.wp
  simp [execOp, ho, resolve, invoke, builtin, e1, e2, hr, Result.andThen]
  exact hK w' h2
end

end

end Go.Proofs.Ytoeepbjnbgpmpaa

namespace Go.Proofs.Ytoeepbjnbgpmpaa
set_option linter.all false
open Go Go.RowKit Go.ChangeMaps

theorem map_erase {α β : Type} (f : α → β) : ∀ (l : List α) (j : Nat), (l.eraseIdx j).map f = (l.map f).eraseIdx j
  | [], _ => rfl
  | _ :: _, 0 => rfl
  | x :: r, j + 1 => by simp only [List.eraseIdx_cons_succ, List.map_cons, map_erase f r j]
theorem filter_erase : ∀ (L : List MapEntry) (j : Nat) (hj : j < L.length), (L.map (·.born)).Nodup → L.filter (fun x => !(x.born == L[j].born)) = L.eraseIdx j
  | [], _, hj, _ => by simp at hj
  | x :: r, 0, _, h => by
    rw [List.map_cons, List.nodup_cons] at h
    simp only [List.getElem_cons_zero, List.eraseIdx_cons_zero]
    rw [List.filter_cons_of_neg (by simp), List.filter_eq_self]
    intro y hy
    have : y.born ≠ x.born := fun e => h.1 (by rw [← e]; exact List.mem_map_of_mem hy)
    simpa using this
  | x :: r, j + 1, hj, h => by
    rw [List.map_cons, List.nodup_cons] at h
    have hj' : j < r.length := by simpa using hj
    simp only [List.getElem_cons_succ, List.eraseIdx_cons_succ]
    rw [List.filter_cons_of_pos, filter_erase r j hj' h.2]
    have : x.born ≠ r[j].born := fun e => h.1 (by rw [e]; exact List.mem_map_of_mem (List.getElem_mem hj'))
    simpa using this

theorem left_push (es : Array MapEntry) (seen : Array Nat) (n : Nat) : (leftOf es (seen.push n)).toList = (leftOf es seen).toList.filter (fun x => !(x.born == n)) := by
  unfold leftOf
  rw [Array.toList_filter, Array.toList_filter, List.filter_filter]
  congr 1
  funext x
  simp only [Array.contains_push, Bool.not_or]
  rw [Bool.and_comm]

section
variable {K : Type} {kv : K → Value} {k : Env} {w : World} {b r : Nat} {l left : List (K × Value)} {R : Assn} {P : Program} {mt kt et : TypeId}

/-- A map that is gone over: what has not come yet. -/
def RangeK (kv : K → Value) (b r : Nat) (l left : List (K × Value)) : Assn :=
  ex fun p : (Array MapEntry × Nat) × (Nat × Array Nat × Nat) =>
    pur ((p.1.1.toList.map (fun e => (e.key, e.val)) = l.map (fun x => (kv x.1, x.2)) ∧ (l.map (·.1)).Nodup ∧ (p.1.1.toList.map (·.born)).Pairwise (· < ·) ∧ ∀ e ∈ p.1.1.toList, e.born < p.1.2)
      ∧ (∀ x ∈ p.1.1.toList, x.born < p.2.1) ∧ p.2.1 ≤ p.2.2.2 ∧ p.2.1 ≤ p.1.2 ∧ (leftOf p.1.1 p.2.2.1).toList.map (fun e => (e.key, e.val)) = left.map (fun x => (kv x.1, x.2)))
    * (blk b (.map p.1.1 p.1.2) * blk r (.mapIter (some b) p.2.1 p.2.2.1 p.2.2.2))

theorem range_open (h : Sat k w (RangeK kv b r l left * R)) : ∃ es c since seen c0,
    (es.toList.map (fun e => (e.key, e.val)) = l.map (fun x => (kv x.1, x.2)) ∧ (l.map (·.1)).Nodup ∧ (es.toList.map (·.born)).Pairwise (· < ·) ∧ ∀ e ∈ es.toList, e.born < c)
      ∧ (∀ x ∈ es.toList, x.born < since) ∧ since ≤ c0 ∧ since ≤ c ∧ (leftOf es seen).toList.map (fun e => (e.key, e.val)) = left.map (fun x => (kv x.1, x.2)) ∧ Sat k w (blk b (.map es c) * (blk r (.mapIter (some b) since seen c0) * R)) := by
  obtain ⟨⟨⟨es, c⟩, since, seen, c0⟩, h⟩ := Sat.ex.1 h
  rw [star_assoc] at h
  obtain ⟨⟨h1, h2, h3, h4, h5⟩, h⟩ := Sat.pure.1 h
  rw [star_assoc] at h
  exact ⟨es, c, since, seen, c0, h1, h2, h3, h4, h5, h⟩
theorem range_close {es : Array MapEntry} {c since : Nat} {seen : Array Nat} {c0 : Nat}
    (h1 : es.toList.map (fun e => (e.key, e.val)) = l.map (fun x => (kv x.1, x.2)) ∧ (l.map (·.1)).Nodup ∧ (es.toList.map (·.born)).Pairwise (· < ·) ∧ ∀ e ∈ es.toList, e.born < c)
    (h2 : ∀ x ∈ es.toList, x.born < since) (h3 : since ≤ c0) (h4 : since ≤ c) (h5 : (leftOf es seen).toList.map (fun e => (e.key, e.val)) = left.map (fun x => (kv x.1, x.2)))
    (h : Sat k w (blk b (.map es c) * (blk r (.mapIter (some b) since seen c0) * R))) : Sat k w (RangeK kv b r l left * R) := by
  refine Sat.ex.2 ⟨⟨⟨es, c⟩, since, seen, c0⟩, ?_⟩
  rw [star_assoc]
  refine Sat.pure.2 ⟨⟨h1, h2, h3, h4, h5⟩, ?_⟩
  rw [star_assoc]
  exact h

/-- The map is as it was. -/
theorem range_map (h : Sat k w (RangeK kv b r l left * R)) : Sat k w (MapK kv b l * R) := by
  obtain ⟨es, c, since, seen, c0, h1, _, _, _, _, h⟩ := range_open h
  refine Sat.ex.2 ⟨⟨es, c⟩, ?_⟩
  rw [star_assoc]
  exact Sat.pure.2 ⟨h1, h.swap.drop⟩

theorem range_start (ht : P.underlying mt = some (.map kt et)) (h : Sat k w (MapK kv b l * R)) :
    ∃ o, (Instr.range mt (.map (some b))).run P w = .ok (.pointer (some ⟨w.heap.size, 0, none⟩)) (w.alloc o) ∧ Sat k (w.alloc o) (RangeK kv b w.heap.size l l * R) := by
  obtain ⟨es, c, h1, h2, h3, h4, hs⟩ := map_open h
  refine ⟨_, run_range_map w mt kt et b es c ht hs.get, range_close (es := es) (c := c) (since := c) (seen := #[]) (c0 := c) ⟨h1, h2, h3, h4⟩ h4 (Nat.le_refl _) (Nat.le_refl _) ?_ (hs.alloc _).swap⟩
  rw [← h1]
  unfold leftOf
  rw [Array.toList_filter, List.filter_eq_self.2 (by intro x _; simp)]

theorem range_next (h : Sat k w (RangeK kv b r l left * R)) (ty : TypeId) :
    (left = [] ∧ (Instr.next (.pointer (some ⟨r, 0, none⟩)) false ty).run P w = .ok (.tuple #[.bool false]) w) ∨
    ∃ (j : Nat) (hj : j < left.length) (w' : World), (Instr.next (.pointer (some ⟨r, 0, none⟩)) false ty).run P w = .ok (.tuple #[.bool true, kv left[j].1, left[j].2]) w' ∧
      Sat k w' (RangeK kv b r l (left.eraseIdx j) * R) ∧ w'.heap.size = w.heap.size ∧ (Instr.entry (.pointer (some ⟨r, 0, none⟩))).run P w' = .ok (.tuple #[kv left[j].1, left[j].2]) w' := by
  obtain ⟨es, c, since, seen, c0, ⟨h1, h2, h3, h4⟩, h5, h6, h7, h8, hs⟩ := range_open h
  have hnd : (es.toList.map (·.born)).Nodup := h3.imp fun h => Nat.ne_of_lt h
  rcases run_next_at (P := P) w ty r b since c0 seen es c hs.swap.get hs.get h5 h6 with ⟨h0, hrun⟩ | ⟨e, he, w1, hw1, hrun⟩
  · refine .inl ⟨?_, hrun⟩
    have : left.length = 0 := by rw [← List.length_map (f := fun x : K × Value => (kv x.1, x.2)), ← h8, List.length_map]; simpa using h0
    exact List.length_eq_zero_iff.1 this
  · obtain ⟨j, hj, rfl⟩ := List.getElem_of_mem he
    have hl : (leftOf es seen).toList.length = left.length := by
      have := congrArg List.length h8
      simpa using this
    have hj' : j < left.length := by omega
    have hkv : ((leftOf es seen).toList[j].key, (leftOf es seen).toList[j].val) = (kv left[j].1, left[j].2) := by
      have h9 : ((leftOf es seen).toList.map (fun e => (e.key, e.val)))[j]'(by simpa using hj) = (left.map (fun x => (kv x.1, x.2)))[j]'(by simpa using hj') := by simp only [h8]
      rw [List.getElem_map, List.getElem_map] at h9
      exact h9
    simp only [Prod.mk.injEq] at hkv
    have hs1 : Sat k w1 (blk r (.mapIter (some b) since seen c0) * (blk b (.map es c) * R)) := by rcases hw1 with rfl | rfl <;> exact hs.swap
    have hsz : w1.heap.size = w.heap.size := by rcases hw1 with rfl | rfl <;> rfl
    have hset := MapKept.heap_set (o' := .mapIter (some b) since (seen.push (leftOf es seen).toList[j].born) c) hs1.get
    have hs2 : Sat k (setBlock w1 r (.mapIter (some b) since (seen.push (leftOf es seen).toList[j].born) c)) (blk r (.mapIter (some b) since (seen.push (leftOf es seen).toList[j].born) c) * (blk b (.map es c) * R)) :=
      hs1.turn rfl hset.1 (fun i hi _ => hset.2 i hi)
    have hent := run_entry_at (P := P) _ r b since seen es c ((leftOf es seen).toList[j]) hs2.get hs2.swap.get (mem_left he).1 hnd
    rw [hkv.1, hkv.2] at hrun hent
    refine .inr ⟨j, hj', _, hrun, range_close ⟨h1, h2, h3, h4⟩ h5 h7 h7 ?_ hs2.swap, ?_, hent⟩
    · rw [left_push, filter_erase _ j hj (by
        refine List.Nodup.sublist (List.Sublist.map _ ?_) hnd
        unfold leftOf
        rw [Array.toList_filter]
        exact List.filter_sublist), map_erase, h8, map_erase]
    · simp [setBlock, hsz]
end

section
variable {K : Type} {kv : K → Value} {k : Env} {w : World} {b r : Nat} {l left : List (K × Value)} {R : Assn} {P : Program} {mt kt et : TypeId} {ops : Array Oper} {rest : List Oper} {o : Oper} {a : Act} {Q : Exit → Act → World → Prop}

theorem wpList_range_sat (hg : o.guard = none) (m : Operand) (hop : o.op = Op.range mt m) (ht : P.underlying mt = some (.map kt et)) (hm : a.eval m = .map (some b)) (h : Sat k w (MapK kv b l * R))
    (hK : ∀ g w', Sat k w' (RangeK kv b g l l * R) → wpList P ops Q rest (a.put o.dst (.pointer (some ⟨g, 0, none⟩))) w') : wpList P ops Q (o :: rest) a w := by
  refine wpList_plain hg fun K' hK' => ?_
  obtain ⟨ob, hrun, h1⟩ := range_start ht h
  unfold Oper.wp
  simp [execOp, hop, hm, hrun, Result.andThen]
  exact hK' _ _ (hK _ _ h1)

theorem wpList_next_sat (hg : o.guard = none) (it : Operand) (hop : o.op = Op.next it false) (hit : a.eval it = .pointer (some ⟨r, 0, none⟩)) (h : Sat k w (RangeK kv b r l left * R))
    (hDone : left = [] → wpList P ops Q rest (a.put o.dst (.tuple #[.bool false])) w)
    (hMore : ∀ (j : Nat) (hj : j < left.length) (w' : World), Sat k w' (RangeK kv b r l (left.eraseIdx j) * R) →
      (Instr.entry (.pointer (some ⟨r, 0, none⟩))).run P w' = .ok (.tuple #[kv left[j].1, left[j].2]) w' → wpList P ops Q rest (a.put o.dst (.tuple #[.bool true, kv left[j].1, left[j].2])) w') :
    wpList P ops Q (o :: rest) a w := by
  refine wpList_plain hg fun K' hK' => ?_
  unfold Oper.wp
  rcases range_next (P := P) h o.type with ⟨h0, hrun⟩ | ⟨j, hj, w', hrun, h1, _, hen⟩
  · simp [execOp, hop, hit, hrun, Result.andThen]
    exact hK' _ _ (hDone h0)
  · simp [execOp, hop, hit, hrun, Result.andThen]
    exact hK' _ _ (hMore j hj w' h1 hen)
end
end Go.Proofs.Ytoeepbjnbgpmpaa

namespace Go.Proofs.Ytoeepbjnbgpmpaa
set_option linter.all false
open Go Go.RowKit

theorem step_update_sat {K : Type} [DecidableEq K] {kv : K → Value} {k : Env} {w : World} {b : Nat} {l : List (K × Value)} {R : Assn} {P : Program} {mt kt et : TypeId} {ops : Array Oper} {o : Oper} {act : Act} {Q : Exit → Act → World → Prop}
    {K' : Act → World → Prop} {E : Prop} (T : KeyT P kt kv) (hm : P.underlying mt = some (.map kt et)) (h : Sat k w (MapK kv b l * R)) (a : K) (v : Value) (m x y : Operand) (hgd : o.guard = none) (ho : o.op = Op.mapUpdate mt m x y)
    (e1 : act.eval m = .map (some b)) (e2 : act.eval x = kv a) (e3 : act.eval y = v)
    (hK : ∀ w', Sat k w' (MapK kv b (mput a v l) * R) → K' (act.put o.dst undef) w') : if Region.wanted o (yielded ops act.tmps) = true then Oper.wp P o act w K' Q else E := by
  have hw : Region.wanted o (yielded ops act.tmps) = true := by simp [Region.wanted, hgd]
  rw [if_pos hw]
  obtain ⟨w', hr, h2⟩ := run_update_sat T hm h a v
  unfold Oper.wp
  simp [execOp, ho, e1, e2, e3, hr, Result.andThen]
  exact hK w' h2

end Go.Proofs.Ytoeepbjnbgpmpaa

namespace Go.Proofs.Ytoeepbjnbgpmpaa
set_option linter.all false
open Go Go.RowKit

/-- w' is w, with new blocks. -/
structure Far (w w' : World) : Prop where
  env : World.env w' = World.env w
  le : w.heap.size ≤ w'.heap.size
  old : ∀ i, i < w.heap.size → w'.heap[i]? = w.heap[i]?

section
variable {w w' : World}
theorem Far.refl (w : World) : Far w w := ⟨rfl, Nat.le_refl _, fun _ _ => rfl⟩
theorem Far.drew (h : Far w w') : Far w w'.drew := ⟨h.env, h.le, h.old⟩
theorem Far.drewN (h : Far w w') (n : Nat) : Far w (w'.drewN n) := ⟨h.env, h.le, h.old⟩
theorem Far.alloc (h : Far w w') (o : Obj) : Far w (w'.alloc o) := by
  obtain ⟨h1, h2, h3⟩ := h
  refine ⟨h1, ?_, fun i hi => ?_⟩
  · show w.heap.size ≤ (w'.heap.push o).size
    rw [Array.size_push]; omega
  · show (w'.heap.push o)[i]? = _
    rw [Array.getElem?_push, if_neg (by omega)]; exact h3 i hi
theorem Far.set (h : Far w w') (b i : Nat) (v : Value) (hb : w.heap.size ≤ b) : Far w (w'.setCell ⟨b, i, none⟩ v) := by
  obtain ⟨h1, h2, h3⟩ := h
  refine ⟨h1, ?_, fun j hj => ?_⟩
  · simpa [World.setCell] using h2
  · rw [Below.heap_setCell _ _ _ _ (by omega : j ≠ b)]; exact h3 j hj
theorem Sat.far {k : Env} {P : Assn} (h : Sat k w P) (f : Far w w') : Sat k w' P := by
  obtain ⟨e, x, hx, p⟩ := h
  refine ⟨f.env.trans e, x, fun i o hi => ?_, p⟩
  rw [f.old i (Array.getElem?_eq_some_iff.1 (hx i o hi)).1]
  exact hx i o hi
end

end Go.Proofs.Ytoeepbjnbgpmpaa

namespace Go.Proofs.Ytoeepbjnbgpmpaa
set_option linter.all false
open Go Go.RowKit

def strs (l : List ByteArray) : List Value := l.map Value.string
theorem strs_one (l : List ByteArray) : ∀ u ∈ strs l, u.oneCell' = true := by
  intro u hu
  obtain ⟨x, _, rfl⟩ := List.mem_map.1 hu
  rfl
theorem TStrs : SliceT Try.prog 52 9 (.string ByteArray.empty) 1 16 := ⟨by kernel_rfl, by kernel_rfl, rfl, by decide⟩
def Strs (v : Value) (l : List ByteArray) : Assn := Own 9 1 v l.length (strs l)
theorem strs_snoc (l : List ByteArray) (x : ByteArray) : strs l ++ [.string x] = strs (l ++ [x]) := by simp [strs]
theorem strs_push {k : Env} {w : World} {v : Value} {l : List ByteArray} {x : ByteArray} {R : Assn} (h : Sat k w (Own 9 1 v (l.length + 1) (strs l ++ [.string x]) * R)) : Sat k w (Strs v (l ++ [x]) * R) := by
  unfold Strs; rw [← strs_snoc, List.length_append]; exact h
theorem strs_get {k : Env} {w : World} {a : Option Addr} {n c : Nat} {l : List ByteArray} {R : Assn} (h : Sat k w (Own 9 1 (.slice a n c) n (strs l) * R)) (j : Nat) (hj : j < l.length) :
    ∃ g, a = some ⟨g, 0, none⟩ ∧ g < w.heap.size ∧ w.cell? ⟨g, j, none⟩ = some (.string l[j]) := by
  have hl := own_len h
  rw [strs, List.length_map, Nat.mul_one] at hl
  obtain ⟨g, rfl, hg, hc, _⟩ := own_get h (by omega)
  exact ⟨g, rfl, hg, (hc _ (by omega)).trans (by simp [strs, hj])⟩
/-- A slice literal of strings. -/
theorem strs_lit {k : Env} {w : World} {R : Assn} (l : List ByteArray) (hl : l.length ≤ maxLen) (h : Sat k w R) (g : Nat) (hg : w.heap.size = g) :
    Sat k (w.alloc (.cells (strs l).toArray 9)) (Strs (.slice (some ⟨g, 0, none⟩) l.length l.length) l * R) := by
  subst hg
  exact own_mk (h.alloc _) (Nat.le_refl _) hl (by simp [strs]) (by simp [strs]) (List.take_of_length_le (by simp [strs]))

end Go.Proofs.Ytoeepbjnbgpmpaa
