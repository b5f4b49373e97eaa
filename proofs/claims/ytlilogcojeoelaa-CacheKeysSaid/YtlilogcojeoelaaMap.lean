/- Maps that the world holds: looked up, stored into, deleted from, counted, gone over. -/
import Derived.Test.YtlilogcojeoelaaOwn
import Derived.Test.YtlilogcojeoelaaAssoc
import Derived.Maps.Own
import Derived.Maps.OwnOps
import Derived.Maps.OwnSet
import Derived.Laws.StructEq
namespace Go.Proofs.Ytlilogcojeoelaa
set_option linter.all false
open Go Go.RowKit

section
variable {K : Type} [DecidableEq K]

def mloc (a : K) : List (K × Value) → Nat → Option (Nat × Value)
  | [], _ => none
  | x :: r, i => if x.1 = a then some (i, x.2) else mloc a r (i + 1)

theorem mloc_none {a : K} {v : Value} {l : List (K × Value)} {i : Nat} (h : mloc a l i = none) : mget a l = none ∧ mput a v l = l ++ [(a, v)] ∧ mdel a l = l := by
  induction l generalizing i with
  | nil => simp [mget, mput, mdel]
  | cons x r ih =>
    rw [mloc] at h
    by_cases hx : x.1 = a
    · rw [if_pos hx] at h; cases h
    · rw [if_neg hx] at h
      obtain ⟨h1, h2, h3⟩ := ih h
      exact ⟨by rw [mget, if_neg hx, h1], by rw [mput, if_neg hx, h2]; rfl, by rw [mdel, if_neg hx, h3]⟩

theorem mloc_some {a : K} {v : Value} {l : List (K × Value)} {i j : Nat} {u : Value} (h : mloc a l i = some (j, u)) :
    i ≤ j ∧ mget a l = some u ∧ (∃ y, l[j - i]? = some y ∧ y.1 = a) ∧ mput a v l = l.set (j - i) (a, v) ∧ mdel a l = l.eraseIdx (j - i) := by
  induction l generalizing i with
  | nil => simp [mloc] at h
  | cons x r ih =>
    rw [mloc] at h
    by_cases hx : x.1 = a
    · rw [if_pos hx] at h
      simp only [Option.some.injEq, Prod.mk.injEq] at h
      obtain ⟨rfl, rfl⟩ := h
      simp [mget, mput, mdel, hx]
    · rw [if_neg hx] at h
      obtain ⟨h1, h2, ⟨y, h3, h3'⟩, h4, h5⟩ := ih h
      have e : j - i = (j - (i + 1)) + 1 := by omega
      refine ⟨by omega, by rw [mget, if_neg hx, h2], ⟨y, by rw [e]; simpa using h3, h3'⟩, ?_, ?_⟩
      · rw [mput, if_neg hx, h4, e]; rfl
      · rw [mdel, if_neg hx, h5, e]; rfl
end

theorem bytes_beq (a b : ByteArray) : (a == b) = decide (a = b) := by
  have h : (a == b) = (a.data == b.data) := rfl
  rw [h]
  by_cases e : a = b
  · subst e; simp
  · have : a.data ≠ b.data := fun h => e (by cases a; cases b; simp_all)
    simp [this, e]

theorem tl_beq (a b : ByteArray) : (a.toList == b.toList) = decide (a = b) := by rw [← beq_toListBytes, bytes_beq]

/-- A map's key type, at keys of a Lean type. -/
structure KeyT (P : Program) (t : TypeId) {K : Type} [DecidableEq K] (kv : K → Value) : Prop where
  check : ∀ (b : Bool) (a : K) (w : World), (Instr.checkKey b 10000 t (kv a)).run P w = .ok () w
  find : ∀ (a : K) (es : List MapEntry) (l : List (K × Value)) (w : World), es.map (fun e => (e.key, e.val)) = l.map (fun x => (kv x.1, x.2)) → (Instr.findKey t (kv a) es).run P w = .ok (mloc a l 0) w
  bits : ∀ a : K, Instr.sameBits 10000 (kv a) (kv a) = true

theorem findNow_at {K : Type} [DecidableEq K] {kd : TypeDesc} {kv : K → Value} (hs : ∀ a b : K, Instr.sameNow kd (kv a) (kv b) = some (decide (a = b))) (a : K) (es : List MapEntry) (l : List (K × Value)) (i : Nat)
    (h : es.map (fun e => (e.key, e.val)) = l.map (fun x => (kv x.1, x.2))) : Instr.findNow kd (kv a) es i = some (mloc a l i) := by
  induction es generalizing l i with
  | nil =>
    cases l with
    | nil => rfl
    | cons x r => simp at h
  | cons e es ih =>
    cases l with
    | nil => simp at h
    | cons x r =>
      simp only [List.map_cons, List.cons.injEq, Prod.mk.injEq] at h
      obtain ⟨⟨h1, h2⟩, h3⟩ := h
      rw [Instr.findNow, h1, hs]
      by_cases hx : x.1 = a
      · subst hx
        simp [mloc, h2]
      · have hx' : ¬ a = x.1 := fun e => hx e.symm
        simp only [hx', decide_false]
        rw [mloc, if_neg hx]
        exact ih r (i + 1) h3

theorem keyT_int {P : Program} {t : TypeId} {k : IntKind} (ht : P.underlying t = some (.int k)) : KeyT P t (Value.int k) where
  check b a w := by
    show (Instr.checkKey b (9999 + 1) t _).run P w = _
    rw [Instr.checkKey]
    simp [run_underlying ht]
  find a es l w h := by
    unfold Instr.findKey
    simp only [Sem.run_bind, run_underlying ht, Result.andThen_ok]
    rw [findNow_at (kv := Value.int k) (fun a b => by by_cases h : a = b <;> simp [Instr.sameNow, h]) a es l 0 h]
    rfl
  bits a := by simp [Instr.sameBits]

theorem keyT_string {P : Program} {t : TypeId} (ht : P.underlying t = some .string) : KeyT P t Value.string where
  check b a w := by
    show (Instr.checkKey b (9999 + 1) t _).run P w = _
    rw [Instr.checkKey]
    simp [run_underlying ht]
  find a es l w h := by
    unfold Instr.findKey
    simp only [Sem.run_bind, run_underlying ht, Result.andThen_ok]
    rw [findNow_at (kv := Value.string) (fun a b => by simp [Instr.sameNow, bytes_beq]) a es l 0 h]
    rfl
  bits a := by simp [Instr.sameBits, bytes_beq]

/-- A map that the world holds: its entries, in the order in which they came. -/
def MapK {K : Type} (kv : K → Value) (b : Nat) (l : List (K × Value)) : Assn :=
  ex fun p : Array MapEntry × Nat => pur (p.1.toList.map (fun e => (e.key, e.val)) = l.map (fun x => (kv x.1, x.2)) ∧ (l.map (·.1)).Nodup ∧ (p.1.toList.map (·.born)).Pairwise (· < ·) ∧ ∀ e ∈ p.1.toList, e.born < p.2) * blk b (.map p.1 p.2)

section
variable {K : Type} [DecidableEq K] {kv : K → Value} {k : Env} {w : World} {b : Nat} {l : List (K × Value)} {R : Assn} {P : Program} {mt kt et : TypeId}

omit [DecidableEq K] in
theorem map_open (h : Sat k w (MapK kv b l * R)) : ∃ es c, es.toList.map (fun e => (e.key, e.val)) = l.map (fun x => (kv x.1, x.2)) ∧ (l.map (·.1)).Nodup ∧ (es.toList.map (·.born)).Pairwise (· < ·) ∧ (∀ e ∈ es.toList, e.born < c) ∧ Sat k w (blk b (.map es c) * R) := by
  obtain ⟨⟨es, c⟩, h⟩ := Sat.ex.1 h
  rw [star_assoc] at h
  obtain ⟨⟨h1, h2, h3, h4⟩, h⟩ := Sat.pure.1 h
  exact ⟨es, c, h1, h2, h3, h4, h⟩
omit [DecidableEq K] in
theorem map_close {es : Array MapEntry} {c : Nat} (h : Sat k w (blk b (.map es c) * R)) (h1 : es.toList.map (fun e => (e.key, e.val)) = l.map (fun x => (kv x.1, x.2))) (h2 : (l.map (·.1)).Nodup) (h3 : (es.toList.map (·.born)).Pairwise (· < ·)) (h4 : ∀ e ∈ es.toList, e.born < c) :
    Sat k w (MapK kv b l * R) :=
  Sat.ex.2 ⟨(es, c), by rw [star_assoc]; exact Sat.pure.2 ⟨⟨h1, h2, h3, h4⟩, h⟩⟩

omit [DecidableEq K] in
theorem map_nodup (h : Sat k w (MapK kv b l * R)) : (l.map (·.1)).Nodup := by
  obtain ⟨_, _, _, h, _⟩ := map_open h
  exact h

omit [DecidableEq K] in
theorem map_made (h : Sat k w R) : Sat k (w.alloc (.map #[] 0)) (MapK kv w.heap.size ([] : List (K × Value)) * R) :=
  map_close (h.alloc _) rfl (by simp) (by simp) (by simp)

theorem run_lookup_sat (T : KeyT P kt kv) (hm : P.underlying mt = some (.map kt et)) {z : Value} (hz : ∀ w, (zeroValue et).run P w = .ok z w) (h : Sat k w (MapK kv b l * R)) (a : K) :
    (Instr.lookup mt (.map (some b)) (kv a) false).run P w = .ok ((mget a l).getD z) w := by
  obtain ⟨es, c, h1, _, _, _, hs⟩ := map_open h
  have hg := hs.get
  unfold Instr.lookup
  simp only [Sem.run_bind, run_underlying hm, Result.andThen_ok]
  simp [getObj, Sem.run, hg, T.check, T.find a _ _ _ h1]
  cases hq : mloc a l 0 with
  | none => simp [(mloc_none (v := .bool false) hq).1, hz]
  | some y => obtain ⟨j, u⟩ := y; simp [(mloc_some (v := .bool false) hq).2.1]

theorem run_lookup_ok_sat (T : KeyT P kt kv) (hm : P.underlying mt = some (.map kt et)) {z : Value} (hz : ∀ w, (zeroValue et).run P w = .ok z w) (h : Sat k w (MapK kv b l * R)) (a : K) :
    (Instr.lookup mt (.map (some b)) (kv a) true).run P w = .ok (.tuple #[(mget a l).getD z, .bool (mget a l).isSome]) w := by
  obtain ⟨es, c, h1, _, _, _, hs⟩ := map_open h
  have hg := hs.get
  unfold Instr.lookup
  simp only [Sem.run_bind, run_underlying hm, Result.andThen_ok]
  simp [getObj, Sem.run, hg, T.check, T.find a _ _ _ h1]
  cases hq : mloc a l 0 with
  | none => simp [(mloc_none (v := .bool false) hq).1, hz]
  | some y => obtain ⟨j, u⟩ := y; simp [(mloc_some (v := .bool false) hq).2.1]


theorem run_lookup_nil (T : KeyT P kt kv) (hm : P.underlying mt = some (.map kt et)) {z : Value} (hz : ∀ w, (zeroValue et).run P w = .ok z w) (a : K) (w : World) :
    (Instr.lookup mt (.map none) (kv a) false).run P w = .ok z w := by
  unfold Instr.lookup
  simp only [Sem.run_bind, run_underlying hm, Result.andThen_ok]
  simp [T.check, T.find a [] [] _ rfl, mloc, hz]
theorem run_lookup_ok_nil (T : KeyT P kt kv) (hm : P.underlying mt = some (.map kt et)) {z : Value} (hz : ∀ w, (zeroValue et).run P w = .ok z w) (a : K) (w : World) :
    (Instr.lookup mt (.map none) (kv a) true).run P w = .ok (.tuple #[z, .bool false]) w := by
  unfold Instr.lookup
  simp only [Sem.run_bind, run_underlying hm, Result.andThen_ok]
  simp [T.check, T.find a [] [] _ rfl, mloc, hz]

omit [DecidableEq K] in
theorem run_len_map (ty : TypeId) (hm : P.underlying mt = some (.map kt et)) (h : Sat k w (MapK kv b l * R)) : (Builtin.len_ #[mt] ty #[.map (some b)]).run P w = .ok (.int .i64 l.length) w := by
  obtain ⟨es, c, h1, _, _, _, hs⟩ := map_open h
  have hg := hs.get
  have hl : es.size = l.length := by have := congrArg List.length h1; simpa using this
  unfold Builtin.len_
  simp only [Sem.run_bind, run_underlying hm, Result.andThen_ok, List.getElem?_toArray, List.getElem?_cons_zero]
  simp [getObj, Sem.run, hg, goInt, hl]

theorem run_update_sat (T : KeyT P kt kv) (hm : P.underlying mt = some (.map kt et)) (h : Sat k w (MapK kv b l * R)) (a : K) (v : Value) :
    ∃ w', (Instr.mapUpdate mt (.map (some b)) (kv a) v).run P w = .ok () w' ∧ Sat k w' (MapK kv b (mput a v l) * R) := by
  obtain ⟨es, c, h1, h2, h3, h4, hs⟩ := map_open h
  have hg := hs.get
  have hlen : es.size = l.length := by have := congrArg List.length h1; simpa using this
  unfold Instr.mapUpdate
  simp only [Sem.run_bind, run_underlying hm, Result.andThen_ok]
  simp [getObj, Sem.run, hg, T.check, T.find a _ _ _ h1]
  cases hq : mloc a l 0 with
  | none =>
    obtain ⟨_, e2, _⟩ := mloc_none (v := v) hq
    simp [setObj, Sem.run, hg]
    refine map_close hs.setObj ?_ (mput_nodup _ _ _ h2) ?_ ?_
    · rw [e2]; simp [h1]
    · simp only [Array.toList_push, List.map_append, List.pairwise_append]
      refine ⟨h3, by simp, fun x hx y hy => ?_⟩
      obtain ⟨e, he, rfl⟩ := List.mem_map.1 hx
      simp at hy
      subst hy
      exact h4 e he
    · intro e he
      simp only [Array.toList_push, List.mem_append, List.mem_singleton] at he
      rcases he with he | rfl
      · exact Nat.lt_succ_of_lt (h4 e he)
      · exact Nat.lt_succ_self c
  | some y =>
    obtain ⟨j, u⟩ := y
    obtain ⟨_, _, ⟨y, hy, hya⟩, e2, _⟩ := mloc_some (v := v) hq
    simp only [Nat.sub_zero] at hy e2
    have hj : j < l.length := (List.getElem?_eq_some_iff.1 hy).1
    have hje : j < es.size := by omega
    have hkey : es[j].key = kv a := by
      have h5 : (es.toList.map (fun e => (e.key, e.val)))[j]? = (l.map (fun x => (kv x.1, x.2)))[j]? := by rw [h1]
      rw [List.getElem?_map, List.getElem?_map, hy] at h5
      simp [hje] at h5
      rw [h5.1, hya]
    have hks : Instr.keyThatStays (kv a) (kv a) = pure (kv a) := by unfold Instr.keyThatStays; rw [if_pos (T.bits a)]
    simp [hje, hkey, hks, setObj, Sem.run, hg]
    have hb : (es.modify j fun e => { e with key := kv a, val := v }).toList.map (·.born) = es.toList.map (·.born) := by
      apply List.ext_getElem?
      intro n
      simp only [List.getElem?_map, Array.getElem?_toList, Array.getElem?_modify]
      split
      · cases es[n]? <;> rfl
      · rfl
    refine map_close hs.setObj ?_ (mput_nodup _ _ _ h2) ?_ ?_
    · rw [e2]
      apply List.ext_getElem?
      intro n
      have h5 : (es.toList.map (fun e => (e.key, e.val)))[n]? = (l.map (fun x => (kv x.1, x.2)))[n]? := by rw [h1]
      simp only [List.getElem?_map, Array.getElem?_toList] at h5
      simp only [List.getElem?_map, Array.getElem?_toList, Array.getElem?_modify, List.getElem?_set]
      by_cases hn : j = n
      · subst hn
        simp [hje, hj]
      · simp [hn, h5]
    · rw [hb]; exact h3
    · intro e he
      have : e.born ∈ (es.modify j fun e => { e with key := kv a, val := v }).toList.map (·.born) := List.mem_map_of_mem he
      rw [hb] at this
      obtain ⟨e', he', hq'⟩ := List.mem_map.1 this
      rw [← hq']
      exact h4 e' he'

theorem run_delete_sat (T : KeyT P kt kv) (hm : P.underlying mt = some (.map kt et)) (h : Sat k w (MapK kv b l * R)) (a : K) (ty : TypeId) :
    ∃ w', (Builtin.delete_ #[mt, kt] ty #[.map (some b), kv a]).run P w = .ok (.tuple #[]) w' ∧ Sat k w' (MapK kv b (mdel a l) * R) := by
  obtain ⟨es, c, h1, h2, h3, h4, hs⟩ := map_open h
  have hg := hs.get
  have hlen : es.size = l.length := by have := congrArg List.length h1; simpa using this
  unfold Builtin.delete_
  simp only [Sem.run_bind, run_underlying hm, Result.andThen_ok, List.getElem?_toArray, List.getElem?_cons_zero, List.getElem?_cons_succ]
  simp [getObj, Sem.run, hg, T.check, T.find a _ _ _ h1]
  cases hq : mloc a l 0 with
  | none =>
    obtain ⟨_, _, e3⟩ := mloc_none (v := .bool false) hq
    simp [setObj, Sem.run, hg]
    rw [e3]
    exact map_close hs.setObj h1 h2 h3 h4
  | some y =>
    obtain ⟨j, u⟩ := y
    obtain ⟨_, _, ⟨y, hy, hya⟩, _, e3⟩ := mloc_some (v := .bool false) hq
    simp only [Nat.sub_zero] at hy e3
    have hj : j < l.length := (List.getElem?_eq_some_iff.1 hy).1
    have hje : j < es.size := by omega
    simp [setObj, Sem.run, hg, hje]
    have ht : (es.eraseIdxIfInBounds j).toList = es.toList.eraseIdx j := by
      simp [Array.eraseIdxIfInBounds, hje]
    refine map_close hs.setObj ?_ (mdel_nodup _ _ h2) ?_ ?_
    · rw [ht, e3, map_eraseIdx', map_eraseIdx', h1]
    · rw [ht, map_eraseIdx']
      exact h3.sublist (List.eraseIdx_sublist _ _)
    · intro e he
      rw [ht] at he
      exact h4 e (List.mem_of_mem_eraseIdx he)

section
variable {ops : Array Oper} {rest : List Oper} {o : Oper} {act : Act} {Q : Exit → Act → World → Prop}
theorem wpList_update_sat (T : KeyT P kt kv) (hm : P.underlying mt = some (.map kt et)) (h : Sat k w (MapK kv b l * R)) (a : K) (v : Value) (m x y : Operand) (hgd : o.guard = none) (ho : o.op = Op.mapUpdate mt m x y)
    (e1 : act.eval m = .map (some b)) (e2 : act.eval x = kv a) (e3 : act.eval y = v)
    (hK : ∀ w', Sat k w' (MapK kv b (mput a v l) * R) → wpList P ops Q rest (act.put o.dst undef) w') : wpList P ops Q (o :: rest) act w := by
  refine wpList_plain hgd fun K' hK' => ?_
  obtain ⟨w', hr, h2⟩ := run_update_sat T hm h a v
  unfold Oper.wp
  simp [execOp, ho, e1, e2, e3, hr, Result.andThen]
  exact hK' _ _ (hK w' h2)

theorem wpList_delete_sat (T : KeyT P kt kv) (hm : P.underlying mt = some (.map kt et)) (h : Sat k w (MapK kv b l * R)) (a : K) (m x : Operand) (hgd : o.guard = none) (ho : o.op = Op.call { callee := Callee.builtin Builtin.delete, args := #[m, x], argTypes := #[mt, kt] })
    (e1 : act.eval m = .map (some b)) (e2 : act.eval x = kv a)
    (hK : ∀ w', Sat k w' (MapK kv b (mdel a l) * R) → wpList P ops Q rest (act.put o.dst (.tuple #[])) w') : wpList P ops Q (o :: rest) act w := by
  refine wpList_plain hgd fun K' hK' => ?_
  obtain ⟨w', hr, h2⟩ := run_delete_sat T hm h a o.type
  unfold Oper.wp
  simp [execOp, ho, resolve, invoke, builtin, e1, e2, hr, Result.andThen]
  exact hK' _ _ (hK w' h2)
theorem step_delete_sat {K' : Act → World → Prop} {E : Prop} (T : KeyT P kt kv) (hm : P.underlying mt = some (.map kt et)) (h : Sat k w (MapK kv b l * R)) (a : K) (m x : Operand) (hgd : o.guard = none) (ho : o.op = Op.call { callee := Callee.builtin Builtin.delete, args := #[m, x], argTypes := #[mt, kt] })
    (e1 : act.eval m = .map (some b)) (e2 : act.eval x = kv a)
    (hK : ∀ w', Sat k w' (MapK kv b (mdel a l) * R) → K' (act.put o.dst (.tuple #[])) w') : if Region.wanted o (yielded ops act.tmps) = true then Oper.wp P o act w K' Q else E := by
  have hw : Region.wanted o (yielded ops act.tmps) = true := by simp [Region.wanted, hgd]
  rw [if_pos hw]
  obtain ⟨w', hr, h2⟩ := run_delete_sat T hm h a o.type
  unfold Oper.wp
  simp [execOp, ho, resolve, invoke, builtin, e1, e2, hr, Result.andThen]
  exact hK w' h2
end

end

end Go.Proofs.Ytlilogcojeoelaa
