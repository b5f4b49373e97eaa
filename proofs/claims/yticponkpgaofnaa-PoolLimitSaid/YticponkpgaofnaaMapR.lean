/- A range over a map: whichever entry comes next. -/
import Derived.Test.YticponkpgaofnaaMap
import Derived.Maps.RangeRun
import Derived.Maps.RangeWalk
namespace Go.Proofs.Yticponkpgaofnaa
set_option linter.all false
open Go Go.RowKit Go.ChangeMaps

theorem map_erase {α β : Type} (f : α → β) : ∀ (l : List α) (j : Nat), (l.eraseIdx j).map f = (l.map f).eraseIdx j
  | [], _ => rfl
  | _ :: _, 0 => rfl
  | x :: r, j + 1 => by simp only [List.eraseIdx_cons_succ, List.map_cons, map_erase f r j]
theorem filter_erase : ∀ (L : List MapEntry) (j : Nat) (hj : j < L.length), (L.map (·.born)).Nodup → L.filter (fun x => !(x.born == L[j].born)) = L.eraseIdx j
  | [], _, hj, _ => by simp at hj
  | x :: r, 0, _, h => by
    rw [List.map_cons, List.nodup_cons] at h
    simp only [List.getElem_cons_zero, List.eraseIdx_cons_zero]
    rw [List.filter_cons_of_neg (by simp), List.filter_eq_self]
    intro y hy
    have : y.born ≠ x.born := fun e => h.1 (by rw [← e]; exact List.mem_map_of_mem hy)
    simpa using this
  | x :: r, j + 1, hj, h => by
    rw [List.map_cons, List.nodup_cons] at h
    have hj' : j < r.length := by simpa using hj
    simp only [List.getElem_cons_succ, List.eraseIdx_cons_succ]
    rw [List.filter_cons_of_pos, filter_erase r j hj' h.2]
    have : x.born ≠ r[j].born := fun e => h.1 (by rw [e]; exact List.mem_map_of_mem (List.getElem_mem hj'))
    simpa using this

theorem left_push (es : Array MapEntry) (seen : Array Nat) (n : Nat) : (leftOf es (seen.push n)).toList = (leftOf es seen).toList.filter (fun x => !(x.born == n)) := by
  unfold leftOf
  rw [Array.toList_filter, Array.toList_filter, List.filter_filter]
  congr 1
  funext x
  simp only [Array.contains_push, Bool.not_or]
  rw [Bool.and_comm]

section
variable {K : Type} {kv : K → Value} {k : Env} {w : World} {b r : Nat} {l left : List (K × Value)} {R : Assn} {P : Program} {mt kt et : TypeId}

/-- A map that is gone over: what has not come yet. -/
def RangeK (kv : K → Value) (b r : Nat) (l left : List (K × Value)) : Assn :=
  ex fun p : (Array MapEntry × Nat) × (Nat × Array Nat × Nat) =>
    pur ((p.1.1.toList.map (fun e => (e.key, e.val)) = l.map (fun x => (kv x.1, x.2)) ∧ (l.map (·.1)).Nodup ∧ (p.1.1.toList.map (·.born)).Pairwise (· < ·) ∧ ∀ e ∈ p.1.1.toList, e.born < p.1.2)
      ∧ (∀ x ∈ p.1.1.toList, x.born < p.2.1) ∧ p.2.1 ≤ p.2.2.2 ∧ p.2.1 ≤ p.1.2 ∧ (leftOf p.1.1 p.2.2.1).toList.map (fun e => (e.key, e.val)) = left.map (fun x => (kv x.1, x.2)))
    * (blk b (.map p.1.1 p.1.2) * blk r (.mapIter (some b) p.2.1 p.2.2.1 p.2.2.2))

theorem range_open (h : Sat k w (RangeK kv b r l left * R)) : ∃ es c since seen c0,
    (es.toList.map (fun e => (e.key, e.val)) = l.map (fun x => (kv x.1, x.2)) ∧ (l.map (·.1)).Nodup ∧ (es.toList.map (·.born)).Pairwise (· < ·) ∧ ∀ e ∈ es.toList, e.born < c)
      ∧ (∀ x ∈ es.toList, x.born < since) ∧ since ≤ c0 ∧ since ≤ c ∧ (leftOf es seen).toList.map (fun e => (e.key, e.val)) = left.map (fun x => (kv x.1, x.2)) ∧ Sat k w (blk b (.map es c) * (blk r (.mapIter (some b) since seen c0) * R)) := by
  obtain ⟨⟨⟨es, c⟩, since, seen, c0⟩, h⟩ := Sat.ex.1 h
  rw [star_assoc] at h
  obtain ⟨⟨h1, h2, h3, h4, h5⟩, h⟩ := Sat.pure.1 h
  rw [star_assoc] at h
  exact ⟨es, c, since, seen, c0, h1, h2, h3, h4, h5, h⟩
theorem range_close {es : Array MapEntry} {c since : Nat} {seen : Array Nat} {c0 : Nat}
    (h1 : es.toList.map (fun e => (e.key, e.val)) = l.map (fun x => (kv x.1, x.2)) ∧ (l.map (·.1)).Nodup ∧ (es.toList.map (·.born)).Pairwise (· < ·) ∧ ∀ e ∈ es.toList, e.born < c)
    (h2 : ∀ x ∈ es.toList, x.born < since) (h3 : since ≤ c0) (h4 : since ≤ c) (h5 : (leftOf es seen).toList.map (fun e => (e.key, e.val)) = left.map (fun x => (kv x.1, x.2)))
    (h : Sat k w (blk b (.map es c) * (blk r (.mapIter (some b) since seen c0) * R))) : Sat k w (RangeK kv b r l left * R) := by
  refine Sat.ex.2 ⟨⟨⟨es, c⟩, since, seen, c0⟩, ?_⟩
  rw [star_assoc]
  refine Sat.pure.2 ⟨⟨h1, h2, h3, h4, h5⟩, ?_⟩
  rw [star_assoc]
  exact h

/-- The map is as it was. -/
theorem range_map (h : Sat k w (RangeK kv b r l left * R)) : Sat k w (MapK kv b l * R) := by
  obtain ⟨es, c, since, seen, c0, h1, _, _, _, _, h⟩ := range_open h
  refine Sat.ex.2 ⟨⟨es, c⟩, ?_⟩
  rw [star_assoc]
  exact Sat.pure.2 ⟨h1, h.swap.drop⟩

theorem range_start (ht : P.underlying mt = some (.map kt et)) (h : Sat k w (MapK kv b l * R)) :
    ∃ o, (Instr.range mt (.map (some b))).run P w = .ok (.pointer (some ⟨w.heap.size, 0, none⟩)) (w.alloc o) ∧ Sat k (w.alloc o) (RangeK kv b w.heap.size l l * R) := by
  obtain ⟨es, c, h1, h2, h3, h4, hs⟩ := map_open h
  refine ⟨_, run_range_map w mt kt et b es c ht hs.get, range_close (es := es) (c := c) (since := c) (seen := #[]) (c0 := c) ⟨h1, h2, h3, h4⟩ h4 (Nat.le_refl _) (Nat.le_refl _) ?_ (hs.alloc _).swap⟩
  rw [← h1]
  unfold leftOf
  rw [Array.toList_filter, List.filter_eq_self.2 (by intro x _; simp)]

theorem range_next (h : Sat k w (RangeK kv b r l left * R)) (ty : TypeId) :
    (left = [] ∧ (Instr.next (.pointer (some ⟨r, 0, none⟩)) false ty).run P w = .ok (.tuple #[.bool false]) w) ∨
    ∃ (j : Nat) (hj : j < left.length) (w' : World), (Instr.next (.pointer (some ⟨r, 0, none⟩)) false ty).run P w = .ok (.tuple #[.bool true, kv left[j].1, left[j].2]) w' ∧
      Sat k w' (RangeK kv b r l (left.eraseIdx j) * R) ∧ w'.heap.size = w.heap.size ∧ (Instr.entry (.pointer (some ⟨r, 0, none⟩))).run P w' = .ok (.tuple #[kv left[j].1, left[j].2]) w' := by
  obtain ⟨es, c, since, seen, c0, ⟨h1, h2, h3, h4⟩, h5, h6, h7, h8, hs⟩ := range_open h
  have hnd : (es.toList.map (·.born)).Nodup := h3.imp fun h => Nat.ne_of_lt h
  rcases run_next_at (P := P) w ty r b since c0 seen es c hs.swap.get hs.get h5 h6 with ⟨h0, hrun⟩ | ⟨e, he, w1, hw1, hrun⟩
  · refine .inl ⟨?_, hrun⟩
    have : left.length = 0 := by rw [← List.length_map (f := fun x : K × Value => (kv x.1, x.2)), ← h8, List.length_map]; simpa using h0
    exact List.length_eq_zero_iff.1 this
  · obtain ⟨j, hj, rfl⟩ := List.getElem_of_mem he
    have hl : (leftOf es seen).toList.length = left.length := by
      have := congrArg List.length h8
      simpa using this
    have hj' : j < left.length := by omega
    have hkv : ((leftOf es seen).toList[j].key, (leftOf es seen).toList[j].val) = (kv left[j].1, left[j].2) := by
      have h9 : ((leftOf es seen).toList.map (fun e => (e.key, e.val)))[j]'(by simpa using hj) = (left.map (fun x => (kv x.1, x.2)))[j]'(by simpa using hj') := by simp only [h8]
      rw [List.getElem_map, List.getElem_map] at h9
      exact h9
    simp only [Prod.mk.injEq] at hkv
    have hs1 : Sat k w1 (blk r (.mapIter (some b) since seen c0) * (blk b (.map es c) * R)) := by rcases hw1 with rfl | rfl <;> exact hs.swap
    have hsz : w1.heap.size = w.heap.size := by rcases hw1 with rfl | rfl <;> rfl
    have hset := MapKept.heap_set (o' := .mapIter (some b) since (seen.push (leftOf es seen).toList[j].born) c) hs1.get
    have hs2 : Sat k (setBlock w1 r (.mapIter (some b) since (seen.push (leftOf es seen).toList[j].born) c)) (blk r (.mapIter (some b) since (seen.push (leftOf es seen).toList[j].born) c) * (blk b (.map es c) * R)) :=
      hs1.turn rfl hset.1 (fun i hi _ => hset.2 i hi)
    have hent := run_entry_at (P := P) _ r b since seen es c ((leftOf es seen).toList[j]) hs2.get hs2.swap.get (mem_left he).1 hnd
    rw [hkv.1, hkv.2] at hrun hent
    refine .inr ⟨j, hj', _, hrun, range_close ⟨h1, h2, h3, h4⟩ h5 h7 h7 ?_ hs2.swap, ?_, hent⟩
    · rw [left_push, filter_erase _ j hj (by
        refine List.Nodup.sublist (List.Sublist.map _ ?_) hnd
        unfold leftOf
        rw [Array.toList_filter]
        exact List.filter_sublist), map_erase, h8, map_erase]
    · simp [setBlock, hsz]
end

section
variable {K : Type} {kv : K → Value} {k : Env} {w : World} {b r : Nat} {l left : List (K × Value)} {R : Assn} {P : Program} {mt kt et : TypeId} {ops : Array Oper} {rest : List Oper} {o : Oper} {a : Act} {Q : Exit → Act → World → Prop}

theorem wpList_range_sat (hg : o.guard = none) (m : Operand) (hop : o.op = Op.range mt m) (ht : P.underlying mt = some (.map kt et)) (hm : a.eval m = .map (some b)) (h : Sat k w (MapK kv b l * R))
    (hK : ∀ g w', Sat k w' (RangeK kv b g l l * R) → wpList P ops Q rest (a.put o.dst (.pointer (some ⟨g, 0, none⟩))) w') : wpList P ops Q (o :: rest) a w := by
  refine wpList_plain hg fun K' hK' => ?_
  obtain ⟨ob, hrun, h1⟩ := range_start ht h
  unfold Oper.wp
  simp [execOp, hop, hm, hrun, Result.andThen]
  exact hK' _ _ (hK _ _ h1)

theorem wpList_next_sat (hg : o.guard = none) (it : Operand) (hop : o.op = Op.next it false) (hit : a.eval it = .pointer (some ⟨r, 0, none⟩)) (h : Sat k w (RangeK kv b r l left * R))
    (hDone : left = [] → wpList P ops Q rest (a.put o.dst (.tuple #[.bool false])) w)
    (hMore : ∀ (j : Nat) (hj : j < left.length) (w' : World), Sat k w' (RangeK kv b r l (left.eraseIdx j) * R) →
      (Instr.entry (.pointer (some ⟨r, 0, none⟩))).run P w' = .ok (.tuple #[kv left[j].1, left[j].2]) w' → wpList P ops Q rest (a.put o.dst (.tuple #[.bool true, kv left[j].1, left[j].2])) w') :
    wpList P ops Q (o :: rest) a w := by
  refine wpList_plain hg fun K' hK' => ?_
  unfold Oper.wp
  rcases range_next (P := P) h o.type with ⟨h0, hrun⟩ | ⟨j, hj, w', hrun, h1, _, hen⟩
  · simp [execOp, hop, hit, hrun, Result.andThen]
    exact hK' _ _ (hDone h0)
  · simp [execOp, hop, hit, hrun, Result.andThen]
    exact hK' _ _ (hMore j hj w' h1 hen)
end
end Go.Proofs.Yticponkpgaofnaa
