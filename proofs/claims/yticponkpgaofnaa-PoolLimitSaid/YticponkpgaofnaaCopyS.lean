/- copy within an owned slice: all from a place on move up by one. -/
import Derived.Test.YticponkpgaofnaaOwn2
import Derived.Laws.CopyRow
namespace Go.Proofs.Yticponkpgaofnaa
set_option linter.all false
open Go Go.RowKit

theorem run_copy_cells {P : Program} (w : World) (dT sT ty elem : TypeId) (g o dLen dCap : Nat) (a : Addr) (sLen sCap : Nat) (cur : Array Value) (t : TypeId) (cs : List Value) (n size : Nat)
    (hu : P.underlying dT = some (.slice elem)) (hs : (P.info? elem).map (·.size) = some size)
    (hg : w.heap[g]? = some (.cells cur t (0, 0))) (hn : n = Nat.min sLen dLen) (hcs : cs.length = n * size)
    (hsrc : ∀ j v, cs[j]? = some v → w.cell? (a.add j) = some v) (hfit : o + cs.length ≤ cur.size) (h1 : ∀ v ∈ cs, v.oneCell' = true) :
    (Builtin.copy_ #[dT, sT] ty #[.slice (some ⟨g, o, none⟩) dLen dCap, .slice (some a) sLen sCap]).run P w =
      .ok (goInt n) (w.setRow g (cur.toList.take o ++ cs ++ cur.toList.drop (o + cs.length)).toArray) := by
  have hl := run_loadCells_list (P := P) w a cs hsrc
  have hst := run_storeCells_at P g o t cs 0 cur w hg (by simpa using hfit) h1
  cases hq : P.info? elem with
  | none => simp [hq] at hs
  | some i =>
    have hi : i.size = size := by simpa [hq] using hs
    simp [Builtin.copy_, run_underlying hu, Builtin.lenOf, Builtin.firstCells, sizeOf, typeInfo, hq, hi, ← hn, ← hcs, hl, hst]

/-- What is left when all from the i-th record on have moved up by one, the last one being lost. -/
def shifted {α : Type} (xs : List α) (i size n : Nat) : List α := xs.take ((i + 1) * size) ++ (xs.drop (i * size)).take ((n - (i + 1)) * size)

section
variable {k : Env} {w : World} {e size n : Nat} {xs : List Value} {R : Assn} {P : Program} {t : TypeId} {z : Value} {bytes : Nat}

theorem shift_len (hl : xs.length = n * size) {i : Nat} (hi : i < n) : (shifted xs i size n).length = n * size := by
  obtain ⟨m, rfl⟩ : ∃ m, n = i + 1 + m := ⟨n - (i + 1), by omega⟩
  have e1 : (i + 1 + m) * size = (i + 1) * size + m * size := Nat.add_mul _ _ _
  have e2 : (i + 1) * size = i * size + size := by rw [Nat.add_mul]; omega
  have e3 : i + 1 + m - (i + 1) = m := by omega
  unfold shifted
  rw [List.length_append, List.length_take, List.length_take, List.length_drop, hl, e1, e3]
  omega

theorem run_shift_sat (ty : TypeId) (T : SliceT P t e z size bytes) {g cap : Nat} (h : Sat k w (Own e size (.slice (some ⟨g, 0, none⟩) n cap) n xs * R)) (h1 : ∀ u ∈ xs, u.oneCell' = true) (i : Nat) (hi : i < n) (dc sc : Nat) (dp : Option Addr)
    (hd : i + 1 < n → dp = some ⟨g, (i + 1) * size, none⟩) (hd0 : ∃ o, dp = some ⟨g, o, none⟩ ∧ o ≤ (i + 1) * size) :
    ∃ w', (Builtin.copy_ #[t, t] ty #[.slice dp (n - (i + 1)) dc, .slice (some ⟨g, i * size, none⟩) (n - i) sc]).run P w = .ok (.int .i64 (n - (i + 1) : Nat)) w' ∧ Sat k w' (Own e size (.slice (some ⟨g, 0, none⟩) n cap) n (shifted xs i size n) * R) := by
  rcases own_block h with ⟨h0, _⟩ | ⟨g', cur, hg, hc1, hc2, hc3, hl, ht, hs⟩
  · cases h0
  · simp only [Option.some.injEq, Addr.mk.injEq, and_true] at hg
    subst hg
    have hmul : n * size ≤ cap * size := Nat.mul_le_mul_right _ hc1
    obtain ⟨m, rfl⟩ : ∃ m, n = i + 1 + m := ⟨n - (i + 1), by omega⟩
    have e1 : (i + 1 + m) * size = (i + 1) * size + m * size := Nat.add_mul _ _ _
    have e2 : (i + 1) * size = i * size + size := by rw [Nat.add_mul]; omega
    have e3 : i + 1 + m - (i + 1) = m := by omega
    have e4 : i + 1 + m - i = m + 1 := by omega
    obtain ⟨o, ho, hole⟩ := hd0
    -- the cells that move
    have hcl : ((xs.drop (i * size)).take (m * size)).length = m * size := by
      rw [List.length_take, List.length_drop, hl]; omega
    have hxs : ∀ j, j < (i + 1 + m) * size → cur[j]? = xs[j]? := by
      intro j hj
      rw [← ht, List.getElem?_take, if_pos hj]; simp
    have hsrc : ∀ j v, ((xs.drop (i * size)).take (m * size))[j]? = some v → w.cell? ((⟨g, i * size, none⟩ : Addr).add j) = some v := by
      intro j v hv
      have hj : j < m * size := by have := (List.getElem?_eq_some_iff.1 hv).1; omega
      rw [List.getElem?_take, if_pos hj, List.getElem?_drop] at hv
      rw [Addr.add_lit, hs.cell, hxs _ (by omega), hv]
    have hone : ∀ v ∈ (xs.drop (i * size)).take (m * size), v.oneCell' = true := fun v hv => h1 v (List.mem_of_mem_drop (List.mem_of_mem_take hv))
    have hinfo : (P.info? e).map (·.size) = some size := by
      obtain ⟨inf, h2, _, h3, _⟩ := info_parts T.info
      rw [h2]; simp [h3]
    have hsz : cur.size = cur.toList.length := by simp
    have hr := run_copy_cells (P := P) w t t ty e g o m dc ⟨g, i * size, none⟩ (m + 1) sc cur e _ m size T.und hinfo hs.get (Nat.min_eq_right (Nat.le_succ m)).symm hcl hsrc (by rw [hcl]; exact Nat.le_trans (Nat.add_le_add_right hole _) (by rw [← e1]; exact Nat.le_trans hmul hc3)) hone
    rw [ho, e3, e4]
    refine ⟨_, hr, ?_⟩
    refine own_mk (hs.turn rfl (setRow_heap w g cur _ e _ hs.get) (fun j hj _ => setRow_other w g j _ hj)) hc1 hc2 ?_ (shift_len hl hi) ?_
    · simp only [List.size_toArray, List.length_append, List.length_take, List.length_drop, hcl]
      omega
    · unfold shifted
      rw [e3]
      by_cases hm : m = 0
      · subst hm
        simp only [Nat.zero_mul, List.take_zero, List.append_nil, Nat.add_zero, List.length_nil, List.take_append_drop]
        rw [← ht, List.take_take, Nat.min_eq_left (by omega)]
      · have ho2 := hd (by omega)
        rw [ho] at ho2
        simp only [Option.some.injEq, Addr.mk.injEq, and_true, true_and] at ho2
        subst ho2
        simp only [hcl]
        rw [e1, List.take_append_of_le_length (by simp only [List.length_append, List.length_take, hcl]; omega), List.take_of_length_le (by simp only [List.length_append, List.length_take, hcl]; omega)]
        congr 1
        rw [← ht, List.take_take, Nat.min_eq_left (by omega)]

theorem wpList_shift_sat {ops : Array Oper} {rest : List Oper} {o : Oper} {a : Act} {Q : Exit → Act → World → Prop} (T : SliceT P t e z size bytes) {g cap : Nat}
    (h : Sat k w (Own e size (.slice (some ⟨g, 0, none⟩) n cap) n xs * R)) (h1 : ∀ u ∈ xs, u.oneCell' = true) (i : Nat) (hi : i < n) (dc sc : Nat) (dp : Option Addr) (hd : i + 1 < n → dp = some ⟨g, (i + 1) * size, none⟩) (hd0 : ∃ o, dp = some ⟨g, o, none⟩ ∧ o ≤ (i + 1) * size)
    (d s : Operand) (hgd : o.guard = none) (ho : o.op = .call { callee := .builtin .copy, args := #[d, s], argTypes := #[t, t] })
    (e1 : a.eval d = .slice dp (n - (i + 1)) dc) (e2 : a.eval s = .slice (some ⟨g, i * size, none⟩) (n - i) sc)
    (hK : ∀ w', Sat k w' (Own e size (.slice (some ⟨g, 0, none⟩) n cap) n (shifted xs i size n) * R) → wpList P ops Q rest (a.put o.dst (.int .i64 (n - (i + 1) : Nat))) w') : wpList P ops Q (o :: rest) a w := by
  refine wpList_plain hgd fun K hK' => ?_
  obtain ⟨w', hr, h2⟩ := run_shift_sat o.type T h h1 i hi dc sc dp hd hd0
  unfold Oper.wp execOp
  simp only [ho, resolve, invoke, builtin, Sem.run_bind, Sem.run_pure, Result.andThen_ok, List.map_toArray, List.map_cons, List.map_nil, e1, e2, hr]
  exact hK' _ _ (hK w' h2)

theorem step_shift_sat {ops : Array Oper} {o : Oper} {a : Act} {K : Act → World → Prop} {Q : Exit → Act → World → Prop} {E : Prop} (T : SliceT P t e z size bytes) {g cap : Nat}
    (h : Sat k w (Own e size (.slice (some ⟨g, 0, none⟩) n cap) n xs * R)) (h1 : ∀ u ∈ xs, u.oneCell' = true) (i : Nat) (hi : i < n) (dc sc : Nat) (dp : Option Addr) (hd : i + 1 < n → dp = some ⟨g, (i + 1) * size, none⟩) (hd0 : ∃ o, dp = some ⟨g, o, none⟩ ∧ o ≤ (i + 1) * size)
    (d s : Operand) (hgd : o.guard = none) (ho : o.op = .call { callee := .builtin .copy, args := #[d, s], argTypes := #[t, t] })
    (e1 : a.eval d = .slice dp (n - (i + 1)) dc) (e2 : a.eval s = .slice (some ⟨g, i * size, none⟩) (n - i) sc)
    (hK : ∀ w', Sat k w' (Own e size (.slice (some ⟨g, 0, none⟩) n cap) n (shifted xs i size n) * R) → K (a.put o.dst (.int .i64 (n - (i + 1) : Nat))) w') : if Region.wanted o (yielded ops a.tmps) = true then Oper.wp P o a w K Q else E := by
  have hw : Region.wanted o (yielded ops a.tmps) = true := by simp [Region.wanted, hgd]
  rw [if_pos hw]
  obtain ⟨w', hr, h2⟩ := run_shift_sat o.type T h h1 i hi dc sc dp hd hd0
  unfold Oper.wp execOp
  simp only [ho, resolve, invoke, builtin, Sem.run_bind, Sem.run_pure, Result.andThen_ok, List.map_toArray, List.map_cons, List.map_nil, e1, e2, hr]
  exact hK w' h2
end

/-- One record put in at a place. -/
theorem shifted_put {α : Type} (ys : List α) (z s : α) (i : Nat) (hi : i ≤ ys.length) : (shifted (ys ++ [z]) i 1 (ys.length + 1)).set i s = ys.take i ++ s :: ys.drop i := by
  unfold shifted
  simp only [Nat.mul_one]
  have h1 : ((ys ++ [z]).drop i).take (ys.length + 1 - (i + 1)) = ys.drop i := by
    rw [List.drop_append_of_le_length hi, show ys.length + 1 - (i + 1) = (ys.drop i).length by simp, List.take_left]
  rw [h1]
  have h2 : ((ys ++ [z]).take (i + 1)).length = i + 1 := by rw [List.length_take, List.length_append]; simp; omega
  rw [List.set_append_left _ _ (by omega)]
  have h3 : ((ys ++ [z]).take (i + 1)).set i s = ys.take i ++ [s] := by
    apply List.ext_getElem?
    intro m
    rw [List.getElem?_set]
    by_cases hm : i = m
    · subst hm
      rw [if_pos rfl, if_pos (by omega), List.getElem?_append_right (by rw [List.length_take]; omega), List.length_take, Nat.min_eq_left hi]
      simp
    · rw [if_neg hm]
      by_cases hlt : m < i
      · rw [List.getElem?_take, if_pos (by omega), List.getElem?_append_left (by omega), List.getElem?_append_left (by rw [List.length_take]; omega), List.getElem?_take, if_pos hlt]
      · rw [List.getElem?_eq_none (by omega), List.getElem?_eq_none (by rw [List.length_append, List.length_take, List.length_singleton]; omega)]
  rw [h3, List.append_assoc]; rfl

end Go.Proofs.Yticponkpgaofnaa
