/- Several texts in one: CopyS, StP, StQ, StR. -/
import Derived.Test.YtoeepbjnbgpmpaaMA
import Derived.Laws.CopyRow
import Derived.Test.YtoeepbjnbgpmpaaSC
namespace Go.Proofs.Ytoeepbjnbgpmpaa
set_option linter.all false
open Go Go.RowKit

theorem run_copy_cells {P : Program} (w : World) (dT sT ty elem : TypeId) (g o dLen dCap : Nat) (a : Addr) (sLen sCap : Nat) (cur : Array Value) (t : TypeId) (cs : List Value) (n size : Nat)
    (hu : P.underlying dT = some (.slice elem)) (hs : (P.info? elem).map (·.size) = some size)
    (hg : w.heap[g]? = some (.cells cur t (0, 0))) (hn : n = Nat.min sLen dLen) (hcs : cs.length = n * size)
    (hsrc : ∀ j v, cs[j]? = some v → w.cell? (a.add j) = some v) (hfit : o + cs.length ≤ cur.size) (h1 : ∀ v ∈ cs, v.oneCell' = true) :
    (Builtin.copy_ #[dT, sT] ty #[.slice (some ⟨g, o, none⟩) dLen dCap, .slice (some a) sLen sCap]).run P w =
      .ok (goInt n) (w.setRow g (cur.toList.take o ++ cs ++ cur.toList.drop (o + cs.length)).toArray) := by
  have hl := run_loadCells_list (P := P) w a cs hsrc
  have hst := run_storeCells_at P g o t cs 0 cur w hg (by simpa using hfit) h1
  cases hq : P.info? elem with
  | none => simp [hq] at hs
  | some i =>
    have hi : i.size = size := by simpa [hq] using hs
    simp [Builtin.copy_, run_underlying hu, Builtin.lenOf, Builtin.firstCells, sizeOf, typeInfo, hq, hi, ← hn, ← hcs, hl, hst]

/-- What is left when all from the i-th record on have moved up by one, the last one being lost. -/
def shifted {α : Type} (xs : List α) (i size n : Nat) : List α := xs.take ((i + 1) * size) ++ (xs.drop (i * size)).take ((n - (i + 1)) * size)

section
variable {k : Env} {w : World} {e size n : Nat} {xs : List Value} {R : Assn} {P : Program} {t : TypeId} {z : Value} {bytes : Nat}

theorem shift_len (hl : xs.length = n * size) {i : Nat} (hi : i < n) : (shifted xs i size n).length = n * size := by
  obtain ⟨m, rfl⟩ : ∃ m, n = i + 1 + m := ⟨n - (i + 1), by omega⟩
  have e1 : (i + 1 + m) * size = (i + 1) * size + m * size := Nat.add_mul _ _ _
  have e2 : (i + 1) * size = i * size + size := by rw [Nat.add_mul]; omega
  have e3 : i + 1 + m - (i + 1) = m := by omega
  unfold shifted
  rw [List.length_append, List.length_take, List.length_take, List.length_drop, hl, e1, e3]
  omega

theorem run_shift_sat (ty : TypeId) (T : SliceT P t e z size bytes) {g cap : Nat} (h : Sat k w (Own e size (.slice (some ⟨g, 0, none⟩) n cap) n xs * R)) (h1 : ∀ u ∈ xs, u.oneCell' = true) (i : Nat) (hi : i < n) (dc sc : Nat) (dp : Option Addr)
    (hd : i + 1 < n → dp = some ⟨g, (i + 1) * size, none⟩) (hd0 : ∃ o, dp = some ⟨g, o, none⟩ ∧ o ≤ (i + 1) * size) :
    ∃ w', (Builtin.copy_ #[t, t] ty #[.slice dp (n - (i + 1)) dc, .slice (some ⟨g, i * size, none⟩) (n - i) sc]).run P w = .ok (.int .i64 (n - (i + 1) : Nat)) w' ∧ Sat k w' (Own e size (.slice (some ⟨g, 0, none⟩) n cap) n (shifted xs i size n) * R) := by
  rcases own_block h with ⟨h0, _⟩ | ⟨g', cur, hg, hc1, hc2, hc3, hl, ht, hs⟩
  · cases h0
  · simp only [Option.some.injEq, Addr.mk.injEq, and_true] at hg
    subst hg
    have hmul : n * size ≤ cap * size := Nat.mul_le_mul_right _ hc1
    obtain ⟨m, rfl⟩ : ∃ m, n = i + 1 + m := ⟨n - (i + 1), by omega⟩
    have e1 : (i + 1 + m) * size = (i + 1) * size + m * size := Nat.add_mul _ _ _
    have e2 : (i + 1) * size = i * size + size := by rw [Nat.add_mul]; omega
    have e3 : i + 1 + m - (i + 1) = m := by omega
    have e4 : i + 1 + m - i = m + 1 := by omega
    obtain ⟨o, ho, hole⟩ := hd0
    -- the cells that move
    have hcl : ((xs.drop (i * size)).take (m * size)).length = m * size := by
      rw [List.length_take, List.length_drop, hl]; omega
    have hxs : ∀ j, j < (i + 1 + m) * size → cur[j]? = xs[j]? := by
      intro j hj
      rw [← ht, List.getElem?_take, if_pos hj]; simp
    have hsrc : ∀ j v, ((xs.drop (i * size)).take (m * size))[j]? = some v → w.cell? ((⟨g, i * size, none⟩ : Addr).add j) = some v := by
      intro j v hv
      have hj : j < m * size := by have := (List.getElem?_eq_some_iff.1 hv).1; omega
      rw [List.getElem?_take, if_pos hj, List.getElem?_drop] at hv
      rw [Addr.add_lit, hs.cell, hxs _ (by omega), hv]
    have hone : ∀ v ∈ (xs.drop (i * size)).take (m * size), v.oneCell' = true := fun v hv => h1 v (List.mem_of_mem_drop (List.mem_of_mem_take hv))
    have hinfo : (P.info? e).map (·.size) = some size := by
      obtain ⟨inf, h2, _, h3, _⟩ := info_parts T.info
      rw [h2]; simp [h3]
    have hsz : cur.size = cur.toList.length := by simp
    have hr := run_copy_cells (P := P) w t t ty e g o m dc ⟨g, i * size, none⟩ (m + 1) sc cur e _ m size T.und hinfo hs.get (Nat.min_eq_right (Nat.le_succ m)).symm hcl hsrc (by rw [hcl]; exact Nat.le_trans (Nat.add_le_add_right hole _) (by rw [← e1]; exact Nat.le_trans hmul hc3)) hone
    rw [ho, e3, e4]
    refine ⟨_, hr, ?_⟩
    refine own_mk (hs.turn rfl (setRow_heap w g cur _ e _ hs.get) (fun j hj _ => setRow_other w g j _ hj)) hc1 hc2 ?_ (shift_len hl hi) ?_
    · simp only [List.size_toArray, List.length_append, List.length_take, List.length_drop, hcl]
      omega
    · unfold shifted
      rw [e3]
      by_cases hm : m = 0
      · subst hm
        simp only [Nat.zero_mul, List.take_zero, List.append_nil, Nat.add_zero, List.length_nil, List.take_append_drop]
        rw [← ht, List.take_take, Nat.min_eq_left (by omega)]
      · have ho2 := hd (by omega)
        rw [ho] at ho2
        simp only [Option.some.injEq, Addr.mk.injEq, and_true, true_and] at ho2
        subst ho2
        simp only [hcl]
        rw [e1, List.take_append_of_le_length (by simp only [List.length_append, List.length_take, hcl]; omega), List.take_of_length_le (by simp only [List.length_append, List.length_take, hcl]; omega)]
        congr 1
        rw [← ht, List.take_take, Nat.min_eq_left (by omega)]

theorem wpList_shift_sat {ops : Array Oper} {rest : List Oper} {o : Oper} {a : Act} {Q : Exit → Act → World → Prop} (T : SliceT P t e z size bytes) {g cap : Nat}
    (h : Sat k w (Own e size (.slice (some ⟨g, 0, none⟩) n cap) n xs * R)) (h1 : ∀ u ∈ xs, u.oneCell' = true) (i : Nat) (hi : i < n) (dc sc : Nat) (dp : Option Addr) (hd : i + 1 < n → dp = some ⟨g, (i + 1) * size, none⟩) (hd0 : ∃ o, dp = some ⟨g, o, none⟩ ∧ o ≤ (i + 1) * size)
    (d s : Operand) (hgd : o.guard = none) (ho : o.op = .call { callee := .builtin .copy, args := #[d, s], argTypes := #[t, t] })
    (e1 : a.eval d = .slice dp (n - (i + 1)) dc) (e2 : a.eval s = .slice (some ⟨g, i * size, none⟩) (n - i) sc)
    (hK : ∀ w', Sat k w' (Own e size (.slice (some ⟨g, 0, none⟩) n cap) n (shifted xs i size n) * R) → wpList P ops Q rest (a.put o.dst (.int .i64 (n - (i + 1) : Nat))) w') : wpList P ops Q (o :: rest) a w := by
  refine wpList_plain hgd fun K hK' => ?_
  obtain ⟨w', hr, h2⟩ := run_shift_sat o.type T h h1 i hi dc sc dp hd hd0
  unfold Oper.wp execOp
  simp only [ho, resolve, invoke, builtin, Sem.run_bind, Sem.run_pure, Result.andThen_ok, List.map_toArray, List.map_cons, List.map_nil, e1, e2, hr]
  exact hK' _ _ (hK w' h2)

theorem step_shift_sat {ops : Array Oper} {o : Oper} {a : Act} {K : Act → World → Prop} {Q : Exit → Act → World → Prop} {E : Prop} (T : SliceT P t e z size bytes) {g cap : Nat}
    (h : Sat k w (Own e size (.slice (some ⟨g, 0, none⟩) n cap) n xs * R)) (h1 : ∀ u ∈ xs, u.oneCell' = true) (i : Nat) (hi : i < n) (dc sc : Nat) (dp : Option Addr) (hd : i + 1 < n → dp = some ⟨g, (i + 1) * size, none⟩) (hd0 : ∃ o, dp = some ⟨g, o, none⟩ ∧ o ≤ (i + 1) * size)
    (d s : Operand) (hgd : o.guard = none) (ho : o.op = .call { callee := .builtin .copy, args := #[d, s], argTypes := #[t, t] })
    (e1 : a.eval d = .slice dp (n - (i + 1)) dc) (e2 : a.eval s = .slice (some ⟨g, i * size, none⟩) (n - i) sc)
    (hK : ∀ w', Sat k w' (Own e size (.slice (some ⟨g, 0, none⟩) n cap) n (shifted xs i size n) * R) → K (a.put o.dst (.int .i64 (n - (i + 1) : Nat))) w') : if Region.wanted o (yielded ops a.tmps) = true then Oper.wp P o a w K Q else E := by
  have hw : Region.wanted o (yielded ops a.tmps) = true := by simp [Region.wanted, hgd]
  rw [if_pos hw]
  obtain ⟨w', hr, h2⟩ := run_shift_sat o.type T h h1 i hi dc sc dp hd hd0
  unfold Oper.wp execOp
  simp only [ho, resolve, invoke, builtin, Sem.run_bind, Sem.run_pure, Result.andThen_ok, List.map_toArray, List.map_cons, List.map_nil, e1, e2, hr]
  exact hK w' h2
end

/-- One record put in at a place. -/
theorem shifted_put {α : Type} (ys : List α) (z s : α) (i : Nat) (hi : i ≤ ys.length) : (shifted (ys ++ [z]) i 1 (ys.length + 1)).set i s = ys.take i ++ s :: ys.drop i := by
  unfold shifted
  simp only [Nat.mul_one]
  have h1 : ((ys ++ [z]).drop i).take (ys.length + 1 - (i + 1)) = ys.drop i := by
    rw [List.drop_append_of_le_length hi, show ys.length + 1 - (i + 1) = (ys.drop i).length by simp, List.take_left]
  rw [h1]
  have h2 : ((ys ++ [z]).take (i + 1)).length = i + 1 := by rw [List.length_take, List.length_append]; simp; omega
  rw [List.set_append_left _ _ (by omega)]
  have h3 : ((ys ++ [z]).take (i + 1)).set i s = ys.take i ++ [s] := by
    apply List.ext_getElem?
    intro m
    rw [List.getElem?_set]
    by_cases hm : i = m
    · subst hm
      rw [if_pos rfl, if_pos (by omega), List.getElem?_append_right (by rw [List.length_take]; omega), List.length_take, Nat.min_eq_left hi]
      simp
    · rw [if_neg hm]
      by_cases hlt : m < i
      · rw [List.getElem?_take, if_pos (by omega), List.getElem?_append_left (by omega), List.getElem?_append_left (by rw [List.length_take]; omega), List.getElem?_take, if_pos hlt]
      · rw [List.getElem?_eq_none (by omega), List.getElem?_eq_none (by rw [List.length_append, List.length_take, List.length_singleton]; omega)]
  rw [h3, List.append_assoc]; rfl

end Go.Proofs.Ytoeepbjnbgpmpaa

namespace Go.Proofs.Ytoeepbjnbgpmpaa
set_option linter.all false
open Go Go.RowKit

/-- What add does to a table's rows. -/
def addR (kk : Int) (l : List Rw2) : List Rw2 × Int :=
  if placeB l kk = true then (match l[placeN l kk]? with | some y => if 999999 ≤ y.2 then (l, 2) else (l.set (placeN l kk) (y.1, y.2 + 1), 0) | none => (l, 0)) else (l, 0)
/-- One table of an owned state, ahead of the others. -/
theorem sto_split {P : List TbM} {i : Nat} (hi : i < P.length) : ∃ F, stars tbR P = tbR P[i] * F ∧ ∀ q : TbM, stars tbR (P.set i q) = tbR q * F := by
  have hsp : P = P.take i ++ P[i] :: P.drop (i + 1) := by rw [List.getElem_cons_drop, List.take_append_drop]
  refine ⟨stars tbR (P.take i ++ P.drop (i + 1)), ?_, fun q => ?_⟩
  · rw [← stars_mid, ← hsp]
  · rw [← stars_mid]
    congr 1
    rw [List.set_eq_take_append_cons_drop, if_pos hi]

set_option maxRecDepth 100000 in
set_option maxHeartbeats 8000000 in
theorem sadd_no (k : Env) (w : World) (R : Assn) (g d : Nat) (P : List TbM) (i : Nat) (x : CmdM) (hi : i < P.length) (hl : P[i].rows.length ≤ 1000000) (hno : placeB P[i].rows x.kk = false) (h : Sat k w (StO (.slice (some ⟨g, 0, none⟩) P.length d) P * R)) :
    Calls Try.prog 42 #[.pointer (some ⟨g, i * 2, none⟩), cmV x] w fun e w' => e = .returned (.int .i64 0) ∧ Sat k w' (StO (.slice (some ⟨g, 0, none⟩) P.length d) P * R) := by
  have h0 := h.alloc (.cells #[.int .i64 x.kind, .string x.tb, .int .i64 x.kk, .int .i64 x.vv, .bool x.kd] 24)
  obtain ⟨kind, tb, kk, vv, kd⟩ := x
  simp only at h0 hno
  clear h
  go_enter Try.func42, Try.ntmps42
  go_upto_region 1 with fail
  generalize w.alloc (.cells #[.int .i64 kind, .string tb, .int .i64 kk, .int .i64 vv, .bool kd] 24) = w0 at *
  generalize w.heap.size = o at *
  obtain ⟨Pz, hP, h3⟩ : ∃ Pz, Pz = _ ∧ Sat k w0 Pz := ⟨_, rfl, h0⟩
  obtain ⟨p, hp⟩ : ∃ p, P[i] = p := ⟨_, rfl⟩
  have HDD : Hid (∀ {w' : World}, Sat k w' Pz → w'.cell? ⟨o, 2, none⟩ = some (.int .i64 kk) ∧ w'.cell? ⟨g, i * 2 + 1, none⟩ = some (.slice p.a p.rows.length p.c)) := by
    unfold Hid
    intro w' q
    rw [hP] at q
    refine ⟨q.cell 2, ?_⟩
    have q1 : Sat k w' (RecS ETb 43 (.slice (some ⟨g, 0, none⟩) P.length d) P * (stars tbR P * (blk o (cmO ⟨kind, tb, kk, vv, kd⟩) * R))) := q.of_eq (by unfold StO; ac_rfl)
    obtain ⟨g', hg', _, hc'⟩ := rec_get q1 (by decide) i hi
    simp only [Option.some.injEq, Addr.mk.injEq, and_true] at hg'
    subst hg'
    have := hc' 1 (by decide)
    rw [hp] at this
    exact this
  have RRD : RdR k Pz p.a p.rows := by
    rw [← hp]
    rw [hP] at h3 ⊢
    exact ((rds_own h3.swap).2 P[i] (List.getElem_mem hi)).mono fun _ q => q.swap
  rw [hp] at hno hl
  have D := fun w' q => place_any k w' Pz p.a p.c p.rows kk RRD (by omega) q
  rw [hno] at D
  have D1 := Lib.hid D
  have HPE : Hid (∀ {w' : World}, Sat k w' Pz → Sat k w' (StO (.slice (some ⟨g, 0, none⟩) P.length d) P * R)) := by
    unfold Hid
    intro w' q
    rw [hP] at q
    exact q.drop
  clear h0 hP RRD D hno hp
  go_region_held3 (fun w' => w'.cell? ⟨o, 2, none⟩ = some (.int .i64 kk) ∧ w'.cell? ⟨g, i * 2 + 1, none⟩ = some (.slice p.a p.rows.length p.c)) (first | exact HDD.out (by assumption) | fail) (first | (go_at_call 57; (with_reducible refine (D1.out _ (by first | assumption | exact Sat.drew (by assumption))).mono ?_); rintro e w4 ⟨rfl, h4⟩) | fail)
  all_goals
    go_wp2_with fail
    go_ret
    exact ⟨rfl, HPE.out h4⟩

end Go.Proofs.Ytoeepbjnbgpmpaa

namespace Go.Proofs.Ytoeepbjnbgpmpaa
set_option linter.all false
open Go Go.RowKit

set_option maxRecDepth 100000 in
set_option maxHeartbeats 8000000 in
theorem sadd_big (k : Env) (w : World) (R : Assn) (g d : Nat) (P : List TbM) (i : Nat) (x : CmdM) (hi : i < P.length) (hl : P[i].rows.length ≤ 1000000) (hno : placeB P[i].rows x.kk = true) (n : Nat) (hpn : placeI P[i].rows x.kk 0 = n) (hnl : n < P[i].rows.length) (hbig : 999999 ≤ P[i].rows[n].2) (h : Sat k w (StO (.slice (some ⟨g, 0, none⟩) P.length d) P * R)) :
    Calls Try.prog 42 #[.pointer (some ⟨g, i * 2, none⟩), cmV x] w fun e w' => e = .returned (.int .i64 2) ∧ Sat k w' (StO (.slice (some ⟨g, 0, none⟩) P.length d) P * R) := by
  have h0 := h.alloc (.cells #[.int .i64 x.kind, .string x.tb, .int .i64 x.kk, .int .i64 x.vv, .bool x.kd] 24)
  obtain ⟨kind, tb, kk, vv, kd⟩ := x
  simp only at h0 hno hpn
  clear h
  go_enter Try.func42, Try.ntmps42
  go_upto_region 1 with fail
  generalize w.alloc (.cells #[.int .i64 kind, .string tb, .int .i64 kk, .int .i64 vv, .bool kd] 24) = w0 at *
  generalize w.heap.size = o at *
  obtain ⟨Pz, hP, h3⟩ : ∃ Pz, Pz = _ ∧ Sat k w0 Pz := ⟨_, rfl, h0⟩
  obtain ⟨p, hp⟩ : ∃ p, P[i] = p := ⟨_, rfl⟩
  have HDD : Hid (∀ {w' : World}, Sat k w' Pz → w'.cell? ⟨o, 2, none⟩ = some (.int .i64 kk) ∧ w'.cell? ⟨g, i * 2 + 1, none⟩ = some (.slice p.a p.rows.length p.c)) := by
    unfold Hid
    intro w' q
    rw [hP] at q
    refine ⟨q.cell 2, ?_⟩
    have q1 : Sat k w' (RecS ETb 43 (.slice (some ⟨g, 0, none⟩) P.length d) P * (stars tbR P * (blk o (cmO ⟨kind, tb, kk, vv, kd⟩) * R))) := q.of_eq (by unfold StO; ac_rfl)
    obtain ⟨g', hg', _, hc'⟩ := rec_get q1 (by decide) i hi
    simp only [Option.some.injEq, Addr.mk.injEq, and_true] at hg'
    subst hg'
    have := hc' 1 (by decide)
    rw [hp] at this
    exact this
  have RRD : RdR k Pz p.a p.rows := by
    rw [← hp]
    rw [hP] at h3 ⊢
    exact ((rds_own h3.swap).2 P[i] (List.getElem_mem hi)).mono fun _ q => q.swap
  obtain ⟨gr, og, hgr, hrc⟩ := rdr_at RRD n (by rw [← hp]; exact hnl)
  have hbig2 : 999999 ≤ (p.rows[n]'(by rw [← hp]; exact hnl)).2 := by subst hp; exact hbig
  have hnl2 : n < p.rows.length := by rw [← hp]; exact hnl
  have hnI : (n : Int) < p.rows.length := by omega
  rw [hp] at hno hl hpn
  have D := fun w' q => place_any k w' Pz p.a p.c p.rows kk RRD (by omega) q
  rw [hno, hpn] at D
  have HPE : Hid (∀ {w' : World}, Sat k w' Pz → Sat k w' (StO (.slice (some ⟨g, 0, none⟩) P.length d) P * R)) := by
    unfold Hid
    intro w' q
    rw [hP] at q
    exact q.drop
  have HRC := Lib.hid hrc
  have HGR := Lib.hid hgr
  rw [hgr] at D
  have HDE : Hid (∀ {w' : World}, Sat k w' Pz → w'.cell? ⟨o, 2, none⟩ = some (.int .i64 kk) ∧ w'.cell? ⟨g, i * 2 + 1, none⟩ = some (.slice (some ⟨gr, og, none⟩) p.rows.length p.c)) := by
    unfold Hid
    intro w' q
    have := HDD.out q
    rw [HGR.out] at this
    exact this
  generalize p.rows[n] = y at *
  have D1 := Lib.hid D
  clear h0 RRD D hno hpn hrc hbig hnl hp hgr HDD
  go_region_held3 (fun w' => w'.cell? ⟨o, 2, none⟩ = some (.int .i64 kk) ∧ w'.cell? ⟨g, i * 2 + 1, none⟩ = some (.slice (some ⟨gr, og, none⟩) p.rows.length p.c)) (first | exact HDE.out (by assumption) | fail) (first | (go_at_call 57; (with_reducible refine (D1.out _ (by first | assumption | exact Sat.drew (by assumption))).mono ?_); rintro e w4 ⟨rfl, h4⟩) | fail)
  all_goals
    obtain ⟨f1, f2⟩ := HDE.out h4
    obtain ⟨f3, f4⟩ := HRC.out _ h4
    go_wp2_with fail
    go_ret
    exact ⟨rfl, HPE.out h4⟩

end Go.Proofs.Ytoeepbjnbgpmpaa

namespace Go.Proofs.Ytoeepbjnbgpmpaa
set_option linter.all false
open Go Go.RowKit

theorem recs_alike {P : List TbM} {i : Nat} (hi : i < P.length) (q : TbM) (h : tbc q = tbc P[i]) : ETb.recs (P.set i q) = ETb.recs P := by
  have h1 := ETb.recs_set P i 0 (.string q.nm) q hi (by decide) (by
    show tbc q = (tbc P[i]).set 0 (.string q.nm)
    rw [← h]; rfl)
  rw [← h1]
  refine List.ext_getElem? fun j => ?_
  rw [List.getElem?_set]
  split
  · rename_i e
    subst e
    split
    · have hg := ETb.recs_get P i 0 hi (by decide)
      have he : ETb.n = 2 := rfl
      rw [he] at hg
      rw [show i * ETb.n + 0 = i * 2 + 0 from rfl, hg]
      show some (Value.string q.nm) = (tbc P[i])[0]?
      rw [← h]; rfl
    · rename_i hl
      rw [List.getElem?_eq_none (by omega)]
  · rfl

set_option maxRecDepth 100000 in
set_option maxHeartbeats 8000000 in
theorem sadd_ok (k : Env) (w : World) (R : Assn) (g d : Nat) (P : List TbM) (i : Nat) (x : CmdM) (hi : i < P.length) (hl : P[i].rows.length ≤ 1000000) (hno : placeB P[i].rows x.kk = true) (n : Nat) (hpn : placeI P[i].rows x.kk 0 = n) (hnl : n < P[i].rows.length) (hbig : ¬ 999999 ≤ P[i].rows[n].2) (h0y : 0 ≤ P[i].rows[n].2) (h : Sat k w (StO (.slice (some ⟨g, 0, none⟩) P.length d) P * R)) :
    Calls Try.prog 42 #[.pointer (some ⟨g, i * 2, none⟩), cmV x] w fun e w' => e = .returned (.int .i64 0) ∧ Sat k w' (StO (.slice (some ⟨g, 0, none⟩) P.length d) (P.set i ⟨P[i].nm, P[i].a, P[i].c, P[i].rows.set n (P[i].rows[n].1, P[i].rows[n].2 + 1)⟩) * R) := by
  have h0 := h.alloc (.cells #[.int .i64 x.kind, .string x.tb, .int .i64 x.kk, .int .i64 x.vv, .bool x.kd] 24)
  obtain ⟨kind, tb, kk, vv, kd⟩ := x
  simp only at h0 hno hpn
  clear h
  obtain ⟨F, hF1, hF2⟩ := sto_split hi
  have hal := fun (l' : List Rw2) (e : l'.length = P[i].rows.length) => recs_alike hi ⟨P[i].nm, P[i].a, P[i].c, l'⟩ (by unfold tbc TbM.v; rw [e])
  obtain ⟨p, hp⟩ : ∃ p, P[i] = p := ⟨_, rfl⟩
  have HP := Lib.hid hp
  simp only [hp] at hno hl hpn hnl hbig h0y hF1 hal
  simp only [hp]
  obtain ⟨pn, pa, pc, pr⟩ := p
  simp only at hno hl hpn hnl hbig h0y hal
  have hA : Sat k _ (Rws (.slice pa pr.length pc) pr * (RecS ETb 43 (.slice (some ⟨g, 0, none⟩) P.length d) P * (F * (blk w.heap.size (cmO ⟨kind, tb, kk, vv, kd⟩) * R)))) := h0.of_eq (by unfold StO; rw [hF1]; show _ = Rws (.slice pa pr.length pc) pr * _; unfold tbR TbM.v; ac_rfl)
  obtain ⟨gr, hgr, _, _⟩ := rec_get hA (by decide) n hnl
  subst hgr
  obtain ⟨y, hy⟩ : ∃ y, pr[n] = y := ⟨_, rfl⟩
  rw [hy] at hbig h0y ⊢
  obtain ⟨y3, hy3⟩ : ∃ y3, y3 = y.2 + 1 := ⟨_, rfl⟩
  have hwy : IntKind.i64.wrap (y.2 + 1) = y3 := by rw [IntWalk.i64_in _ (by omega), hy3]
  rw [← hy3]
  have hnI : (n : Int) < pr.length := by omega
  have HF2 := Lib.hid hF2
  have HAL := Lib.hid hal
  have HY := Lib.hid hy
  clear h0 hF1 hF2 hal hp
  go_enter Try.func42, Try.ntmps42
  go_upto_region 1 with fail
  generalize w.alloc (.cells #[.int .i64 kind, .string tb, .int .i64 kk, .int .i64 vv, .bool kd] 24) = w0 at *
  generalize w.heap.size = o at *
  obtain ⟨Pz, hP, h3⟩ : ∃ Pz, Pz = _ ∧ Sat k w0 Pz := ⟨_, rfl, hA⟩
  have HDD : Hid (∀ {w' : World}, Sat k w' Pz → w'.cell? ⟨o, 2, none⟩ = some (.int .i64 kk) ∧ w'.cell? ⟨g, i * 2 + 1, none⟩ = some (.slice (some ⟨gr, 0, none⟩) pr.length pc)) := by
    unfold Hid
    intro w' q
    rw [hP] at q
    refine ⟨q.get4.cell 2, ?_⟩
    obtain ⟨g', hg', _, hc'⟩ := rec_get q.swap (by decide) i hi
    simp only [Option.some.injEq, Addr.mk.injEq, and_true] at hg'
    subst hg'
    have := hc' 1 (by decide)
    rw [HP.out] at this
    exact this
  have RRD : RdR k Pz (some ⟨gr, 0, none⟩) pr := by
    rw [hP]
    exact rdr_own hA
  have D := fun w' q => place_any k w' Pz (some ⟨gr, 0, none⟩) pc pr kk RRD (by omega) q
  rw [hno, hpn] at D
  have D1 := Lib.hid D
  have HPE := Lib.hid hP
  clear hA hP RRD D hno hpn hy hy3
  go_region_held3 (fun w' => w'.cell? ⟨o, 2, none⟩ = some (.int .i64 kk) ∧ w'.cell? ⟨g, i * 2 + 1, none⟩ = some (.slice (some ⟨gr, 0, none⟩) pr.length pc)) (first | exact HDD.out (by assumption) | fail) (first | (go_at_call 57; (with_reducible refine (D1.out _ (by first | assumption | exact Sat.drew (by assumption))).mono ?_); rintro e w4 ⟨rfl, h4⟩) | fail)
  all_goals
    obtain ⟨f1, f2⟩ := HDD.out h4
    rw [HPE.out] at h4
    obtain ⟨u, hu, f3, f4, _⟩ := own_at h4 (n * 2 + 1) (by show n * 2 + 1 < pr.length * 2; omega)
    have hu2 : u = .int .i64 y.2 := by
      have hg := ERw.recs_get pr n 1 hnl (by decide)
      rw [HY.out] at hg
      exact Option.some.inj (hu.symm.trans hg)
    subst hu2
    have h5 := own_set2 h4 (n * 2 + 1) (.int .i64 y3)
    have hrs : (ERw.recs pr).set (n * 2 + 1) (.int .i64 y3) = ERw.recs (pr.set n (y.1, y3)) := ERw.recs_set pr n 1 _ (y.1, y3) hnl (by decide) (by rw [HY.out]; rfl)
    rw [hrs] at h5
    have h7 : Sat k (w4.setCell ⟨gr, n * 2 + 1, none⟩ (.int .i64 y3)) (StO (.slice (some ⟨g, 0, none⟩) P.length d) (P.set i ⟨pn, some ⟨gr, 0, none⟩, pc, pr.set n (y.1, y3)⟩) * R) := by
      have hln : (pr.set n (y.1, y3)).length = pr.length := List.length_set
      have hgoal : StO (.slice (some ⟨g, 0, none⟩) P.length d) (P.set i ⟨pn, some ⟨gr, 0, none⟩, pc, pr.set n (y.1, y3)⟩) * R = Own 45 2 (.slice (some ⟨gr, 0, none⟩) pr.length pc) pr.length (ERw.recs (pr.set n (y.1, y3))) * (RecS ETb 43 (.slice (some ⟨g, 0, none⟩) P.length d) P * (F * R)) := by
        unfold StO RecS
        rw [HF2.out, HAL.out _ hln, List.length_set]
        show _ * (Own 45 2 (.slice (some ⟨gr, 0, none⟩) (pr.set n (y.1, y3)).length pc) (pr.set n (y.1, y3)).length (ERw.recs (pr.set n (y.1, y3))) * F) * R = _
        rw [hln]
        ac_rfl
      rw [hgoal]
      exact (h5.get4.drop)
    clear hu h4 h5 hrs
    go_wp2_with fail
    go_ret
    exact ⟨rfl, h7⟩

end Go.Proofs.Ytoeepbjnbgpmpaa
