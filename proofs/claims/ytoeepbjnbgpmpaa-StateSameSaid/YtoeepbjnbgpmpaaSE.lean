/- Several texts in one: StS, StT. -/
import Derived.Test.YtoeepbjnbgpmpaaSD
import Derived.Laws.MakeOwn
import Derived.BigRegion
namespace Go.Proofs.Ytoeepbjnbgpmpaa
set_option linter.all false
open Go Go.RowKit

theorem made_recs {α : Type} (E : Enc α) (z : Value) (x0 : α) (hz : z.cells.toList = E.f x0) (n : Nat) : (madeCells z.cells (n * E.n)).toList = E.recs (List.replicate n x0) := by
  have hzs : z.cells.size = E.n := by rw [← Array.length_toList, hz, E.len]
  refine List.ext_getElem? fun i => ?_
  by_cases hi : i < n * E.n
  · have hE : 0 < E.n := by
      rcases Nat.eq_zero_or_pos E.n with h | h
      · rw [h] at hi; simp at hi
      · exact h
    have hd : i / E.n < n := Nat.div_lt_of_lt_mul (by rw [Nat.mul_comm]; exact hi)
    have hm : i % E.n < E.n := Nat.mod_lt _ hE
    have h1 := E.recs_get (List.replicate n x0) (i / E.n) (i % E.n) (by simpa using hd) hm
    rw [Nat.div_add_mod' i E.n] at h1
    rw [h1, List.getElem_replicate, ← hz]
    have hm2 : i % z.cells.size < z.cells.size := by rw [hzs]; exact hm
    have hi2 : i < n * z.cells.size := by rw [hzs]; exact hi
    simp [madeCells, ← hzs, hm2]
    exact ⟨i, by rw [List.getElem?_range hi2], getElem!_pos z.cells _ hm2⟩
  · rw [List.getElem?_eq_none (by rw [Array.length_toList, size_madeCells]; omega), List.getElem?_eq_none (by rw [E.recs_len, List.length_replicate]; omega)]
theorem run_make_any {P : Program} {t e : TypeId} {z : Value} {size bytes : Nat} (T : SliceT P t e z size bytes) (n : Nat) (hb : bytes * n ≤ 281474976710656) (h63 : n ≤ maxLen) (w : World) :
    (Instr.makeSlice t (.int .i64 n) (.int .i64 n)).run P w = .ok (.slice (some ⟨w.heap.size, 0, none⟩) n n) (w.alloc (.cells (madeCells z.cells (n * size)) e)) := by
  obtain ⟨i, hi, hz0, hz1, hz2⟩ := info_parts T.info
  have h63' : (n : Int) ≤ 9223372036854775807 := by simp [maxLen] at h63; omega
  have hb' : (i.bytes : Int) * (n : Int) ≤ 281474976710656 := by
    have h : ((i.bytes * n : Nat) : Int) ≤ 281474976710656 := by rw [hz2]; omega
    rwa [Int.natCast_mul] at h
  have hr := run_make (P := P) w t e i z T.und hi hz0 .i64 .i64 n n (by omega) (Int.le_refl _) hb' h63'
  simp only [Int.toNat_natCast, hz1] at hr
  exact hr
theorem make_own {α : Type} {E : Enc α} {z : Value} {x0 : α} {k : Env} {w : World} {R : Assn} {e : TypeId} (hz : z.cells.toList = E.f x0) (cs : Array Value) (hcs : z.cells = cs) (sz : Nat) (hsz : E.n = sz) (n : Nat) (h63 : n ≤ maxLen) (h : Sat k w R) (g : Nat) (hg : w.heap.size = g) :
    Sat k (w.alloc (.cells (madeCells cs (n * sz)) e)) (Own e sz (.slice (some ⟨g, 0, none⟩) n n) n (E.recs (List.replicate n x0)) * R) := by
  subst hg hcs hsz
  refine own_mk (h.alloc _) (Nat.le_refl _) h63 (by rw [size_madeCells]; exact Nat.le_refl _) (by rw [E.recs_len, List.length_replicate]) ?_
  rw [made_recs E z x0 hz, List.take_of_length_le (by rw [E.recs_len, List.length_replicate]; exact Nat.le_refl _)]

section
variable {k : Env} {w : World} {e size n : Nat} {xs : List Value} {R : Assn} {P : Program} {t : TypeId} {z : Value} {bytes : Nat}
/-- copy of a whole slice into another one of the same length. -/
theorem run_copy_sat (ty : TypeId) (T : SliceT P t e z size bytes) {g cap : Nat} (h : Sat k w (Own e size (.slice (some ⟨g, 0, none⟩) n cap) n xs * R)) (a : Option Addr) (c : Nat) (news : List Value) (hl : news.length = n * size)
    (hnews : 0 < n → ∃ ad, a = some ad ∧ ∀ j u, news[j]? = some u → w.cell? (ad.add j) = some u) (h1 : ∀ u ∈ news, u.oneCell' = true) :
    ∃ w', (Builtin.copy_ #[t, t] ty #[.slice (some ⟨g, 0, none⟩) n cap, .slice a n c]).run P w = .ok (.int .i64 n) w' ∧ Sat k w' (Own e size (.slice (some ⟨g, 0, none⟩) n cap) n news * R) := by
  obtain ⟨i, hi, hz0, hz1, hz2⟩ := info_parts T.info
  rcases own_block h with ⟨h0, _⟩ | ⟨g', cur, hg, hc1, hc2, hc3, hlx, ht, hs⟩
  · cases h0
  · simp only [Option.some.injEq, Addr.mk.injEq, and_true] at hg
    subst hg
    have hmul : n * size ≤ cap * size := Nat.mul_le_mul_right _ hc1
    have hmk : ∀ w', w' = w.setRow g (cur.toList.take 0 ++ news ++ cur.toList.drop (0 + news.length)).toArray → Sat k w' (Own e size (.slice (some ⟨g, 0, none⟩) n cap) n news * R) := by
      rintro _ rfl
      refine own_mk (hs.turn rfl (setRow_heap w g cur _ e _ hs.get) (fun j hj _ => setRow_other w g j _ hj)) hc1 hc2 ?_ hl ?_
      · simp only [List.size_toArray, List.length_append, List.length_take, List.length_drop, Array.length_toList]
        omega
      · simp only [List.take_zero, List.nil_append]
        rw [← hl, List.take_left]
    by_cases hn : 0 < n
    · obtain ⟨ad, rfl, hsrc⟩ := hnews hn
      have hr := run_copy_cells (P := P) w t t ty e g 0 n cap ad n c cur e news n size T.und (by rw [hi]; simp [hz1]) hs.get (Nat.min_self n).symm hl hsrc (by rw [hl]; omega) h1
      exact ⟨_, hr, hmk _ rfl⟩
    · obtain rfl : n = 0 := by omega
      obtain rfl : news = [] := List.length_eq_zero_iff.1 (by simpa using hl)
      obtain rfl : xs = [] := List.length_eq_zero_iff.1 (by simpa using hlx)
      refine ⟨w, ?_, h⟩
      cases a <;> simp [Builtin.copy_, run_underlying T.und, sizeOf, typeInfo, hi, Builtin.lenOf, Builtin.firstCells, storeCells, loadCells, loadCellsFrom, goInt]
theorem step_copy_sat {ops : Array Oper} {o : Oper} {a : Act} {K : Act → World → Prop} {Q : Exit → Act → World → Prop} {E : Prop} (T : SliceT P t e z size bytes) {g cap : Nat}
    (h : Sat k w (Own e size (.slice (some ⟨g, 0, none⟩) n cap) n xs * R)) (d s : Operand) (ad : Option Addr) (c : Nat) (news : List Value) (hl : news.length = n * size)
    (hnews : 0 < n → ∃ ad', ad = some ad' ∧ ∀ j u, news[j]? = some u → w.cell? (ad'.add j) = some u) (h1 : ∀ u ∈ news, u.oneCell' = true)
    (hgd : o.guard = none) (ho : o.op = .call { callee := .builtin .copy, args := #[d, s], argTypes := #[t, t] })
    (e1 : a.eval d = .slice (some ⟨g, 0, none⟩) n cap) (e2 : a.eval s = .slice ad n c)
    (hK : ∀ w', Sat k w' (Own e size (.slice (some ⟨g, 0, none⟩) n cap) n news * R) → K (a.put o.dst (.int .i64 n)) w') : if Region.wanted o (yielded ops a.tmps) = true then Oper.wp P o a w K Q else E := by
  have hw : Region.wanted o (yielded ops a.tmps) = true := by simp [Region.wanted, hgd]
  rw [if_pos hw]
  obtain ⟨w', hr, h2⟩ := run_copy_sat o.type T h ad c news hl hnews h1
  unfold Oper.wp execOp
  simp only [ho, resolve, invoke, builtin, Sem.run_bind, Sem.run_pure, Result.andThen_ok, List.map_toArray, List.map_cons, List.map_nil, e1, e2, hr]
  exact hK w' h2
end
/-- A record of two cells is stored. -/
theorem recs_set2 {α : Type} (E : Enc α) (hE : E.n = 2) (Q : List α) (i : Nat) (hi : i < Q.length) (x : α) (v0 v1 : Value) (hx : E.f x = [v0, v1]) : ((E.recs Q).set (i * 2) v0).set (i * 2 + 1) v1 = E.recs (Q.set i x) := by
  have hsp : Q = Q.take i ++ Q[i] :: Q.drop (i + 1) := by rw [List.getElem_cons_drop, List.take_append_drop]
  have hlt : (E.recs (Q.take i)).length = i * 2 := by rw [E.recs_len, hE, List.length_take, Nat.min_eq_left (by omega)]
  have h1 : E.recs Q = E.recs (Q.take i) ++ (E.f Q[i] ++ E.recs (Q.drop (i + 1))) := by
    have h0 : E.recs Q = E.recs (Q.take i ++ Q[i] :: Q.drop (i + 1)) := congrArg E.recs hsp
    rw [h0, E.recs_append]; rfl
  have h2 : E.recs (Q.set i x) = E.recs (Q.take i) ++ ([v0, v1] ++ E.recs (Q.drop (i + 1))) := by
    rw [List.set_eq_take_append_cons_drop, if_pos hi, E.recs_append, ← hx]; rfl
  rw [h1, h2]
  have hl := E.len Q[i]
  rw [hE] at hl
  generalize E.f Q[i] = y at *
  obtain ⟨a, b, rfl⟩ : ∃ a b, y = [a, b] := by
    match y, hl with
    | [a, b], _ => exact ⟨a, b, rfl⟩
  rw [List.set_append_right _ _ (by omega), List.set_append_right _ _ (by omega), hlt]
  simp
theorem rec2_set {α : Type} {E : Enc α} (hE : E.n = 2) {k : Env} {w : World} {R : Assn} {t : TypeId} {g n c : Nat} {Q : List α} (h : Sat k w (Own t 2 (.slice (some ⟨g, 0, none⟩) n c) n (E.recs Q) * R)) (i : Nat) (hi : i < Q.length) (x : α) (v0 v1 : Value) (hx : E.f x = [v0, v1]) :
    Sat k ((w.setCell ⟨g, i * 2, none⟩ v0).setCell ⟨g, i * 2 + 1, none⟩ v1) (Own t 2 (.slice (some ⟨g, 0, none⟩) n c) n (E.recs (Q.set i x)) * R) := by
  have h1 := own_set2 (own_set2 h (i * 2) v0) (i * 2 + 1) v1
  rw [recs_set2 E hE Q i hi x v0 v1 hx] at h1
  exact h1
/-- What a walk asks for, to store a record of two cells. -/
theorem rec2_at {k : Env} {w : World} {R : Assn} {t : TypeId} {g n c : Nat} {xs : List Value} (h : Sat k w (Own t 2 (.slice (some ⟨g, 0, none⟩) n c) n xs * R)) (i : Nat) (hi : i < n) (v0 : Value) :
    ∃ u0 u1 u2, w.cell? ⟨g, i * 2, none⟩ = some u0 ∧ w.cell? ⟨g, i * 2 + 1, none⟩ = some u1 ∧ w.frozen? ⟨g, i * 2, none⟩ = false ∧ w.frozen? ⟨g, i * 2 + 1, none⟩ = false ∧ (w.setCell ⟨g, i * 2, none⟩ v0).cell? ⟨g, i * 2 + 1, none⟩ = some u2 ∧ g < w.heap.size := by
  obtain ⟨u0, _, h0, f0, hg⟩ := own_at h (i * 2) (by omega)
  obtain ⟨u1, _, h1, f1, _⟩ := own_at h (i * 2 + 1) (by omega)
  obtain ⟨u2, h2⟩ := RowKit.cell?_setCell_some (p := ⟨g, i * 2, none⟩) (x := v0) h1
  exact ⟨u0, u1, u2, h0, h1, f0, f1, h2, hg⟩
def zT : TbM := ⟨ByteArray.empty, none, 0, []⟩
def zR : Rw2 := (0, 0)

set_option maxRecDepth 100000 in
set_option maxHeartbeats 8000000 in
theorem scopy_any (k : Env) (w : World) (R : Assn) (a : Option Addr) (c : Nat) (P : List TbM) (hr : RdS k R a P) (hn : P.length ≤ 1000000) (hrows : ∀ p ∈ P, p.rows.length ≤ 1000000) (h : Sat k w R) :
    Calls Try.prog 24 #[.slice a P.length c] w fun e w' => ∃ v d P', e = .returned (.slice v P'.length d) ∧ pairs P' = pairs P ∧ Sat k w' (StO (.slice v P'.length d) P' * R) := by
  have HR := Lib.hid hr
  have HRW := Lib.hid hrows
  have hmk := run_make_any TTb P.length (by omega) (by simp [maxLen]; omega)
  obtain ⟨g, hg⟩ : ∃ g, w.heap.size = g := ⟨_, rfl⟩
  have h0 := make_own (E := ETb) (z := (.agg #[.string ByteArray.empty, .slice none 0 0])) (x0 := zT) (e := 43) rfl #[.string ByteArray.empty, .slice none 0 0] rfl 2 rfl P.length (by simp [maxLen]; omega) h g hg
  have hsrt : stars tbR ((List.replicate P.length zT).take 0) * R = R := by rw [List.take_zero, stars, emp_star]
  rw [← hsrt] at h0
  clear hr hrows hsrt h
  go_enter Try.func24, Try.ntmps24
  go_upto_region 2 with fail
  generalize w.alloc (.cells (madeCells #[.string ByteArray.empty, .slice none 0 0] (P.length * 2)) 43) = w0 at *
  clear hmk hg
  go_wp2_with fail
  go_loopw [11] (fun s11 wr => ∃ (j : Nat) (Q : List TbM), j ≤ P.length ∧ s11 = .int .i64 j ∧ Hid (Q.length = P.length) ∧ Hid (pairs (Q.take j) = pairs (P.take j)) ∧ Sat k wr (Own 43 2 (.slice (some ⟨g, 0, none⟩) P.length P.length) P.length (ETb.recs Q) * (stars tbR (Q.take j) * R))) (fun s11 _ => P.length - (intOf s11).toNat)
  case atStart => exact ⟨0, List.replicate P.length zT, Nat.zero_le _, rfl, List.length_replicate, rfl, h0⟩
  case round =>
    clear h0
    obtain ⟨j, Q, hj, rfl, HL, HS, hs⟩ := hrel
    by_cases hlt : j < P.length
    · have hlt' : (j : Int) < P.length := by omega
      obtain ⟨gs, o, rfl, hg⟩ := rds_at HR.out (by rintro rfl; cases hlt)
      have HG : Hid (∀ {w' : World}, Sat k w' R → (w'.cell? ⟨gs, o + j * 2, none⟩ = some (.string P[j].nm) ∧ w'.cell? ⟨gs, o + j * 2 + 1, none⟩ = some (.slice P[j].a P[j].rows.length P[j].c))) := by
        unfold Hid
        intro w' q
        exact hg w' q j hlt
      have R1 := Lib.hid (HR.out.2 _ (List.getElem_mem hlt))
      have hrl := HRW.out _ (List.getElem_mem hlt)
      have HT : Hid (pairs (P.take (j + 1)) = pairs (P.take j) ++ [P[j].p]) := by
        unfold Hid pairs; rw [List.take_succ_eq_append_getElem hlt, List.map_append]; rfl
      clear hg
      generalize P[j] = p at *
      obtain ⟨pn, pa, pc, pr⟩ := p
      simp only [TbM.p] at HG HT R1 hrl
      obtain ⟨c0, c1⟩ := HG.out hs.drop.drop
      have h4 := hs.alloc (.cells #[.string pn, .slice pa pr.length pc] 43)
      go_upto_region 5 with fail
      generalize wr.alloc (.cells #[.string pn, .slice pa pr.length pc] 43) = w4 at *
      generalize wr.heap.size = oo at *
      have d0 : w4.cell? ⟨oo, 0, none⟩ = some (.string pn) := h4.cell 0
      have d1 : w4.cell? ⟨oo, 1, none⟩ = some (.slice pa pr.length pc) := h4.cell 1
      clear c0 c1 hs
      have hmk := run_make_any TRw pr.length (by omega) (by simp [maxLen]; omega)
      obtain ⟨g2, hg2⟩ : ∃ g2, w4.heap.size = g2 := ⟨_, rfl⟩
      have h5 := make_own (E := ERw) (z := (.agg #[.int .i64 0, .int .i64 0])) (x0 := zR) (e := 45) rfl #[.int .i64 0, .int .i64 0] rfl 2 rfl pr.length (by simp [maxLen]; omega) h4 g2 hg2
      obtain ⟨u0, u1, u2, e0, e1, e2, e3, e4, hg⟩ := rec2_at h5.get3 j hlt (.string pn)
      have e5 : (w4.alloc (.cells (madeCells #[.int .i64 0, .int .i64 0] (pr.length * 2)) 45)).cell? ⟨oo, 0, none⟩ = some (.string pn) := h5.swap.cell 0
      have e6 : (w4.alloc (.cells (madeCells #[.int .i64 0, .int .i64 0] (pr.length * 2)) 45)).cell? ⟨oo, 1, none⟩ = some (.slice pa pr.length pc) := h5.swap.cell 1
      obtain ⟨T, hT⟩ : ∃ T : TbM, T = ⟨pn, some ⟨g2, 0, none⟩, pr.length, pr⟩ := ⟨_, rfl⟩
      have hQj : j < Q.length := by rw [HL.out]; exact hlt
      have h6 := rec2_set (E := ETb) rfl h5.get3 j hQj T (.string pn) (.slice (some ⟨g2, 0, none⟩) pr.length pr.length) (by rw [hT]; rfl)
      have hcell : (ETb.recs (Q.set j T))[j * 2 + 1]? = some (.slice (some ⟨g2, 0, none⟩) pr.length pr.length) := by
        have h0 := ETb.recs_get (Q.set j T) j 1 (by simpa using hQj) (by decide)
        rw [List.getElem_set_self] at h0
        rw [hT] at h0 ⊢
        exact h0
      have HC := Lib.hid hcell
      have hts : (Q.set j T).take (j + 1) = Q.take j ++ [T] := by
        rw [List.take_succ_eq_append_getElem (by simpa using hQj), List.getElem_set_self]
        congr 1
        rw [List.take_set, List.set_eq_of_length_le (by rw [List.length_take]; omega)]
      have HTS := Lib.hid hts
      have HQL : Hid ((Q.set j T).length = P.length) := by unfold Hid; rw [List.length_set]; exact HL.out
      have HTT := Lib.hid hT
      have HEL : Hid ((ERw.recs pr).length = pr.length * 2) := by unfold Hid; rw [ERw.recs_len]; rfl
      generalize Q.set j T = Q2 at *
      clear hT hcell hts
      go_region_law (fail)
      all_goals
        replace h6 := h6.drew
        generalize ((((w4.alloc (.cells (madeCells #[.int .i64 0, .int .i64 0] (pr.length * 2)) 45)).setCell ⟨g, j * 2, none⟩ (.string pn)).setCell ⟨g, j * 2 + 1, none⟩ (.slice (some ⟨g2, 0, none⟩) pr.length pr.length)).drew) = w6 at *
        clear h4 h5 e0 e1 e2 e3 e4 e5 e6 d0 d1 hmk hg2
        obtain ⟨v1, hv1, f1, _⟩ := own_at h6 (j * 2 + 1) (by omega)
        obtain rfl : v1 = .slice (some ⟨g2, 0, none⟩) pr.length pr.length := Option.some.inj (hv1.symm.trans HC.out)
        have f2 : w6.cell? ⟨oo, 1, none⟩ = some (.slice pa pr.length pc) := h6.get3.cell 1
        clear hv1
        go_upto_region 6 with fail
        go_region_law (first | (refine step_copy_sat TRw h6.drew.swap (.tmp 30) (.tmp 32) pa pc (ERw.recs pr) HEL.out (rdr_all R1.out h6.drew.drop.drop.drop.drop) (ERw.recs_ones pr) rfl rfl (by simp [Act.eval, Act.put]) (by simp [Act.eval, Act.put]) ?_; intro w7 h7) | fail)
        all_goals
          have h8 : Sat k w7 (Own 43 2 (.slice (some ⟨g, 0, none⟩) P.length P.length) P.length (ETb.recs Q2) * (stars tbR (Q2.take (j + 1)) * R)) := by
            rw [HTS.out, stars_snoc, HTT.out]
            exact (h7.get3.drop).of_eq (by unfold tbR Rws RecS TbM.v; ac_rfl)
          have HN : Hid (pairs (Q2.take (j + 1)) = pairs (P.take (j + 1))) := by
            unfold Hid; rw [HT.out, ← HS.out, HTS.out]; unfold pairs; rw [List.map_append, HTT.out]; rfl
          clear HT HS h6 h7
          go_wp2_with fail
          go_roundw
          case rel => exact ⟨j + 1, Q2, by omega, by go_num, HQL, HN, h8⟩
          case measure => simp [intOf]; omega
    · obtain rfl : j = P.length := by omega
      have HN : Hid (pairs Q = pairs P) := by
        have := HS.out
        rw [List.take_of_length_le (Nat.le_refl _), List.take_of_length_le (by rw [HL.out]; exact Nat.le_refl _)] at this
        exact this
      clear HS
      go_wp2_with fail
      go_ret
      refine ⟨some ⟨g, 0, none⟩, P.length, Q, by rw [HL.out]; rfl, HN.out, ?_⟩
      rw [List.take_of_length_le (by rw [HL.out]; exact Nat.le_refl _)] at hs
      unfold StO RecS
      rw [HL.out, star_assoc]
      exact hs
end Go.Proofs.Ytoeepbjnbgpmpaa

namespace Go.Proofs.Ytoeepbjnbgpmpaa
set_option linter.all false
open Go Go.RowKit

set_option maxRecDepth 100000 in
set_option maxHeartbeats 8000000 in
theorem sput_had (k : Env) (w : World) (R : Assn) (g d : Nat) (P : List TbM) (i : Nat) (x : CmdM) (hi : i < P.length) (hl : P[i].rows.length ≤ 1000000) (hno : placeB P[i].rows x.kk = true) (n : Nat) (hpn : placeI P[i].rows x.kk 0 = n) (hnl : n < P[i].rows.length) (h : Sat k w (StO (.slice (some ⟨g, 0, none⟩) P.length d) P * R)) :
    Calls Try.prog 41 #[.pointer (some ⟨g, i * 2, none⟩), cmV x] w fun e w' => e = .returned (.int .i64 0) ∧ Sat k w' (StO (.slice (some ⟨g, 0, none⟩) P.length d) (P.set i ⟨P[i].nm, P[i].a, P[i].c, P[i].rows.set n (P[i].rows[n].1, x.vv)⟩) * R) := by
  have h0 := h.alloc (.cells #[.int .i64 x.kind, .string x.tb, .int .i64 x.kk, .int .i64 x.vv, .bool x.kd] 24)
  obtain ⟨kind, tb, kk, vv, kd⟩ := x
  simp only at h0 hno hpn
  clear h
  obtain ⟨F, hF1, hF2⟩ := sto_split hi
  have hal := fun (l' : List Rw2) (e : l'.length = P[i].rows.length) => recs_alike hi ⟨P[i].nm, P[i].a, P[i].c, l'⟩ (by unfold tbc TbM.v; rw [e])
  obtain ⟨p, hp⟩ : ∃ p, P[i] = p := ⟨_, rfl⟩
  have HP := Lib.hid hp
  simp only [hp] at hno hl hpn hnl hF1 hal
  simp only [hp]
  obtain ⟨pn, pa, pc, pr⟩ := p
  simp only at hno hl hpn hnl hal
  have hA : Sat k _ (Rws (.slice pa pr.length pc) pr * (RecS ETb 43 (.slice (some ⟨g, 0, none⟩) P.length d) P * (F * (blk w.heap.size (cmO ⟨kind, tb, kk, vv, kd⟩) * R)))) := h0.of_eq (by unfold StO; rw [hF1]; show _ = Rws (.slice pa pr.length pc) pr * _; unfold tbR TbM.v; ac_rfl)
  obtain ⟨gr, hgr, _, _⟩ := rec_get hA (by decide) n hnl
  subst hgr
  obtain ⟨y, hy⟩ : ∃ y, pr[n] = y := ⟨_, rfl⟩
  rw [hy]
  have hnI : (n : Int) < pr.length := by omega
  have HF2 := Lib.hid hF2
  have HAL := Lib.hid hal
  have HY := Lib.hid hy
  clear h0 hF1 hF2 hal hp
  go_enter Try.func41, Try.ntmps41
  go_upto_region 1 with fail
  generalize w.alloc (.cells #[.int .i64 kind, .string tb, .int .i64 kk, .int .i64 vv, .bool kd] 24) = w0 at *
  generalize w.heap.size = o at *
  obtain ⟨Pz, hP, h3⟩ : ∃ Pz, Pz = _ ∧ Sat k w0 Pz := ⟨_, rfl, hA⟩
  have HDD : Hid (∀ {w' : World}, Sat k w' Pz → w'.cell? ⟨o, 2, none⟩ = some (.int .i64 kk) ∧ w'.cell? ⟨o, 3, none⟩ = some (.int .i64 vv) ∧ w'.cell? ⟨g, i * 2 + 1, none⟩ = some (.slice (some ⟨gr, 0, none⟩) pr.length pc)) := by
    unfold Hid
    intro w' q
    rw [hP] at q
    refine ⟨q.get4.cell 2, q.get4.cell 3, ?_⟩
    obtain ⟨g', hg', _, hc'⟩ := rec_get q.swap (by decide) i hi
    simp only [Option.some.injEq, Addr.mk.injEq, and_true] at hg'
    subst hg'
    have := hc' 1 (by decide)
    rw [HP.out] at this
    exact this
  have RRD : RdR k Pz (some ⟨gr, 0, none⟩) pr := by
    rw [hP]
    exact rdr_own hA
  have D := fun w' q => place_any k w' Pz (some ⟨gr, 0, none⟩) pc pr kk RRD (by omega) q
  rw [hno, hpn] at D
  have D1 := Lib.hid D
  have HPE := Lib.hid hP
  clear hA hP RRD D hno hpn hy
  go_region_held3 (fun w' => w'.cell? ⟨o, 2, none⟩ = some (.int .i64 kk) ∧ w'.cell? ⟨o, 3, none⟩ = some (.int .i64 vv) ∧ w'.cell? ⟨g, i * 2 + 1, none⟩ = some (.slice (some ⟨gr, 0, none⟩) pr.length pc)) (first | exact HDD.out (by assumption) | fail) (first | (go_at_call 57; (with_reducible refine (D1.out _ (by first | assumption | exact Sat.drew (by assumption))).mono ?_); rintro e w4 ⟨rfl, h4⟩) | fail)
  all_goals
    obtain ⟨f1, f1b, f2⟩ := HDD.out h4
    rw [HPE.out] at h4
    obtain ⟨u, hu, f3, f4, _⟩ := own_at h4 (n * 2 + 1) (by show n * 2 + 1 < pr.length * 2; omega)
    have hu2 : u = .int .i64 y.2 := by
      have hg := ERw.recs_get pr n 1 hnl (by decide)
      rw [HY.out] at hg
      exact Option.some.inj (hu.symm.trans hg)
    subst hu2
    have h5 := own_set2 h4 (n * 2 + 1) (.int .i64 vv)
    have hrs : (ERw.recs pr).set (n * 2 + 1) (.int .i64 vv) = ERw.recs (pr.set n (y.1, vv)) := ERw.recs_set pr n 1 _ (y.1, vv) hnl (by decide) (by rw [HY.out]; rfl)
    rw [hrs] at h5
    have h7 : Sat k (w4.setCell ⟨gr, n * 2 + 1, none⟩ (.int .i64 vv)) (StO (.slice (some ⟨g, 0, none⟩) P.length d) (P.set i ⟨pn, some ⟨gr, 0, none⟩, pc, pr.set n (y.1, vv)⟩) * R) := by
      have hln : (pr.set n (y.1, vv)).length = pr.length := List.length_set
      have hgoal : StO (.slice (some ⟨g, 0, none⟩) P.length d) (P.set i ⟨pn, some ⟨gr, 0, none⟩, pc, pr.set n (y.1, vv)⟩) * R = Own 45 2 (.slice (some ⟨gr, 0, none⟩) pr.length pc) pr.length (ERw.recs (pr.set n (y.1, vv))) * (RecS ETb 43 (.slice (some ⟨g, 0, none⟩) P.length d) P * (F * R)) := by
        unfold StO RecS
        rw [HF2.out, HAL.out _ hln, List.length_set]
        show _ * (Own 45 2 (.slice (some ⟨gr, 0, none⟩) (pr.set n (y.1, vv)).length pc) (pr.set n (y.1, vv)).length (ERw.recs (pr.set n (y.1, vv))) * F) * R = _
        rw [hln]
        ac_rfl
      rw [hgoal]
      exact (h5.get4.drop)
    clear hu h4 h5 hrs
    replace h7 := h7.drew
    go_upto_region 3 with fail
    go_region_law (fail)
    all_goals
      go_wp2_with fail
      go_ret
      exact ⟨rfl, h7⟩

set_option maxRecDepth 100000 in
set_option maxHeartbeats 8000000 in
theorem sput_full (k : Env) (w : World) (R : Assn) (g d : Nat) (P : List TbM) (i : Nat) (x : CmdM) (hi : i < P.length) (hl : P[i].rows.length ≤ 1000000) (hno : placeB P[i].rows x.kk = false) (h64 : 64 ≤ P[i].rows.length) (h : Sat k w (StO (.slice (some ⟨g, 0, none⟩) P.length d) P * R)) :
    Calls Try.prog 41 #[.pointer (some ⟨g, i * 2, none⟩), cmV x] w fun e w' => e = .returned (.int .i64 11) ∧ Sat k w' (StO (.slice (some ⟨g, 0, none⟩) P.length d) P * R) := by
  have h0 := h.alloc (.cells #[.int .i64 x.kind, .string x.tb, .int .i64 x.kk, .int .i64 x.vv, .bool x.kd] 24)
  obtain ⟨kind, tb, kk, vv, kd⟩ := x
  simp only at h0 hno
  clear h
  go_enter Try.func41, Try.ntmps41
  go_upto_region 1 with fail
  generalize w.alloc (.cells #[.int .i64 kind, .string tb, .int .i64 kk, .int .i64 vv, .bool kd] 24) = w0 at *
  generalize w.heap.size = o at *
  obtain ⟨Pz, hP, h3⟩ : ∃ Pz, Pz = _ ∧ Sat k w0 Pz := ⟨_, rfl, h0⟩
  obtain ⟨p, hp⟩ : ∃ p, P[i] = p := ⟨_, rfl⟩
  have HDD : Hid (∀ {w' : World}, Sat k w' Pz → w'.cell? ⟨o, 2, none⟩ = some (.int .i64 kk) ∧ w'.cell? ⟨g, i * 2 + 1, none⟩ = some (.slice p.a p.rows.length p.c)) := by
    unfold Hid
    intro w' q
    rw [hP] at q
    refine ⟨q.cell 2, ?_⟩
    have q1 : Sat k w' (RecS ETb 43 (.slice (some ⟨g, 0, none⟩) P.length d) P * (stars tbR P * (blk o (cmO ⟨kind, tb, kk, vv, kd⟩) * R))) := q.of_eq (by unfold StO; ac_rfl)
    obtain ⟨g', hg', _, hc'⟩ := rec_get q1 (by decide) i hi
    simp only [Option.some.injEq, Addr.mk.injEq, and_true] at hg'
    subst hg'
    have := hc' 1 (by decide)
    rw [hp] at this
    exact this
  have RRD : RdR k Pz p.a p.rows := by
    rw [← hp]
    rw [hP] at h3 ⊢
    exact ((rds_own h3.swap).2 P[i] (List.getElem_mem hi)).mono fun _ q => q.swap
  rw [hp] at hno hl h64
  have h64I : (64 : Int) ≤ p.rows.length := by omega
  have D := fun w' q => place_any k w' Pz p.a p.c p.rows kk RRD (by omega) q
  rw [hno] at D
  have D1 := Lib.hid D
  have HPE : Hid (∀ {w' : World}, Sat k w' Pz → Sat k w' (StO (.slice (some ⟨g, 0, none⟩) P.length d) P * R)) := by
    unfold Hid
    intro w' q
    rw [hP] at q
    exact q.drop
  clear h0 hP RRD D hno hp
  go_region_held3 (fun w' => w'.cell? ⟨o, 2, none⟩ = some (.int .i64 kk) ∧ w'.cell? ⟨g, i * 2 + 1, none⟩ = some (.slice p.a p.rows.length p.c)) (first | exact HDD.out (by assumption) | fail) (first | (go_at_call 57; (with_reducible refine (D1.out _ (by first | assumption | exact Sat.drew (by assumption))).mono ?_); rintro e w4 ⟨rfl, h4⟩) | fail)
  all_goals
    obtain ⟨f1, f2⟩ := HDD.out h4
    go_wp2_with fail
    go_ret
    exact ⟨rfl, HPE.out h4⟩

end Go.Proofs.Ytoeepbjnbgpmpaa
