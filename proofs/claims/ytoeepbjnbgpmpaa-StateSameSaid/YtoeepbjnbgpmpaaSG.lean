/- Several texts in one: StX, StY, StZ, StDo. -/
import Derived.Test.YtoeepbjnbgpmpaaSF
import Derived.Laws.EntriesVeiled
namespace Go.Proofs.Ytoeepbjnbgpmpaa
set_option linter.all false
open Go Go.RowKit


set_option maxRecDepth 100000 in
set_option maxHeartbeats 8000000 in
theorem sdo_get (k : Env) (w : World) (R : Assn) (a : Option Addr) (c : Nat) (P : List TbM) (x : CmdM) (hk : x.kind = 1) (i : Nat) (hi : i < P.length) (hf : findI P x.tb 0 = i) (hr : RdS k R a P) (hn : P.length ≤ 1000) (hrows : ∀ p ∈ P, p.rows.length ≤ 1000000) (h : Sat k w R) :
    Calls Try.prog 20 #[.slice a P.length c, cmV x] w fun e w' => ∃ v d P' vr dr, e = .returned (.tuple #[.slice v P'.length d, .slice vr (P[i].rows.filter (meansB x.kd x.kk)).length dr, .int .i64 0]) ∧ pairs P' = pairs P ∧ Sat k w' (Rws (.slice vr (P[i].rows.filter (meansB x.kd x.kk)).length dr) (P[i].rows.filter (meansB x.kd x.kk)) * (StO (.slice v P'.length d) P' * R)) := by
  have hrl := hrows _ (List.getElem_mem hi)
  have b5 : (x.kind == 5) = false := by rw [hk]; rfl
  have b1 : (x.kind == 1) = true := by rw [hk]; rfl
  have bi : ((i : Int) == -1) = false := by simp
  obtain ⟨fr, hfr⟩ : ∃ fr, P[i].rows.filter (meansB x.kd x.kk) = fr := ⟨_, rfl⟩
  rw [hfr]
  have HFR := Lib.hid hfr
  clear hfr
  have HK := Lib.hid hk
  clear hk
  (
    have h0 := h.alloc (.cells #[.int .i64 x.kind, .string x.tb, .int .i64 x.kk, .int .i64 x.vv, .bool x.kd] 24)
    obtain ⟨kind, tb, kk, vv, kd⟩ := x
    simp only at h0 hf ⊢
    have D1 := Lib.hid (fun w R' (hm : ∀ w', Sat k w' R' → Sat k w' R) h => scopy_any k w R' a c P (hr.mono hm) (by omega) hrows h)
    have HF := Lib.hid hf
    clear hr h hf hrows
    go_enter Try.func20, Try.ntmps20
    go_upto_region 1 with fail
    generalize w.alloc (.cells #[.int .i64 kind, .string tb, .int .i64 kk, .int .i64 vv, .bool kd] 24) = w0 at *
    generalize w.heap.size = o at *
    go_upto_region 2 with (go_at_call 24; (refine (D1.out _ _ (fun _ q => q.drop) h0).mono ?_); rintro e w1 ⟨v, d, P', rfl, hpp, h1⟩)
    have HPP := Lib.hid hpp
    have HLL := Lib.hid (pairs_len hpp)
    have e1 : w1.cell? ⟨o, 1, none⟩ = some (.string tb) := h1.swap.cell 1
    have C2 := sfind_any k w1 _ v d P' tb (rds_own h1) (by have := HLL.out; omega) h1
    rw [findI_pairs P' P tb 0 hpp, HF.out] at C2
    have D3 := Lib.hid C2
    clear C2 hpp h0 D1
    go_upto_region 3 with (go_at_call 17; (refine (D3.out).mono ?_); rintro e w2 ⟨rfl, h2⟩)
    have e0 : w2.cell? ⟨o, 0, none⟩ = some (.int .i64 kind) := h2.swap.cell 0
    have f1 : w2.cell? ⟨o, 1, none⟩ = some (.string tb) := h2.swap.cell 1
    clear D3 e1)
  (
    have hi' : i < P'.length := by have := HLL.out; omega
    have hiI' : (i : Int) < P'.length := by omega
    have hpi : P'[i].p = P[i].p := by
      have e1 : (pairs P')[i]? = (pairs P)[i]? := by rw [HPP.out]
      unfold pairs at e1
      rw [List.getElem?_map, List.getElem?_map, List.getElem?_eq_getElem hi', List.getElem?_eq_getElem hi] at e1
      exact Option.some.inj e1
    have hnm : P'[i].nm = P[i].nm := congrArg Prod.fst hpi
    have hro : P'[i].rows = P[i].rows := congrArg Prod.snd hpi
    have HNM := Lib.hid hnm
    rw [← hro] at hrl
    obtain ⟨q, hq⟩ : ∃ q, P'[i] = q := ⟨_, rfl⟩
    have HQI := Lib.hid hq
    rw [hq] at hrl hro
    obtain ⟨pn, pa, pc, pr⟩ := q
    simp only at hrl hro
    have HRO := Lib.hid hro
    obtain ⟨g, hg, _, _⟩ := rec_get (h2.of_eq (show _ = RecS ETb 43 (.slice v P'.length d) P' * (stars tbR P' * (blk o (cmO ⟨kind, tb, kk, vv, kd⟩) * R)) by unfold StO; rw [star_assoc])) (by decide) i hi'
    subst hg
    clear hpi hnm hro hq)
  have hfr : pr.filter (meansB kd kk) = fr := by rw [HRO.out]; exact HFR.out
  obtain ⟨Pz, hP, h3⟩ : ∃ Pz, Pz = _ ∧ Sat k w2 Pz := ⟨_, rfl, h2⟩
  have HDD : Hid (∀ {w' : World}, Sat k w' Pz → w'.cell? ⟨o, 0, none⟩ = some (.int .i64 kind) ∧ w'.cell? ⟨o, 1, none⟩ = some (.string tb) ∧ w'.cell? ⟨o, 2, none⟩ = some (.int .i64 kk) ∧ w'.cell? ⟨o, 3, none⟩ = some (.int .i64 vv) ∧ w'.cell? ⟨o, 4, none⟩ = some (.bool kd) ∧ w'.cell? ⟨g, i * 2 + 1, none⟩ = some (.slice pa pr.length pc)) := by
    unfold Hid
    intro w' q
    rw [hP] at q
    refine ⟨q.swap.cell 0, q.swap.cell 1, q.swap.cell 2, q.swap.cell 3, q.swap.cell 4, ?_⟩
    obtain ⟨g', hg', _, hc'⟩ := rec_get (q.of_eq (show _ = RecS ETb 43 (.slice (some ⟨g, 0, none⟩) P'.length d) P' * (stars tbR P' * (blk o (cmO ⟨kind, tb, kk, vv, kd⟩) * R)) by unfold StO; rw [star_assoc])) (by decide) i hi'
    simp only [Option.some.injEq, Addr.mk.injEq, and_true] at hg'
    subst hg'
    have := hc' 1 (by decide)
    rw [HQI.out] at this
    exact this
  have RRD : RdR k Pz pa pr := by
    rw [hP]
    have := (rds_own h2).2 P'[i] (List.getElem_mem hi')
    rw [HQI.out] at this
    exact this
  have HQF : Hid (∀ {w' : World} {F G : Assn}, Sat k w' (F * (G * Pz)) → Sat k w' (F * (StO (.slice (some ⟨g, 0, none⟩) P'.length d) P' * R))) := by
    unfold Hid
    intro w' F G q
    rw [hP] at q
    exact (q.swap.drop.get3.drop).of_eq rfl
  have D5 := Lib.hid (fun (o2 : Nat) w' q => some_of k w' Pz pa pc pr o2 ⟨kind, tb, kk, vv, kd⟩ RRD hrl q)
  simp only [hfr] at D5
  have D6 := Lib.hid (fun w' q => of_any8 k w' Pz ⟨kind, tb, kk, vv, kd⟩ q)
  clear h2 hP RRD hfr e0 f1
  obtain ⟨c0, _, _, _, _, _⟩ := HDD.out h3
  go_upto_region 13 with fail
  clear c0
  go_region_held3 (fun w' => w'.cell? ⟨o, 0, none⟩ = some (.int .i64 kind) ∧ w'.cell? ⟨o, 1, none⟩ = some (.string tb) ∧ w'.cell? ⟨o, 2, none⟩ = some (.int .i64 kk) ∧ w'.cell? ⟨o, 3, none⟩ = some (.int .i64 vv) ∧ w'.cell? ⟨o, 4, none⟩ = some (.bool kd) ∧ w'.cell? ⟨g, i * 2 + 1, none⟩ = some (.slice pa pr.length pc)) (first | exact HDD.out (by assumption) | exact HDD.out (Sat.drop (by assumption)) | exact HDD.out (Sat.drop (Sat.drop (by assumption))) | fail) (first | (go_at_call 39; (with_reducible refine (D5.out _ _ (by first | assumption | exact Sat.drew (by assumption))).mono ?_); rintro e w4 ⟨v4, d4, rfl, h4⟩) | (go_at_call 40; (with_reducible refine (D6.out _ (by first | assumption | exact Sat.drew (by assumption))).mono ?_); rintro e w5 ⟨o2, rfl, h5⟩) | fail)
  all_goals
    go_wp2_with fail
    go_ret3
    exact ⟨some ⟨g, 0, none⟩, d, P', v4, d4, rfl, HPP.out, HQF.out h4⟩

end Go.Proofs.Ytoeepbjnbgpmpaa

namespace Go.Proofs.Ytoeepbjnbgpmpaa
set_option linter.all false
open Go Go.RowKit

def RiseR (l : List Rw2) : Prop := l.Pairwise fun a b => a.1 < b.1
theorem hadR_cons (kk : Int) (y : Rw2) (r : List Rw2) : hadR kk (y :: r) = if y.1 = kk then y :: hadR kk r else hadR kk r := by
  unfold hadR
  rw [List.filter_cons]
  unfold meansB
  by_cases h : y.1 = kk <;> simp [h]
theorem hadR_gt (kk : Int) : ∀ (l : List Rw2), (∀ y ∈ l, kk < y.1) → hadR kk l = []
  | [], _ => rfl
  | y :: r, h => by
    rw [hadR_cons, if_neg (by have := h y (by simp); omega)]
    exact hadR_gt kk r fun z hz => h z (by simp [hz])
theorem placeN_cons (kk : Int) (y : Rw2) (r : List Rw2) : placeN (y :: r) kk = if y.1 < kk then placeN r kk + 1 else 0 := by
  unfold placeN
  rw [List.takeWhile_cons]
  by_cases h : y.1 < kk
  · rw [if_pos (decide_eq_true h), if_pos h, List.length_cons]
  · rw [if_neg (by simpa using h), if_neg h]; rfl
theorem had_place (kk : Int) : ∀ (l : List Rw2), RiseR l → (placeB l kk = false → hadR kk l = []) ∧ (placeB l kk = true → ∃ hn : placeN l kk < l.length, hadR kk l = [l[placeN l kk]] ∧ l[placeN l kk].1 = kk)
  | [], _ => ⟨fun _ => rfl, fun h => by cases h⟩
  | y :: r, h => by
    obtain ⟨h1, h2⟩ := List.pairwise_cons.1 h
    rw [placeB]
    by_cases hk : kk ≤ y.1
    · rw [if_pos hk, hadR_cons]
      have hN : placeN (y :: r) kk = 0 := by rw [placeN_cons, if_neg (by omega)]
      constructor
      · intro e
        rw [if_neg (of_decide_eq_false e)]
        exact hadR_gt kk r fun z hz => by have := h1 z hz; omega
      · intro e
        have e' := of_decide_eq_true e
        rw [if_pos e']
        refine ⟨by rw [hN]; simp, ?_, ?_⟩
        · rw [hadR_gt kk r fun z hz => by have := h1 z hz; omega]
          simp only [hN, List.getElem_cons_zero]
        · simp only [hN, List.getElem_cons_zero]; exact e'
    · rw [if_neg hk, hadR_cons, if_neg (by omega)]
      have hN : placeN (y :: r) kk = placeN r kk + 1 := by rw [placeN_cons, if_pos (by omega)]
      obtain ⟨i1, i2⟩ := had_place kk r h2
      refine ⟨i1, fun e => ?_⟩
      obtain ⟨hn, e1, e2⟩ := i2 e
      refine ⟨by rw [hN]; simp; exact hn, ?_, ?_⟩
      · simp only [hN, List.getElem_cons_succ]; exact e1
      · simp only [hN, List.getElem_cons_succ]; exact e2
theorem placeI_zero (l : List Rw2) (kk : Int) : placeI l kk 0 = (placeN l kk : Int) := by
  rw [placeI_split]; unfold placeN; omega
theorem placeN_le (l : List Rw2) (kk : Int) : placeN l kk ≤ l.length := (List.takeWhile_sublist _).length_le

theorem sput_any (k : Env) (w : World) (R : Assn) (g d : Nat) (P : List TbM) (i : Nat) (x : CmdM) (hk : x.kind = 2) (hi : i < P.length) (hl : P[i].rows.length ≤ 1000000) (hs : RiseR P[i].rows) (h : Sat k w (StO (.slice (some ⟨g, 0, none⟩) P.length d) P * R)) :
    Calls Try.prog 41 #[.pointer (some ⟨g, i * 2, none⟩), cmV x] w fun e w' => ∃ a' c', e = .returned (.int .i64 (changeR x P[i].rows).2) ∧ Sat k w' (StO (.slice (some ⟨g, 0, none⟩) P.length d) (P.set i ⟨P[i].nm, a', c', (changeR x P[i].rows).1⟩) * R) := by
  obtain ⟨i1, i2⟩ := had_place x.kk _ hs
  unfold changeR
  rw [if_pos hk]
  cases hb : placeB P[i].rows x.kk with
  | true =>
    obtain ⟨hn, e1, e2⟩ := i2 hb
    obtain ⟨_, e3⟩ := putR_had P[i].rows x.kk x.vv hb
    rw [if_neg (by rw [e1]; simp)]
    refine (sput_had k w R g d P i x hi hl hb _ (placeI_zero _ _) hn h).mono ?_
    rintro e w' ⟨rfl, h1⟩
    refine ⟨P[i].a, P[i].c, rfl, ?_⟩
    simp only
    rw [e3]
    rw [e2] at h1
    exact h1
  | false =>
    rw [i1 hb]
    by_cases h64 : 64 ≤ P[i].rows.length
    · rw [if_pos ⟨rfl, h64⟩]
      refine (sput_full k w R g d P i x hi hl hb h64 h).mono ?_
      rintro e w' ⟨rfl, h1⟩
      exact ⟨P[i].a, P[i].c, rfl, by simp only; rw [List.set_getElem_self]; exact h1⟩
    · rw [if_neg (fun q => h64 q.2)]
      refine (sput_new k w R g d P i x hi (by omega) hb _ (placeI_zero _ _) (placeN_le _ _) h).mono ?_
      rintro e w' ⟨a', c', rfl, h1⟩
      exact ⟨a', c', rfl, by simp only; rw [putR_new _ _ _ hb]; exact h1⟩
theorem sadd_any (k : Env) (w : World) (R : Assn) (g d : Nat) (P : List TbM) (i : Nat) (x : CmdM) (hk : x.kind = 3) (hi : i < P.length) (hl : P[i].rows.length ≤ 1000000) (hs : RiseR P[i].rows) (hv : ∀ y ∈ P[i].rows, 0 ≤ y.2) (h : Sat k w (StO (.slice (some ⟨g, 0, none⟩) P.length d) P * R)) :
    Calls Try.prog 42 #[.pointer (some ⟨g, i * 2, none⟩), cmV x] w fun e w' => ∃ a' c', e = .returned (.int .i64 (changeR x P[i].rows).2) ∧ Sat k w' (StO (.slice (some ⟨g, 0, none⟩) P.length d) (P.set i ⟨P[i].nm, a', c', (changeR x P[i].rows).1⟩) * R) := by
  obtain ⟨i1, i2⟩ := had_place x.kk _ hs
  unfold changeR
  rw [if_neg (by omega), if_pos hk]
  cases hb : placeB P[i].rows x.kk with
  | true =>
    obtain ⟨hn, e1, e2⟩ := i2 hb
    rw [e1]
    simp only
    by_cases hbig : 999999 ≤ (P[i].rows[placeN P[i].rows x.kk]).2
    · rw [if_pos hbig]
      refine (sadd_big k w R g d P i x hi hl hb _ (placeI_zero _ _) hn hbig h).mono ?_
      rintro e w' ⟨rfl, h1⟩
      exact ⟨P[i].a, P[i].c, rfl, by simp only; rw [List.set_getElem_self]; exact h1⟩
    · rw [if_neg hbig]
      obtain ⟨_, e3⟩ := putR_had P[i].rows x.kk ((P[i].rows[placeN P[i].rows x.kk]).2 + 1) hb
      refine (sadd_ok k w R g d P i x hi hl hb _ (placeI_zero _ _) hn hbig (hv _ (List.getElem_mem hn)) h).mono ?_
      rintro e w' ⟨rfl, h1⟩
      refine ⟨P[i].a, P[i].c, rfl, ?_⟩
      simp only
      rw [e3]
      rw [e2] at h1
      exact h1
  | false =>
    rw [i1 hb]
    refine (sadd_no k w R g d P i x hi hl hb h).mono ?_
    rintro e w' ⟨rfl, h1⟩
    exact ⟨P[i].a, P[i].c, rfl, by simp only; rw [List.set_getElem_self]; exact h1⟩

end Go.Proofs.Ytoeepbjnbgpmpaa

namespace Go.Proofs.Ytoeepbjnbgpmpaa
set_option linter.all false
open Go Go.RowKit




set_option maxRecDepth 100000 in
set_option maxHeartbeats 8000000 in
theorem sdo_put (k : Env) (w : World) (R : Assn) (a : Option Addr) (c : Nat) (P : List TbM) (x : CmdM) (hk : x.kind = 2) (i : Nat) (hi : i < P.length) (hf : findI P x.tb 0 = i) (hr : RdS k R a P) (hn : P.length ≤ 1000) (hrows : ∀ p ∈ P, p.rows.length ≤ 1000000) (hs : RiseR P[i].rows) (h : Sat k w R) :
    Calls Try.prog 20 #[.slice a P.length c, cmV x] w fun e w' => ∃ v d P', e = .returned (.tuple #[.slice v P'.length d, .slice none 0 0, .int .i64 (changeR x P[i].rows).2]) ∧ pairs P' = (pairs P).set i (P[i].nm, (changeR x P[i].rows).1) ∧ Sat k w' (StO (.slice v P'.length d) P' * R) := by
  (
    have hrl := hrows _ (List.getElem_mem hi)
    have b5 : (x.kind == 5) = false := by simp; omega
    have b1 : (x.kind == 1) = false := by simp; omega
    have bi : ((i : Int) == -1) = false := by simp
    obtain ⟨cr, hcr⟩ : ∃ cr, changeR x P[i].rows = cr := ⟨_, rfl⟩
    obtain ⟨nm, hnm⟩ : ∃ nm, P[i].nm = nm := ⟨_, rfl⟩
    rw [hcr, hnm]
    have HCR := Lib.hid hcr
    have HNP := Lib.hid hnm
    clear hcr hnm)
  have b2 : (x.kind == 2) = true := by rw [hk]; rfl
  have HK := Lib.hid hk
  have HSR := Lib.hid hs
  clear hk hs
  (
    have h0 := h.alloc (.cells #[.int .i64 x.kind, .string x.tb, .int .i64 x.kk, .int .i64 x.vv, .bool x.kd] 24)
    obtain ⟨kind, tb, kk, vv, kd⟩ := x
    simp only at h0 hf ⊢
    have D1 := Lib.hid (fun w R' (hm : ∀ w', Sat k w' R' → Sat k w' R) h => scopy_any k w R' a c P (hr.mono hm) (by omega) hrows h)
    have HF := Lib.hid hf
    clear hr h hf hrows
    go_enter Try.func20, Try.ntmps20
    go_upto_region 1 with fail
    generalize w.alloc (.cells #[.int .i64 kind, .string tb, .int .i64 kk, .int .i64 vv, .bool kd] 24) = w0 at *
    generalize w.heap.size = o at *
    go_upto_region 2 with (go_at_call 24; (refine (D1.out _ _ (fun _ q => q.drop) h0).mono ?_); rintro e w1 ⟨v, d, P', rfl, hpp, h1⟩)
    have HPP := Lib.hid hpp
    have HLL := Lib.hid (pairs_len hpp)
    have e1 : w1.cell? ⟨o, 1, none⟩ = some (.string tb) := h1.swap.cell 1
    have C2 := sfind_any k w1 _ v d P' tb (rds_own h1) (by have := HLL.out; omega) h1
    rw [findI_pairs P' P tb 0 hpp, HF.out] at C2
    have D3 := Lib.hid C2
    clear C2 hpp h0 D1
    go_upto_region 3 with (go_at_call 17; (refine (D3.out).mono ?_); rintro e w2 ⟨rfl, h2⟩)
    have e0 : w2.cell? ⟨o, 0, none⟩ = some (.int .i64 kind) := h2.swap.cell 0
    have f1 : w2.cell? ⟨o, 1, none⟩ = some (.string tb) := h2.swap.cell 1
    clear D3 e1)
  (
    have hi' : i < P'.length := by have := HLL.out; omega
    have hiI' : (i : Int) < P'.length := by omega
    have hpi : P'[i].p = P[i].p := by
      have e1 : (pairs P')[i]? = (pairs P)[i]? := by rw [HPP.out]
      unfold pairs at e1
      rw [List.getElem?_map, List.getElem?_map, List.getElem?_eq_getElem hi', List.getElem?_eq_getElem hi] at e1
      exact Option.some.inj e1
    have hnm : P'[i].nm = P[i].nm := congrArg Prod.fst hpi
    have hro : P'[i].rows = P[i].rows := congrArg Prod.snd hpi
    have HNM := Lib.hid hnm
    rw [← hro] at hrl
    obtain ⟨q, hq⟩ : ∃ q, P'[i] = q := ⟨_, rfl⟩
    have HQI := Lib.hid hq
    rw [hq] at hrl hro
    obtain ⟨pn, pa, pc, pr⟩ := q
    simp only at hrl hro
    have HRO := Lib.hid hro
    obtain ⟨g, hg, _, _⟩ := rec_get (h2.of_eq (show _ = RecS ETb 43 (.slice v P'.length d) P' * (stars tbR P' * (blk o (cmO ⟨kind, tb, kk, vv, kd⟩) * R)) by unfold StO; rw [star_assoc])) (by decide) i hi'
    subst hg
    clear hpi hnm hro hq)
  have D := sput_any k w2 _ g d P' i ⟨kind, tb, kk, vv, kd⟩ HK.out hi' (by rw [HQI.out]; exact hrl) (by rw [HQI.out]; show RiseR pr; rw [HRO.out]; exact HSR.out) h2
  have hcr2 : changeR ⟨kind, tb, kk, vv, kd⟩ P'[i].rows = cr := by rw [HQI.out]; show changeR _ pr = cr; rw [HRO.out]; exact HCR.out
  rw [hcr2] at D
  (
    have HPS : Hid (∀ (a' : Option Addr) (c' : Nat), pairs (P'.set i ⟨P'[i].nm, a', c', cr.1⟩) = (pairs P).set i (nm, cr.1)) := by
      unfold Hid
      intro a' c'
      rw [HNM.out, HNP.out, ← HPP.out]
      unfold pairs
      rw [List.map_set]; rfl)
  have D4 := Lib.hid D
  (
    obtain ⟨c0, c1, c2, c3, c4⟩ : w2.cell? ⟨o, 0, none⟩ = some (.int .i64 kind) ∧ w2.cell? ⟨o, 1, none⟩ = some (.string tb) ∧ w2.cell? ⟨o, 2, none⟩ = some (.int .i64 kk) ∧ w2.cell? ⟨o, 3, none⟩ = some (.int .i64 vv) ∧ w2.cell? ⟨o, 4, none⟩ = some (.bool kd) := ⟨h2.swap.cell 0, h2.swap.cell 1, h2.swap.cell 2, h2.swap.cell 3, h2.swap.cell 4⟩)
  clear D hcr2 e0 f1
  go_wp2_with (go_at_call 41; (with_reducible refine (D4.out).mono ?_); rintro e w3 ⟨a', c', rfl, h3⟩)
  go_ret3
  exact ⟨some ⟨g, 0, none⟩, d, P'.set i ⟨P'[i].nm, a', c', cr.1⟩, by rw [List.length_set]; rfl, HPS.out a' c', by rw [List.length_set]; exact h3.swap.drop⟩

set_option maxRecDepth 100000 in
set_option maxHeartbeats 8000000 in
theorem sdo_add (k : Env) (w : World) (R : Assn) (a : Option Addr) (c : Nat) (P : List TbM) (x : CmdM) (hk : x.kind = 3) (i : Nat) (hi : i < P.length) (hf : findI P x.tb 0 = i) (hr : RdS k R a P) (hn : P.length ≤ 1000) (hrows : ∀ p ∈ P, p.rows.length ≤ 1000000) (hs : RiseR P[i].rows) (hv : ∀ y ∈ P[i].rows, 0 ≤ y.2) (h : Sat k w R) :
    Calls Try.prog 20 #[.slice a P.length c, cmV x] w fun e w' => ∃ v d P', e = .returned (.tuple #[.slice v P'.length d, .slice none 0 0, .int .i64 (changeR x P[i].rows).2]) ∧ pairs P' = (pairs P).set i (P[i].nm, (changeR x P[i].rows).1) ∧ Sat k w' (StO (.slice v P'.length d) P' * R) := by
  (
    have hrl := hrows _ (List.getElem_mem hi)
    have b5 : (x.kind == 5) = false := by simp; omega
    have b1 : (x.kind == 1) = false := by simp; omega
    have bi : ((i : Int) == -1) = false := by simp
    obtain ⟨cr, hcr⟩ : ∃ cr, changeR x P[i].rows = cr := ⟨_, rfl⟩
    obtain ⟨nm, hnm⟩ : ∃ nm, P[i].nm = nm := ⟨_, rfl⟩
    rw [hcr, hnm]
    have HCR := Lib.hid hcr
    have HNP := Lib.hid hnm
    clear hcr hnm)
  have b2 : (x.kind == 2) = false := by rw [hk]; rfl
  have b3 : (x.kind == 3) = true := by rw [hk]; rfl
  have HK := Lib.hid hk
  have HSR := Lib.hid hs
  have HV := Lib.hid hv
  clear hk hs hv
  (
    have h0 := h.alloc (.cells #[.int .i64 x.kind, .string x.tb, .int .i64 x.kk, .int .i64 x.vv, .bool x.kd] 24)
    obtain ⟨kind, tb, kk, vv, kd⟩ := x
    simp only at h0 hf ⊢
    have D1 := Lib.hid (fun w R' (hm : ∀ w', Sat k w' R' → Sat k w' R) h => scopy_any k w R' a c P (hr.mono hm) (by omega) hrows h)
    have HF := Lib.hid hf
    clear hr h hf hrows
    go_enter Try.func20, Try.ntmps20
    go_upto_region 1 with fail
    generalize w.alloc (.cells #[.int .i64 kind, .string tb, .int .i64 kk, .int .i64 vv, .bool kd] 24) = w0 at *
    generalize w.heap.size = o at *
    go_upto_region 2 with (go_at_call 24; (refine (D1.out _ _ (fun _ q => q.drop) h0).mono ?_); rintro e w1 ⟨v, d, P', rfl, hpp, h1⟩)
    have HPP := Lib.hid hpp
    have HLL := Lib.hid (pairs_len hpp)
    have e1 : w1.cell? ⟨o, 1, none⟩ = some (.string tb) := h1.swap.cell 1
    have C2 := sfind_any k w1 _ v d P' tb (rds_own h1) (by have := HLL.out; omega) h1
    rw [findI_pairs P' P tb 0 hpp, HF.out] at C2
    have D3 := Lib.hid C2
    clear C2 hpp h0 D1
    go_upto_region 3 with (go_at_call 17; (refine (D3.out).mono ?_); rintro e w2 ⟨rfl, h2⟩)
    have e0 : w2.cell? ⟨o, 0, none⟩ = some (.int .i64 kind) := h2.swap.cell 0
    have f1 : w2.cell? ⟨o, 1, none⟩ = some (.string tb) := h2.swap.cell 1
    clear D3 e1)
  (
    have hi' : i < P'.length := by have := HLL.out; omega
    have hiI' : (i : Int) < P'.length := by omega
    have hpi : P'[i].p = P[i].p := by
      have e1 : (pairs P')[i]? = (pairs P)[i]? := by rw [HPP.out]
      unfold pairs at e1
      rw [List.getElem?_map, List.getElem?_map, List.getElem?_eq_getElem hi', List.getElem?_eq_getElem hi] at e1
      exact Option.some.inj e1
    have hnm : P'[i].nm = P[i].nm := congrArg Prod.fst hpi
    have hro : P'[i].rows = P[i].rows := congrArg Prod.snd hpi
    have HNM := Lib.hid hnm
    rw [← hro] at hrl
    obtain ⟨q, hq⟩ : ∃ q, P'[i] = q := ⟨_, rfl⟩
    have HQI := Lib.hid hq
    rw [hq] at hrl hro
    obtain ⟨pn, pa, pc, pr⟩ := q
    simp only at hrl hro
    have HRO := Lib.hid hro
    obtain ⟨g, hg, _, _⟩ := rec_get (h2.of_eq (show _ = RecS ETb 43 (.slice v P'.length d) P' * (stars tbR P' * (blk o (cmO ⟨kind, tb, kk, vv, kd⟩) * R)) by unfold StO; rw [star_assoc])) (by decide) i hi'
    subst hg
    clear hpi hnm hro hq)
  have D := sadd_any k w2 _ g d P' i ⟨kind, tb, kk, vv, kd⟩ HK.out hi' (by rw [HQI.out]; exact hrl) (by rw [HQI.out]; show RiseR pr; rw [HRO.out]; exact HSR.out) (by rw [HQI.out]; show ∀ y ∈ pr, 0 ≤ y.2; rw [HRO.out]; exact HV.out) h2
  have hcr2 : changeR ⟨kind, tb, kk, vv, kd⟩ P'[i].rows = cr := by rw [HQI.out]; show changeR _ pr = cr; rw [HRO.out]; exact HCR.out
  rw [hcr2] at D
  (
    have HPS : Hid (∀ (a' : Option Addr) (c' : Nat), pairs (P'.set i ⟨P'[i].nm, a', c', cr.1⟩) = (pairs P).set i (nm, cr.1)) := by
      unfold Hid
      intro a' c'
      rw [HNM.out, HNP.out, ← HPP.out]
      unfold pairs
      rw [List.map_set]; rfl)
  have D4 := Lib.hid D
  (
    obtain ⟨c0, c1, c2, c3, c4⟩ : w2.cell? ⟨o, 0, none⟩ = some (.int .i64 kind) ∧ w2.cell? ⟨o, 1, none⟩ = some (.string tb) ∧ w2.cell? ⟨o, 2, none⟩ = some (.int .i64 kk) ∧ w2.cell? ⟨o, 3, none⟩ = some (.int .i64 vv) ∧ w2.cell? ⟨o, 4, none⟩ = some (.bool kd) := ⟨h2.swap.cell 0, h2.swap.cell 1, h2.swap.cell 2, h2.swap.cell 3, h2.swap.cell 4⟩)
  clear D hcr2 e0 f1
  go_wp2_with (go_at_call 42; (with_reducible refine (D4.out).mono ?_); rintro e w3 ⟨a', c', rfl, h3⟩)
  go_ret3
  exact ⟨some ⟨g, 0, none⟩, d, P'.set i ⟨P'[i].nm, a', c', cr.1⟩, by rw [List.length_set]; rfl, HPS.out a' c', by rw [List.length_set]; exact h3.swap.drop⟩

set_option maxRecDepth 100000 in
set_option maxHeartbeats 8000000 in
theorem sdo_del (k : Env) (w : World) (R : Assn) (a : Option Addr) (c : Nat) (P : List TbM) (x : CmdM) (hk : x.kind ≠ 5 ∧ x.kind ≠ 1 ∧ x.kind ≠ 2 ∧ x.kind ≠ 3) (i : Nat) (hi : i < P.length) (hf : findI P x.tb 0 = i) (hr : RdS k R a P) (hn : P.length ≤ 1000) (hrows : ∀ p ∈ P, p.rows.length ≤ 1000000) (h : Sat k w R) :
    Calls Try.prog 20 #[.slice a P.length c, cmV x] w fun e w' => ∃ v d P', e = .returned (.tuple #[.slice v P'.length d, .slice none 0 0, .int .i64 (changeR x P[i].rows).2]) ∧ pairs P' = (pairs P).set i (P[i].nm, (changeR x P[i].rows).1) ∧ Sat k w' (StO (.slice v P'.length d) P' * R) := by
  have hch : changeR x P[i].rows = (P[i].rows.filter (leftB x.kd x.kk), 0) := by
    unfold changeR; rw [if_neg hk.2.2.1, if_neg hk.2.2.2]
  rw [hch]
  obtain ⟨fr, hfr⟩ : ∃ fr, P[i].rows.filter (leftB x.kd x.kk) = fr := ⟨_, rfl⟩
  rw [hfr]
  have HFR := Lib.hid hfr
  clear hfr hch
  have hrl := hrows _ (List.getElem_mem hi)
  have b5 : (x.kind == 5) = false := by simp; omega
  have b1 : (x.kind == 1) = false := by simp; omega
  have b2 : (x.kind == 2) = false := by simp; omega
  have b3 : (x.kind == 3) = false := by simp; omega
  have bi : ((i : Int) == -1) = false := by simp
  obtain ⟨nm, hnm⟩ : ∃ nm, P[i].nm = nm := ⟨_, rfl⟩
  rw [hnm]
  have HNP := Lib.hid hnm
  clear hnm hk
  (
    have h0 := h.alloc (.cells #[.int .i64 x.kind, .string x.tb, .int .i64 x.kk, .int .i64 x.vv, .bool x.kd] 24)
    obtain ⟨kind, tb, kk, vv, kd⟩ := x
    simp only at h0 hf ⊢
    have D1 := Lib.hid (fun w R' (hm : ∀ w', Sat k w' R' → Sat k w' R) h => scopy_any k w R' a c P (hr.mono hm) (by omega) hrows h)
    have HF := Lib.hid hf
    clear hr h hf hrows
    go_enter Try.func20, Try.ntmps20
    go_upto_region 1 with fail
    generalize w.alloc (.cells #[.int .i64 kind, .string tb, .int .i64 kk, .int .i64 vv, .bool kd] 24) = w0 at *
    generalize w.heap.size = o at *
    go_upto_region 2 with (go_at_call 24; (refine (D1.out _ _ (fun _ q => q.drop) h0).mono ?_); rintro e w1 ⟨v, d, P', rfl, hpp, h1⟩)
    have HPP := Lib.hid hpp
    have HLL := Lib.hid (pairs_len hpp)
    have e1 : w1.cell? ⟨o, 1, none⟩ = some (.string tb) := h1.swap.cell 1
    have C2 := sfind_any k w1 _ v d P' tb (rds_own h1) (by have := HLL.out; omega) h1
    rw [findI_pairs P' P tb 0 hpp, HF.out] at C2
    have D3 := Lib.hid C2
    clear C2 hpp h0 D1
    go_upto_region 3 with (go_at_call 17; (refine (D3.out).mono ?_); rintro e w2 ⟨rfl, h2⟩)
    have e0 : w2.cell? ⟨o, 0, none⟩ = some (.int .i64 kind) := h2.swap.cell 0
    have f1 : w2.cell? ⟨o, 1, none⟩ = some (.string tb) := h2.swap.cell 1
    clear D3 e1)
  (
    have hi' : i < P'.length := by have := HLL.out; omega
    have hiI' : (i : Int) < P'.length := by omega
    have hpi : P'[i].p = P[i].p := by
      have e1 : (pairs P')[i]? = (pairs P)[i]? := by rw [HPP.out]
      unfold pairs at e1
      rw [List.getElem?_map, List.getElem?_map, List.getElem?_eq_getElem hi', List.getElem?_eq_getElem hi] at e1
      exact Option.some.inj e1
    have hnm : P'[i].nm = P[i].nm := congrArg Prod.fst hpi
    have hro : P'[i].rows = P[i].rows := congrArg Prod.snd hpi
    have HNM := Lib.hid hnm
    rw [← hro] at hrl
    obtain ⟨q, hq⟩ : ∃ q, P'[i] = q := ⟨_, rfl⟩
    have HQI := Lib.hid hq
    rw [hq] at hrl hro
    obtain ⟨pn, pa, pc, pr⟩ := q
    simp only at hrl hro
    have HRO := Lib.hid hro
    obtain ⟨g, hg, _, _⟩ := rec_get (h2.of_eq (show _ = RecS ETb 43 (.slice v P'.length d) P' * (stars tbR P' * (blk o (cmO ⟨kind, tb, kk, vv, kd⟩) * R)) by unfold StO; rw [star_assoc])) (by decide) i hi'
    subst hg
    clear hpi hnm hro hq)
  have hfr : pr.filter (leftB kd kk) = fr := by rw [HRO.out]; exact HFR.out
  have HPS : Hid (∀ (a' : Option Addr) (c' : Nat), pairs (P'.set i ⟨P'[i].nm, a', c', fr⟩) = (pairs P).set i (nm, fr)) := by
    unfold Hid
    intro a' c'
    rw [HNM.out, HNP.out, ← HPP.out]
    unfold pairs
    rw [List.map_set]; rfl
  (
    obtain ⟨c0, c1, c2, c3, c4⟩ : w2.cell? ⟨o, 0, none⟩ = some (.int .i64 kind) ∧ w2.cell? ⟨o, 1, none⟩ = some (.string tb) ∧ w2.cell? ⟨o, 2, none⟩ = some (.int .i64 kk) ∧ w2.cell? ⟨o, 3, none⟩ = some (.int .i64 vv) ∧ w2.cell? ⟨o, 4, none⟩ = some (.bool kd) := ⟨h2.swap.cell 0, h2.swap.cell 1, h2.swap.cell 2, h2.swap.cell 3, h2.swap.cell 4⟩)
  have D6 := Lib.hid (of_any8 k w2 _ ⟨kind, tb, kk, vv, kd⟩ h2)
  have hmf : ∀ (fn : Fn) (first cap : Array Value) (w : World), (Instr.makeFunc fn first cap).run Try.prog w = .ok (.func fn first cap) w := fun _ _ _ _ => rfl
  clear e0 f1
  go_upto_region 18 with fail
  go_upto_region 19 with (go_at_call 40; (with_reducible refine (D6.out).mono ?_); rintro e w5 ⟨o2, rfl, h5⟩; have h6 := h5.alloc (fnO o2))
  clear h2 D6 c0 c1 c2 c3 c4 h5
  generalize w5.alloc (fnO o2) = w6 at *
  generalize w5.heap.size = g6 at *
  obtain ⟨F, hF1, hF2⟩ := sto_split hi'
  rw [HQI.out] at hF1
  have HF1 := Lib.hid hF1
  have HF2 := Lib.hid hF2
  obtain ⟨Z, hZ⟩ : ∃ Z, Z = (StO (.slice (some ⟨g, 0, none⟩) P'.length d) P' * (blk o (cmO ⟨kind, tb, kk, vv, kd⟩) * R)) := ⟨_, rfl⟩
  have HZ := Lib.hid hZ
  rw [← hZ] at h6
  have RRD : RdR k Z pa pr := by
    have h7 := h6.drop.drop
    rw [hZ] at h7 ⊢
    have := (rds_own h7).2 P'[i] (List.getElem_mem hi')
    rw [HQI.out] at this
    exact this
  have HC : Hid (∀ {w' : World}, Sat k w' Z → w'.cell? ⟨g, i * 2 + 1, none⟩ = some (.slice pa pr.length pc) ∧ w'.frozen? ⟨g, i * 2 + 1, none⟩ = false) := by
    unfold Hid
    intro w' q
    rw [hZ] at q
    have q1 : Sat k w' (RecS ETb 43 (.slice (some ⟨g, 0, none⟩) P'.length d) P' * (stars tbR P' * (blk o (cmO ⟨kind, tb, kk, vv, kd⟩) * R))) := q.of_eq (by unfold StO; rw [star_assoc])
    obtain ⟨u, hu, q2, q3, _⟩ := own_at q1 (i * 2 + 1) (by show i * 2 + 1 < P'.length * 2; omega)
    have hg := ETb.recs_get P' i 1 hi' (by decide)
    rw [HQI.out] at hg
    have : u = .slice pa pr.length pc := Option.some.inj (hu.symm.trans hg)
    rw [this] at q2
    exact ⟨q2, q3⟩
  have D := some_do k w6 Z pa pc pr g6 o2 ⟨kind, tb, kk, vv, kd⟩ RRD hrl h6
  simp only [hfr] at D
  have D7 := Lib.hid D
  obtain ⟨c5, _⟩ := HC.out h6.drop.drop
  clear hF1 hF2 hZ RRD D hfr
  go_upto_region 20 with (go_at_call 39; (with_reducible refine (D7.out).mono ?_); rintro e w7 ⟨v7, d7, rfl, h7⟩; obtain ⟨c6, c7⟩ := HC.out h7.drop.drop.drop)
  have h8 : Sat k w7 (RecS ETb 43 (.slice (some ⟨g, 0, none⟩) P'.length d) P' * (Rws (.slice v7 fr.length d7) fr * (F * R))) := by
    have h9 := h7
    rw [HZ.out] at h9
    have h10 : Sat k w7 (blk g6 (fnO o2) * (blk o2 (cmO ⟨kind, tb, kk, vv, kd⟩) * (blk o (cmO ⟨kind, tb, kk, vv, kd⟩) * (tbR ⟨pn, pa, pc, pr⟩ * (RecS ETb 43 (.slice (some ⟨g, 0, none⟩) P'.length d) P' * (Rws (.slice v7 fr.length d7) fr * (F * R))))))) := h9.of_eq (by unfold StO; rw [HF1.out]; ac_rfl)
    exact h10.drop.drop.drop.drop
  have h11 := own_set2 h8 (i * 2 + 1) (.slice v7 fr.length d7)
  have hrs : (ETb.recs P').set (i * 2 + 1) (.slice v7 fr.length d7) = ETb.recs (P'.set i ⟨P'[i].nm, v7, d7, fr⟩) := ETb.recs_set P' i 1 _ ⟨P'[i].nm, v7, d7, fr⟩ hi' (by decide) rfl
  rw [hrs] at h11
  have h12 : Sat k (w7.setCell ⟨g, i * 2 + 1, none⟩ (.slice v7 fr.length d7)) (StO (.slice (some ⟨g, 0, none⟩) P'.length d) (P'.set i ⟨P'[i].nm, v7, d7, fr⟩) * R) := by
    unfold StO RecS
    rw [HF2.out, List.length_set]
    exact h11.of_eq (by show Own 43 2 _ _ _ * (Rws (.slice v7 fr.length d7) fr * (F * R)) = Own 43 2 _ _ _ * (Rws (.slice v7 fr.length d7) fr * F) * R; ac_rfl)
  generalize w7.setCell ⟨g, i * 2 + 1, none⟩ (.slice v7 fr.length d7) = w8 at *
  clear h7 h8 h11 hrs c5 c6 c7 h6
  go_wp2_with fail
  go_ret3
  exact ⟨some ⟨g, 0, none⟩, d, P'.set i ⟨P'[i].nm, v7, d7, fr⟩, by rw [List.length_set]; rfl, HPS.out v7 d7, by rw [List.length_set]; exact h12⟩

end Go.Proofs.Ytoeepbjnbgpmpaa

namespace Go.Proofs.Ytoeepbjnbgpmpaa
set_option linter.all false
open Go Go.RowKit

def fndT : List Tb → ByteArray → Option Nat
  | [], _ => none
  | x :: r, s => if x.1 = s then some 0 else (fndT r s).map (· + 1)
theorem fndT_lt : ∀ (S : List Tb) (s : ByteArray) (i : Nat), fndT S s = some i → ∃ h : i < S.length, S[i].1 = s
  | [], _, _, h => by cases h
  | x :: r, s, i, h => by
    rw [fndT] at h
    by_cases e : x.1 = s
    · rw [if_pos e] at h
      cases h
      exact ⟨by simp, e⟩
    · rw [if_neg e] at h
      obtain ⟨j, hj, rfl⟩ := Option.map_eq_some_iff.1 h
      obtain ⟨h1, h2⟩ := fndT_lt r s j hj
      exact ⟨by simp; exact h1, by simpa using h2⟩
theorem findI_fnd : ∀ (P : List TbM) (s : ByteArray) (n : Int), findI P s n = match fndT (pairs P) s with | some i => n + i | none => -1
  | [], _, _ => rfl
  | x :: r, s, n => by
    rw [findI]
    show _ = match fndT (x.p :: pairs r) s with | some i => n + i | none => -1
    rw [fndT]
    by_cases e : x.nm = s
    · rw [if_pos e, if_pos (show x.p.1 = s from e)]; simp
    · rw [if_neg e, if_neg (show ¬ x.p.1 = s from e), findI_fnd r s (n + 1)]
      cases fndT (pairs r) s with
      | none => rfl
      | some i =>
        show n + 1 + (i : Int) = n + ((i + 1 : Nat) : Int)
        omega
/-- What a command does, and tells, and what is wrong. -/
def doT (x : CmdM) (S : List Tb) : List Tb × List Rw2 × Int :=
  if x.kind = 5 then (if (fndT S x.tb).isSome = true then (S, [], 9) else if 16 ≤ S.length then (S, [], 11) else (madeP S x.tb, [], 0))
  else match fndT S x.tb with
    | none => (S, [], 8)
    | some i => match S[i]? with
      | none => (S, [], 8)
      | some t => if x.kind = 1 then (S, t.2.filter (meansB x.kd x.kk), 0) else (S.set i (t.1, (changeR x t.2).1), [], (changeR x t.2).2)
/-- What of a state the program's Do needs. -/
def okT (S : List Tb) : Prop := S.length ≤ 16 ∧ ∀ t ∈ S, t.1.size ≤ 30 ∧ t.2.length ≤ 64 ∧ RiseR t.2 ∧ ∀ y ∈ t.2, 0 ≤ y.2 ∧ y.2 ≤ 999999
theorem okT_mem {P : List TbM} (h : okT (pairs P)) {p : TbM} (hp : p ∈ P) : p.nm.size ≤ 30 ∧ p.rows.length ≤ 64 ∧ RiseR p.rows ∧ ∀ y ∈ p.rows, 0 ≤ y.2 ∧ y.2 ≤ 999999 := h.2 p.p (List.mem_map_of_mem hp)
theorem pairs_length (P : List TbM) : (pairs P).length = P.length := List.length_map _
theorem pairs_get {P : List TbM} {i : Nat} (h : i < P.length) : (pairs P)[i]? = some (P[i].nm, P[i].rows) := by
  unfold pairs
  rw [List.getElem?_map, List.getElem?_eq_getElem h]; rfl
/-- What both tell. -/
def DoQ (k : Env) (x : CmdM) (S : List Tb) (R : Assn) (e : Ending) (w' : World) : Prop :=
  ∃ v d P' vr dr, e = .returned (.tuple #[.slice v (pairs P').length d, .slice vr (doT x S).2.1.length dr, .int .i64 (doT x S).2.2]) ∧ pairs P' = (doT x S).1 ∧ Sat k w' (Rws (.slice vr (doT x S).2.1.length dr) (doT x S).2.1 * (StO (.slice v P'.length d) P' * R))
theorem doQ_plain {k : Env} {x : CmdM} {S : List Tb} {R : Assn} {S' : List Tb} {z : Int} (hd : doT x S = (S', [], z)) {e : Ending} {w' : World} {v : Option Addr} {d : Nat} {P' : List TbM} (he : e = .returned (.tuple #[.slice v P'.length d, .slice none 0 0, .int .i64 z])) (hp : pairs P' = S') (h : Sat k w' (StO (.slice v P'.length d) P' * R)) : DoQ k x S R e w' := by
  unfold DoQ
  rw [hd]
  exact ⟨v, d, P', none, 0, by rw [he, pairs_length]; rfl, hp, own_nil h⟩
theorem doT_new {P : List TbM} {x : CmdM} (hk : x.kind = 5) : doT x (pairs P) = (newS P x.tb, [], newE P x.tb) := by
  unfold doT newS newE
  rw [if_pos hk, findI_fnd P x.tb 0, pairs_length]
  cases fndT (pairs P) x.tb with
  | none =>
    simp only [Option.isSome_none, Bool.false_eq_true, if_false]
    rw [if_neg (show ¬ (0 : Int) ≤ -1 by decide)]
    by_cases h : 16 ≤ P.length
    · rw [if_pos h, if_pos h]; rfl
    · rw [if_neg h, if_neg h]; rfl
  | some i =>
    simp only [Option.isSome_some, if_true]
    rw [if_pos (show (0 : Int) ≤ 0 + (i : Int) by omega)]; rfl
theorem doT_none {P : List TbM} {x : CmdM} (hk : x.kind ≠ 5) (hf : fndT (pairs P) x.tb = none) : doT x (pairs P) = (pairs P, [], 8) := by
  unfold doT
  rw [if_neg hk, hf]
theorem doT_some {P : List TbM} {x : CmdM} {i : Nat} (hk : x.kind ≠ 5) (hf : fndT (pairs P) x.tb = some i) (hi : i < P.length) :
    doT x (pairs P) = if x.kind = 1 then (pairs P, P[i].rows.filter (meansB x.kd x.kk), 0) else ((pairs P).set i (P[i].nm, (changeR x P[i].rows).1), [], (changeR x P[i].rows).2) := by
  unfold doT
  rw [if_neg hk, hf]
  simp only
  rw [pairs_get hi]

theorem sdo_any (k : Env) (w : World) (R : Assn) (a : Option Addr) (c : Nat) (P : List TbM) (x : CmdM) (hr : RdS k R a P) (hok : okT (pairs P)) (h : Sat k w R) :
    Calls Try.prog 20 #[.slice a P.length c, cmV x] w fun e w' => DoQ k x (pairs P) R e w' := by
  have hn : P.length ≤ 1000 := by have := hok.1; rw [pairs_length] at this; omega
  have hrows : ∀ p ∈ P, p.rows.length ≤ 1000000 := fun p hp => by have := (okT_mem hok hp).2.1; omega
  by_cases hk : x.kind = 5
  · refine (sdo_new k w R a c P x hk hr hn hrows h).mono ?_
    rintro e w' ⟨v, d, P', he, hp, h1⟩
    exact doQ_plain (doT_new hk) he hp h1
  · have hfi := findI_fnd P x.tb 0
    cases hf : fndT (pairs P) x.tb with
    | none =>
      rw [hf] at hfi
      refine (sdo_none k w R a c P x hk hfi hr hn hrows h).mono ?_
      rintro e w' ⟨v, d, P', he, hp, h1⟩
      exact doQ_plain (doT_none hk hf) he hp h1
    | some i =>
      rw [hf] at hfi
      have hfi' : findI P x.tb 0 = (i : Int) := by rw [hfi]; simp
      obtain ⟨hi, _⟩ := fndT_lt _ _ _ hf
      rw [pairs_length] at hi
      have hd := doT_some hk hf hi
      obtain ⟨_, _, hrs, hv⟩ := okT_mem hok (List.getElem_mem hi)
      by_cases k1 : x.kind = 1
      · rw [if_pos k1] at hd
        refine (sdo_get k w R a c P x k1 i hi hfi' hr hn hrows h).mono ?_
        rintro e w' ⟨v, d, P', vr, dr, he, hp, h1⟩
        unfold DoQ
        rw [hd]
        exact ⟨v, d, P', vr, dr, by rw [he, pairs_length], hp, h1⟩
      · rw [if_neg k1] at hd
        by_cases k2 : x.kind = 2
        · refine (sdo_put k w R a c P x k2 i hi hfi' hr hn hrows hrs h).mono ?_
          rintro e w' ⟨v, d, P', he, hp, h1⟩
          exact doQ_plain hd he hp h1
        · by_cases k3 : x.kind = 3
          · refine (sdo_add k w R a c P x k3 i hi hfi' hr hn hrows hrs (fun y hy => (hv y hy).1) h).mono ?_
            rintro e w' ⟨v, d, P', he, hp, h1⟩
            exact doQ_plain hd he hp h1
          · refine (sdo_del k w R a c P x ⟨hk, k1, k2, k3⟩ i hi hfi' hr hn hrows h).mono ?_
            rintro e w' ⟨v, d, P', he, hp, h1⟩
            exact doQ_plain hd he hp h1
theorem rdo_any (k : Env) (w : World) (R : Assn) (a : Option Addr) (c : Nat) (P : List TbM) (x : CmdM) (hr : RdS k R a P) (hok : okT (pairs P)) (htb : x.tb.size ≤ 1000000000) (h : Sat k w R) :
    Calls Try.prog 21 #[.slice a P.length c, cmV x] w fun e w' => DoQ k x (pairs P) R e w' := by
  have hn : P.length ≤ 1000 := by have := hok.1; rw [pairs_length] at this; omega
  have hrows : ∀ p ∈ P, p.rows.length ≤ 1000000 := fun p hp => by have := (okT_mem hok hp).2.1; omega
  have hnm : ∀ p ∈ P, p.nm.size ≤ 1000000000 := fun p hp => by have := (okT_mem hok hp).1; omega
  by_cases hk : x.kind = 5
  · refine (rdo_new k w R a c P x hk hr hn hrows hnm htb h).mono ?_
    rintro e w' ⟨v, d, P', he, hp, h1⟩
    exact doQ_plain (doT_new hk) he hp h1
  · have hfi := findI_fnd P x.tb 0
    cases hf : fndT (pairs P) x.tb with
    | none =>
      rw [hf] at hfi
      have hfi' : findI P x.tb 0 < 0 := by rw [hfi]; decide
      refine (rdo_none k w R a c P x hk hfi' hr hn hrows h).mono ?_
      rintro e w' ⟨v, d, P', he, hp, h1⟩
      exact doQ_plain (doT_none hk hf) he hp h1
    | some i =>
      rw [hf] at hfi
      have hfi' : findI P x.tb 0 = (i : Int) := by rw [hfi]; simp
      obtain ⟨hi, _⟩ := fndT_lt _ _ _ hf
      rw [pairs_length] at hi
      have hd := doT_some hk hf hi
      obtain ⟨_, _, hrs, hv⟩ := okT_mem hok (List.getElem_mem hi)
      by_cases k1 : x.kind = 1
      · rw [if_pos k1] at hd
        refine (rdo_get k w R a c P x k1 i hi hfi' hr hn hrows h).mono ?_
        rintro e w' ⟨v, d, P', vr, dr, he, hp, h1⟩
        unfold DoQ
        rw [hd]
        exact ⟨v, d, P', vr, dr, by rw [he, pairs_length], hp, h1⟩
      · rw [if_neg k1] at hd
        refine (rdo_chg k w R a c P x hk k1 i hi hfi' hr hn hrows hv h).mono ?_
        rintro e w' ⟨v, d, P', he, hp, h1⟩
        exact doQ_plain hd he hp h1

end Go.Proofs.Ytoeepbjnbgpmpaa
