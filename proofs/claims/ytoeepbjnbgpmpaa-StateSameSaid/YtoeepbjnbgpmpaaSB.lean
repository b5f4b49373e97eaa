/- Several texts in one: StF, StG, StH, StI, StJ. -/
import Derived.Test.YtoeepbjnbgpmpaaSA
namespace Go.Proofs.Ytoeepbjnbgpmpaa
set_option linter.all false
open Go Go.RowKit

def hadR (kk : Int) (l : List Rw2) : List Rw2 := l.filter (meansB true kk)
/-- Is what is told the rows that were handed in? -/
def keepB (x : CmdM) (l : List Rw2) : Bool :=
  if x.kind = 2 then decide (hadR x.kk l = []) && decide (64 ≤ l.length)
  else if x.kind = 3 then (match hadR x.kk l with | [] => true | y :: _ => decide (999999 ≤ y.2))
  else false
/-- A table's rows behind a command, and what is wrong. -/
def changeR (x : CmdM) (l : List Rw2) : List Rw2 × Int :=
  if x.kind = 2 then (if hadR x.kk l = [] ∧ 64 ≤ l.length then (l, 11) else (putR l (x.kk, x.vv), 0))
  else if x.kind = 3 then (match hadR x.kk l with | [] => (l, 0) | y :: _ => if 999999 ≤ y.2 then (l, 2) else (putR l (x.kk, y.2 + 1), 0))
  else (l.filter (leftB x.kd x.kk), 0)

def keepA (b : Bool) (A : Assn) : Assn := if b = true then emp else A
def keepP (b : Bool) (p : Prop) : Prop := b = true → p
theorem keepA_yes {b : Bool} (h : b = true) (A R : Assn) : keepA b A * R = R := by unfold keepA; rw [if_pos h, emp_star]
theorem keepA_no {b : Bool} (h : b = false) (A : Assn) : keepA b A = A := by unfold keepA; rw [h, if_neg (by decide)]
theorem keepP_no {b : Bool} (h : b = false) (p : Prop) : keepP b p := by intro q; rw [h] at q; cases q


set_option maxRecDepth 100000 in
set_option maxHeartbeats 4000000 in
theorem rchange_any (k : Env) (w : World) (R : Assn) (a : Option Addr) (c : Nat) (l : List Rw2) (x : CmdM) (hr : RdR k R a l) (hl : l.length ≤ 1000000) (hc : l.length ≤ c) (hv : ∀ y ∈ l, 0 ≤ y.2 ∧ y.2 ≤ 999999) (h : Sat k w R) :
    Calls Try.prog 46 #[.slice a l.length c, cmV x] w fun e w' => ∃ v d, e = .returned (.tuple #[.slice v (changeR x l).1.length d, .int .i64 (changeR x l).2]) ∧ keepP (keepB x l) (v = a ∧ d = c) ∧ Sat k w' (keepA (keepB x l) (Rws (.slice v (changeR x l).1.length d) (changeR x l).1) * R) := by
  obtain ⟨res, hres⟩ : ∃ res, changeR x l = res := ⟨_, rfl⟩
  obtain ⟨kb, hkb⟩ : ∃ kb, keepB x l = kb := ⟨_, rfl⟩
  rw [hres, hkb]
  unfold changeR at hres
  unfold keepB at hkb
  have HRES := Lib.hid hres
  have HKB := Lib.hid hkb
  have HV := Lib.hid hv
  clear hres hkb hv
  (
    have h0 := h.alloc (.cells #[.int .i64 x.kind, .string x.tb, .int .i64 x.kk, .int .i64 x.vv, .bool x.kd] 24)
    obtain ⟨kind, tb, kk, vv, kd⟩ := x
    simp only at h0
    have HR := Lib.hid (fun (R' : Assn) (hm : ∀ w', Sat k w' R' → Sat k w' R) => hr.mono hm)
    have D1 := Lib.hid (fun w R' hm h => rget_any k w R' a c l ⟨0, ⟨#[]⟩, kk, 0, true⟩ (HR.out R' hm) hl h)
    clear hr h)
  simp only at HRES HKB
  go_enter Try.func46, Try.ntmps46
  go_upto_region 1 with fail
  generalize w.alloc (.cells #[.int .i64 kind, .string tb, .int .i64 kk, .int .i64 vv, .bool kd] 24) = w0 at *
  generalize w.heap.size = o at *
  have e2 : w0.cell? ⟨o, 2, none⟩ = some (.int .i64 kk) := h0.cell 2
  go_upto_region 2 with (go_at_call 45; (refine (D1.out _ _ (fun _ q => q.drop) h0).mono ?_); rintro e w1 ⟨vh, ch, rfl, h1⟩)
  have hfold : l.filter (meansB true kk) = hadR kk l := rfl
  simp only [hfold] at h1
  obtain ⟨had, hhad⟩ : ∃ had, hadR kk l = had := ⟨_, rfl⟩
  rw [hhad] at h1 HRES HKB
  simp only [hfold, hhad]
  have HSUB : Hid (∀ y ∈ had, y ∈ l) := by
    intro y hy
    rw [← hhad] at hy
    exact (List.mem_filter.1 hy).1
  clear h0 e2 D1 hfold hhad
  have e0 : w1.cell? ⟨o, 0, none⟩ = some (.int .i64 kind) := h1.swap.cell 0
  have e2 : w1.cell? ⟨o, 2, none⟩ = some (.int .i64 kk) := h1.swap.cell 2
  have e3 : w1.cell? ⟨o, 3, none⟩ = some (.int .i64 vv) := h1.swap.cell 3
  have D2 := Lib.hid (fun w R' hm x h => rput8_any k w R' a c l x (HR.out R' hm) hl hc h)
  have D3 := Lib.hid (fun w R' hm h => rwithout_any k w R' a c l ⟨kind, tb, kk, vv, kd⟩ (HR.out R' hm) hl h)
  clear HR
  by_cases k2 : kind = 2
  · subst k2
    have hr1 := HRES.out
    have hk1 := HKB.out
    rw [if_pos rfl] at hr1 hk1
    clear D3 HRES HKB HV HSUB
    by_cases hf : had = [] ∧ 64 ≤ l.length
    · rw [if_pos hf] at hr1
      obtain ⟨rfl, h64⟩ := hf
      have h64' : (64 : Int) ≤ l.length := by omega
      have HKT : Hid (kb = true) := by unfold Hid; rw [← hk1, decide_eq_true h64]; rfl
      subst hr1
      clear hk1 D2
      go_wp2_with fail
      go_ret2
      exact ⟨a, c, rfl, fun _ => ⟨rfl, rfl⟩, by rw [keepA_yes HKT.out]; exact h1.drop.drop⟩
    · rw [if_neg hf] at hr1
      have hkf : kb = false := by
        rw [← hk1, Bool.and_eq_false_iff, decide_eq_false_iff_not, decide_eq_false_iff_not]
        by_cases q : had = []
        · right; intro q2; exact hf ⟨q, q2⟩
        · left; exact q
      subst hr1
      have HKF := Lib.hid hkf
      clear hkf
      have hq : (had.length : Int) = 0 → ¬ (64 : Int) ≤ l.length := by
        intro q q2
        refine hf ⟨List.length_eq_zero_iff.1 (by omega), by omega⟩
      have hq2 : ((had.length : Int) == 0) = false ∨ (((had.length : Int) == 0) = true ∧ ¬ (64 : Int) ≤ l.length) := by
        by_cases q : (had.length : Int) = 0
        · right; exact ⟨by simpa using q, hq q⟩
        · left; simpa using q
      clear hf hq hk1
      rcases hq2 with q1 | ⟨q1, q2⟩
      all_goals
        go_wp2_with (go_at_call 58; (refine (D2.out _ _ (fun _ q => q.drop.drop) (kk, vv) h1).mono ?_); rintro e w2 ⟨v2, d2, rfl, h2⟩)
        go_ret2
        exact ⟨v2, d2, rfl, keepP_no HKF.out _, by rw [keepA_no HKF.out]; exact h2.swap.drop.swap.drop⟩
  · have b2 : (kind == 2) = false := by simp; omega
    by_cases k3 : kind = 3
    · subst k3
      have hr1 := HRES.out
      have hk1 := HKB.out
      rw [if_neg (by decide), if_pos rfl] at hr1 hk1
      clear D3 HRES HKB b2 k2
      cases had with
      | nil =>
        have HKT : Hid (kb = true) := hk1.symm
        have hr2 : (l, (0 : Int)) = res := hr1
        subst hr2
        clear hk1 hr1 D2 HV HSUB
        go_wp2_with fail
        go_ret2
        exact ⟨a, c, rfl, fun _ => ⟨rfl, rfl⟩, by rw [keepA_yes HKT.out]; exact h1.drop.drop⟩
      | cons y r =>
        have hr2 : (if 999999 ≤ y.2 then (l, (2 : Int)) else (putR l (kk, y.2 + 1), 0)) = res := hr1
        have hk2 : decide (999999 ≤ y.2) = kb := hk1
        have hy := HV.out y (HSUB.out y (by simp))
        obtain ⟨g, hg, _, hcl⟩ := rec_get h1 (by decide) 0 (by simp)
        subst hg
        have d1 : w1.cell? ⟨g, 1, none⟩ = some (.int .i64 y.2) := hcl 1 (by decide)
        clear hk1 hr1 HV HSUB hcl
        by_cases hbig : 999999 ≤ y.2
        · have HKT : Hid (kb = true) := by unfold Hid; rw [← hk2, decide_eq_true hbig]
          rw [if_pos hbig] at hr2
          subst hr2
          clear hk2 D2
          go_wp2_with fail
          go_ret2
          exact ⟨a, c, rfl, fun _ => ⟨rfl, rfl⟩, by rw [keepA_yes HKT.out]; exact h1.drop.drop⟩
        · have HKF : Hid (kb = false) := by unfold Hid; rw [← hk2, decide_eq_false hbig]
          obtain ⟨y3, hy3⟩ : ∃ y3, y3 = y.2 + 1 := ⟨_, rfl⟩
          have hwy : IntKind.i64.wrap (y.2 + 1) = y3 := by rw [IntWalk.i64_in _ (by omega), hy3]
          rw [if_neg hbig, ← hy3] at hr2
          subst hr2
          have hlen : (((y :: r).length : Int) == 0) = false := by simp; omega
          obtain ⟨Pz, hP, h3⟩ : ∃ Pz, Pz = _ ∧ Sat k w1 Pz := ⟨_, rfl, h1⟩
          have HDD : Hid (∀ {w' : World}, Sat k w' Pz → w'.cell? ⟨o, 2, none⟩ = some (.int .i64 kk) ∧ w'.cell? ⟨g, 1, none⟩ = some (.int .i64 y.2)) := by
            unfold Hid
            intro w' q
            rw [hP] at q
            refine ⟨q.swap.cell 2, ?_⟩
            obtain ⟨g', hg', _, hc'⟩ := rec_get q (by decide) 0 (by simp)
            simp only [Option.some.injEq, Addr.mk.injEq, and_true] at hg'
            subst hg'
            exact hc' 1 (by decide)
          have HQ : Hid (∀ {w' : World}, Sat k w' Pz → Sat k w' R) := by
            unfold Hid
            intro w' q
            rw [hP] at q
            exact q.drop.drop
          have HQF : Hid (∀ {w' : World} {F : Assn}, Sat k w' (F * Pz) → Sat k w' (F * R)) := by
            unfold Hid
            intro w' F q
            rw [hP] at q
            exact q.swap.drop.swap.drop
          have D4 := Lib.hid (fun w' q => D2.out w' Pz (fun _ q => HQ.out q) (kk, y3) q)
          simp only at D4
          clear hk2 hy3 D2 hP h1
          go_upto_region 12 with fail
          go_region_held3 (fun w' => w'.cell? ⟨o, 2, none⟩ = some (.int .i64 kk) ∧ w'.cell? ⟨g, 1, none⟩ = some (.int .i64 y.2)) (first | exact HDD.out (by assumption) | exact HDD.out (Sat.drop (by assumption)) | fail) (first | (go_at_call 58; (refine (D4.out _ (by first | assumption | exact Sat.drew (by assumption))).mono ?_); rintro e w2 ⟨v2, d2, rfl, h2⟩) | fail)
          all_goals
            go_wp2_with fail
            go_ret2
            exact ⟨v2, d2, rfl, keepP_no HKF.out _, by rw [keepA_no HKF.out]; exact HQF.out h2⟩
    · have b3 : (kind == 3) = false := by simp; omega
      have hr1 := HRES.out
      have hk1 := HKB.out
      rw [if_neg k2, if_neg k3] at hr1 hk1
      have HKF : Hid (kb = false) := hk1.symm
      subst hr1
      have e1 : w1.cell? ⟨o, 1, none⟩ = some (.string tb) := h1.swap.cell 1
      have e4 : w1.cell? ⟨o, 4, none⟩ = some (.bool kd) := h1.swap.cell 4
      clear D2 HRES HKB HV HSUB hk1 k2 k3
      go_wp2_with (go_at_call 59; (refine (D3.out _ _ (fun _ q => q.drop.drop) h1).mono ?_); rintro e w2 ⟨v2, d2, rfl, h2⟩)
      go_ret2
      exact ⟨v2, d2, rfl, keepP_no HKF.out _, by rw [keepA_no HKF.out]; exact h2.swap.drop.swap.drop⟩

end Go.Proofs.Ytoeepbjnbgpmpaa

namespace Go.Proofs.Ytoeepbjnbgpmpaa
set_option linter.all false
open Go Go.RowKit

/-- Where a key's row stands, or would stand; whether it does. -/
def placeI : List Rw2 → Int → Int → Int
  | [], _, i => i
  | y :: r, kk, i => if kk ≤ y.1 then i else placeI r kk (i + 1)
def placeB : List Rw2 → Int → Bool
  | [], _ => false
  | y :: r, kk => if kk ≤ y.1 then decide (y.1 = kk) else placeB r kk
theorem placeI_drop (l : List Rw2) (kk : Int) (j : Nat) (h : j < l.length) : placeI (l.drop j) kk j = if kk ≤ l[j].1 then (j : Int) else placeI (l.drop (j + 1)) kk ((j + 1 : Nat) : Int) := by
  rw [List.drop_eq_getElem_cons h, placeI]; rfl
theorem placeB_drop (l : List Rw2) (kk : Int) (j : Nat) (h : j < l.length) : placeB (l.drop j) kk = if kk ≤ l[j].1 then decide (l[j].1 = kk) else placeB (l.drop (j + 1)) kk := by
  rw [List.drop_eq_getElem_cons h, placeB]

set_option maxRecDepth 100000 in
set_option maxHeartbeats 2000000 in
theorem place_any (k : Env) (w : World) (R : Assn) (a : Option Addr) (c : Nat) (l : List Rw2) (kk : Int) (hr : RdR k R a l) (hl : l.length ≤ 1000000000) (h : Sat k w R) :
    Calls Try.prog 57 #[.slice a l.length c, .int .i64 kk] w fun e w' => e = .returned (.tuple #[.int .i64 (placeI l kk 0), .bool (placeB l kk)]) ∧ Sat k w' R := by
  obtain ⟨ri, hri⟩ : ∃ ri, placeI l kk 0 = ri := ⟨_, rfl⟩
  obtain ⟨rb, hrb⟩ : ∃ rb, placeB l kk = rb := ⟨_, rfl⟩
  rw [hri, hrb]
  have HX : Hid (placeI (l.drop 0) kk ((0 : Nat) : Int) = ri ∧ placeB (l.drop 0) kk = rb) := ⟨hri, hrb⟩
  have HR := Lib.hid hr
  clear hr hri hrb
  go_enter Try.func57, Try.ntmps57
  go_wp2_with fail
  go_loopw [10] (fun s10 wr => ∃ j : Nat, j ≤ l.length ∧ s10 = .int .i64 j ∧ Hid (placeI (l.drop j) kk j = ri ∧ placeB (l.drop j) kk = rb) ∧ Sat k wr R) (fun s10 _ => l.length - (intOf s10).toNat)
  case atStart => exact ⟨0, Nat.zero_le _, rfl, HX, h⟩
  case round =>
    clear h HX
    obtain ⟨j, hj, rfl, HS, hs⟩ := hrel
    by_cases hlt : j < l.length
    · have hlt' : (j : Int) < l.length := by omega
      obtain ⟨g, o, rfl, c0, c1⟩ := rdr_get HR.out hs j hlt
      have HI := Lib.hid (placeI_drop l kk j hlt)
      have HB := Lib.hid (placeB_drop l kk j hlt)
      generalize l[j] = y at *
      have h4 := hs.alloc (.cells #[.int .i64 y.1, .int .i64 y.2] 45)
      go_upto_region 4 with fail
      generalize wr.alloc (.cells #[.int .i64 y.1, .int .i64 y.2] 45) = w4 at *
      generalize wr.heap.size = oo at *
      have d0 : w4.cell? ⟨oo, 0, none⟩ = some (.int .i64 y.1) := h4.cell 0
      clear c0 c1 hs
      by_cases hx : kk ≤ y.1
      · have hcmp : ((y.1 : Int) == kk) = decide (y.1 = kk) := by rw [Bool.eq_iff_iff]; simp
        obtain ⟨e1, e2⟩ := HS.out
        rw [HI.out, if_pos hx] at e1
        rw [HB.out, if_pos hx] at e2
        subst e1
        rw [e2] at hcmp
        clear HS HI HB e2
        go_wp2_with fail
        go_quiet (fail)
        replace h4 := h4.drewN nq
        generalize w4.drewN nq = w5 at *
        go_wp2_with fail
        go_ret2
        exact ⟨rfl, h4.drop⟩
      · obtain ⟨e1, e2⟩ := HS.out
        rw [HI.out, if_neg hx] at e1
        rw [HB.out, if_neg hx] at e2
        have HN : Hid (placeI (l.drop (j + 1)) kk ((j + 1 : Nat) : Int) = ri ∧ placeB (l.drop (j + 1)) kk = rb) := ⟨e1, e2⟩
        clear HS HI HB e1 e2
        go_wp2_with fail
        go_roundw
        case rel => exact ⟨j + 1, by omega, by go_num, HN, h4.drop⟩
        case measure => simp [intOf]; omega
    · obtain rfl : j = l.length := by omega
      obtain ⟨e1, e2⟩ := HS.out
      rw [List.drop_eq_nil_of_le (Nat.le_refl _)] at e1 e2
      have e3 : (l.length : Int) = ri := e1
      have e4 : false = rb := e2
      subst e3 e4
      clear HS e1 e2
      go_wp2_with fail
      go_ret2
      exact ⟨rfl, hs⟩

set_option maxHeartbeats 1000000 in
/-- The closure of of: its captured variable is a block. -/
theorem of1_any (k : Env) (w : World) (R : Assn) (o : Nat) (x : CmdM) (y : Rw2) (h : Sat k w (blk o (cmO x) * R)) :
    Calls Try.prog 56 #[.agg #[.int .i64 y.1, .int .i64 y.2], .pointer (some ⟨o, 0, none⟩)] w fun e w' => e = .returned (.bool (meansB x.kd x.kk y)) ∧ Sat k w' (blk o (cmO x) * R) := by
  obtain ⟨kind, tb, kk, vv, kd⟩ := x
  have h4 := h.alloc (.cells #[.int .i64 y.1, .int .i64 y.2] 45)
  have hb : meansB kd kk y = (!kd || decide (y.1 = kk)) := rfl
  have hcmp : ((y.1 : Int) == kk) = decide (y.1 = kk) := by rw [Bool.eq_iff_iff]; simp
  simp only
  rw [hb]
  generalize decide (y.1 = kk) = eb at *
  clear h hb
  go_enter Try.func56, Try.ntmps56
  go_upto_region 1 with fail
  generalize w.alloc (.cells #[.int .i64 y.1, .int .i64 y.2] 45) = w4 at *
  generalize w.heap.size = oo at *
  have d0 : w4.cell? ⟨oo, 0, none⟩ = some (.int .i64 y.1) := h4.cell 0
  have e2 : w4.cell? ⟨o, 2, none⟩ = some (.int .i64 kk) := h4.swap.cell 2
  have e4 : w4.cell? ⟨o, 4, none⟩ = some (.bool kd) := h4.swap.cell 4
  cases kd
  all_goals
    go_wp2_with fail
    go_ret
    exact ⟨rfl, h4.drop⟩

set_option maxRecDepth 100000 in
set_option maxHeartbeats 4000000 in
theorem some_of (k : Env) (w : World) (R : Assn) (a : Option Addr) (c : Nat) (l : List Rw2) (o : Nat) (x : CmdM) (hr : RdR k R a l) (hl : l.length ≤ 1000000) (h : Sat k w (blk o (cmO x) * R)) :
    Calls Try.prog 39 #[.slice a l.length c, .func (.func 56) #[] #[.pointer (some ⟨o, 0, none⟩)]] w fun e w' => ∃ v d, e = .returned (.slice v (l.filter (meansB x.kd x.kk)).length d) ∧ Sat k w' (Rws (.slice v (l.filter (meansB x.kd x.kk)).length d) (l.filter (meansB x.kd x.kk)) * (blk o (cmO x) * R)) := by
  obtain ⟨res, hres⟩ : ∃ res, l.filter (meansB x.kd x.kk) = res := ⟨_, rfl⟩
  have HX : Hid ([] ++ (l.drop 0).filter (meansB x.kd x.kk) = res) := hres
  rw [hres]
  clear hres
  obtain ⟨Bz, hB⟩ : ∃ Bz, Bz = (blk o (cmO x) * R) := ⟨_, rfl⟩
  have HR := Lib.hid (fun (v : Value) (L : List Rw2) => hr.mono (R' := Rws v L * Bz) (by intro w' q; rw [hB] at q; exact q.drop.drop))
  have DC : Hid (∀ (F : Assn) (y : Rw2) (w : World), Sat k w (F * Bz) → Calls Try.prog 56 #[.agg #[.int .i64 y.1, .int .i64 y.2], .pointer (some ⟨o, 0, none⟩)] w fun e w' => e = .returned (.bool (meansB x.kd x.kk y)) ∧ Sat k w' (F * Bz)) := by
    unfold Hid
    intro F y w q
    rw [hB] at q ⊢
    refine (of1_any k w (F * R) o x y q.swap).mono ?_
    rintro e w1 ⟨rfl, q1⟩
    exact ⟨rfl, q1.swap⟩
  rw [← hB] at h ⊢
  have hnil : Sat k w (Rws (.slice none 0 0) [] * Bz) := rec_nil h
  clear hr h hB
  go_enter Try.func39, Try.ntmps39
  go_wp2_with fail
  go_loopw [5, 10] (fun s5 s10 wr => ∃ (j : Nat) (v : Option Addr) (d : Nat) (acc : List Rw2), j ≤ l.length ∧ s10 = .int .i64 j ∧ s5 = .slice v acc.length d ∧ acc.length ≤ j ∧ Hid (acc ++ (l.drop j).filter (meansB x.kd x.kk) = res) ∧ Sat k wr (Rws (.slice v acc.length d) acc * Bz)) (fun _ s10 _ => l.length - (intOf s10).toNat)
  case atStart => exact ⟨0, none, 0, [], Nat.zero_le _, rfl, rfl, Nat.le_refl _, HX, hnil⟩
  case round =>
    clear hnil HX
    obtain ⟨j, v, d, acc, hj, rfl, rfl, hac, HS, hs⟩ := hrel
    by_cases hlt : j < l.length
    · have hlt' : (j : Int) < l.length := by omega
      obtain ⟨g, og, rfl, c0, c1⟩ := rdr_get (HR.out (.slice v acc.length d) acc) hs j hlt
      have HSN := Lib.hid (filter_step (meansB x.kd x.kk) l j hlt)
      generalize l[j] = y at *
      have h4 := hs.alloc (.cells #[.int .i64 y.1, .int .i64 y.2] 45)
      go_upto_region 5 with fail
      generalize wr.alloc (.cells #[.int .i64 y.1, .int .i64 y.2] 45) = w4 at *
      generalize wr.heap.size = oo at *
      have d0 : w4.cell? ⟨oo, 0, none⟩ = some (.int .i64 y.1) := h4.cell 0
      have d1 : w4.cell? ⟨oo, 1, none⟩ = some (.int .i64 y.2) := h4.cell 1
      have C1 := DC.out (blk oo (.cells #[.int .i64 y.1, .int .i64 y.2] 45) * Rws (.slice v acc.length d) acc) y w4 (by rw [star_assoc]; exact h4)
      clear c0 c1 hs
      cases hb : meansB x.kd x.kk y with
      | true =>
        rw [hb] at C1
        have D1 := Lib.hid C1
        have HN : Hid ((acc ++ [y]) ++ (l.drop (j + 1)).filter (meansB x.kd x.kk) = res) := by
          unfold Hid; rw [← HS.out, HSN.out, if_pos hb]; simp
        clear HS HSN hb C1
        go_upto_region 6 with (go_at_call 56; (refine (D1.out).mono ?_); rintro e w5 ⟨rfl, h5⟩)
        rw [star_assoc] at h5
        have f0 : w5.cell? ⟨oo, 0, none⟩ = some (.int .i64 y.1) := h5.cell 0
        have f1 : w5.cell? ⟨oo, 1, none⟩ = some (.int .i64 y.2) := h5.cell 1
        have h6 := h5.drop
        go_upto_region 7 with (at_builtin; refine wpList_append_sat TRw (h6.alloc' _) (.tmp 17) (.tmp 19) _ 1 1 [.int .i64 y.1, .int .i64 y.2] rfl rfl rfl rfl rfl (fun _ => ⟨_, rfl, new_cells_at _ _ _ _ (by first | rfl | simp)⟩) (ERw.one _) (by simp [maxLen]; omega) (by omega) ?_; intro a7 c7 w7 h7)
        have h8 := rws_push h7
        go_wp2_with fail
        go_roundw
        case rel => exact ⟨j + 1, a7, c7, acc ++ [y], by omega, by go_num, by simp, by simp; omega, HN, h8⟩
        case measure => simp [intOf]; omega
      | false =>
        rw [hb] at C1
        have D1 := Lib.hid C1
        have HN : Hid (acc ++ (l.drop (j + 1)).filter (meansB x.kd x.kk) = res) := by
          unfold Hid; rw [← HS.out, HSN.out, if_neg (by rw [hb]; decide)]
        clear HS HSN hb C1
        go_upto_region 6 with (go_at_call 56; (refine (D1.out).mono ?_); rintro e w5 ⟨rfl, h5⟩)
        rw [star_assoc] at h5
        go_wp2_with fail
        go_roundw
        case rel => exact ⟨j + 1, v, d, acc, by omega, by go_num, rfl, by omega, HN, h5.drop⟩
        case measure => simp [intOf]; omega
    · obtain rfl : j = l.length := by omega
      obtain rfl : acc = res := by rw [← HS.out, List.drop_eq_nil_of_le (Nat.le_refl _)]; simp
      clear HS
      go_wp2_with fail
      go_ret
      exact ⟨_, _, rfl, hs⟩

/-- The closure of Do: what it has caught is a variable that holds the other one. -/
abbrev fnO (o : Nat) : Obj := .cells #[.func (.func 56) #[] #[.pointer (some ⟨o, 0, none⟩)]] 67 (0, 0)
set_option maxHeartbeats 1000000 in
theorem do1_any (k : Env) (w : World) (R : Assn) (g o : Nat) (x : CmdM) (y : Rw2) (h : Sat k w (blk g (fnO o) * (blk o (cmO x) * R))) :
    Calls Try.prog 43 #[.agg #[.int .i64 y.1, .int .i64 y.2], .pointer (some ⟨g, 0, none⟩)] w fun e w' => e = .returned (.bool (leftB x.kd x.kk y)) ∧ Sat k w' (blk g (fnO o) * (blk o (cmO x) * R)) := by
  have h4 := h.alloc (.cells #[.int .i64 y.1, .int .i64 y.2] 45)
  have hb : leftB x.kd x.kk y = !meansB x.kd x.kk y := by unfold leftB meansB; cases x.kd <;> simp
  rw [hb]
  have D := fun w q => of1_any k w (blk w.heap.size (.cells #[.int .i64 y.1, .int .i64 y.2] 45 (0, 0)) * (blk g (fnO o) * R)) o x y q
  clear h hb
  go_enter Try.func43, Try.ntmps43
  go_upto_region 1 with fail
  generalize w.alloc (.cells #[.int .i64 y.1, .int .i64 y.2] 45) = w4 at *
  generalize w.heap.size = oo at *
  have d0 : w4.cell? ⟨oo, 0, none⟩ = some (.int .i64 y.1) := h4.cell 0
  have d1 : w4.cell? ⟨oo, 1, none⟩ = some (.int .i64 y.2) := h4.cell 1
  have d2 : w4.cell? ⟨g, 0, none⟩ = some (.func (.func 56) #[] #[.pointer (some ⟨o, 0, none⟩)]) := h4.swap.cell 0
  have D1 := Lib.hid (of1_any k w4 (blk oo (.cells #[.int .i64 y.1, .int .i64 y.2] 45 (0, 0)) * (blk g (fnO o) * R)) o x y (h4.of_eq (by ac_rfl)))
  clear D
  go_wp2_with (go_at_call 56; (refine (D1.out).mono ?_); rintro e w5 ⟨rfl, h5⟩)
  go_ret
  exact ⟨rfl, (h5.swap.drop).of_eq (by ac_rfl)⟩

set_option maxRecDepth 100000 in
set_option maxHeartbeats 4000000 in
theorem some_do (k : Env) (w : World) (R : Assn) (a : Option Addr) (c : Nat) (l : List Rw2) (g o : Nat) (x : CmdM) (hr : RdR k R a l) (hl : l.length ≤ 1000000) (h : Sat k w (blk g (fnO o) * (blk o (cmO x) * R))) :
    Calls Try.prog 39 #[.slice a l.length c, .func (.func 43) #[] #[.pointer (some ⟨g, 0, none⟩)]] w fun e w' => ∃ v d, e = .returned (.slice v (l.filter (leftB x.kd x.kk)).length d) ∧ Sat k w' (Rws (.slice v (l.filter (leftB x.kd x.kk)).length d) (l.filter (leftB x.kd x.kk)) * (blk g (fnO o) * (blk o (cmO x) * R))) := by
  obtain ⟨res, hres⟩ : ∃ res, l.filter (leftB x.kd x.kk) = res := ⟨_, rfl⟩
  have HX : Hid ([] ++ (l.drop 0).filter (leftB x.kd x.kk) = res) := hres
  rw [hres]
  clear hres
  obtain ⟨Bz, hB⟩ : ∃ Bz, Bz = (blk g (fnO o) * (blk o (cmO x) * R)) := ⟨_, rfl⟩
  have HR := Lib.hid (fun (v : Value) (L : List Rw2) => hr.mono (R' := Rws v L * Bz) (by intro w' q; rw [hB] at q; exact q.drop.drop.drop))
  have DC : Hid (∀ (F : Assn) (y : Rw2) (w : World), Sat k w (F * Bz) → Calls Try.prog 43 #[.agg #[.int .i64 y.1, .int .i64 y.2], .pointer (some ⟨g, 0, none⟩)] w fun e w' => e = .returned (.bool (leftB x.kd x.kk y)) ∧ Sat k w' (F * Bz)) := by
    unfold Hid
    intro F y w q
    rw [hB] at q ⊢
    refine (do1_any k w (F * R) g o x y (q.of_eq (by ac_rfl))).mono ?_
    rintro e w1 ⟨rfl, q1⟩
    exact ⟨rfl, q1.of_eq (by ac_rfl)⟩
  rw [← hB] at h ⊢
  have hnil : Sat k w (Rws (.slice none 0 0) [] * Bz) := rec_nil h
  clear hr h hB
  go_enter Try.func39, Try.ntmps39
  go_wp2_with fail
  go_loopw [5, 10] (fun s5 s10 wr => ∃ (j : Nat) (v : Option Addr) (d : Nat) (acc : List Rw2), j ≤ l.length ∧ s10 = .int .i64 j ∧ s5 = .slice v acc.length d ∧ acc.length ≤ j ∧ Hid (acc ++ (l.drop j).filter (leftB x.kd x.kk) = res) ∧ Sat k wr (Rws (.slice v acc.length d) acc * Bz)) (fun _ s10 _ => l.length - (intOf s10).toNat)
  case atStart => exact ⟨0, none, 0, [], Nat.zero_le _, rfl, rfl, Nat.le_refl _, HX, hnil⟩
  case round =>
    clear hnil HX
    obtain ⟨j, v, d, acc, hj, rfl, rfl, hac, HS, hs⟩ := hrel
    by_cases hlt : j < l.length
    · have hlt' : (j : Int) < l.length := by omega
      obtain ⟨gl, og, rfl, c0, c1⟩ := rdr_get (HR.out (.slice v acc.length d) acc) hs j hlt
      have HSN := Lib.hid (filter_step (leftB x.kd x.kk) l j hlt)
      generalize l[j] = y at *
      have h4 := hs.alloc (.cells #[.int .i64 y.1, .int .i64 y.2] 45)
      go_upto_region 5 with fail
      generalize wr.alloc (.cells #[.int .i64 y.1, .int .i64 y.2] 45) = w4 at *
      generalize wr.heap.size = oo at *
      have d0 : w4.cell? ⟨oo, 0, none⟩ = some (.int .i64 y.1) := h4.cell 0
      have d1 : w4.cell? ⟨oo, 1, none⟩ = some (.int .i64 y.2) := h4.cell 1
      have C1 := DC.out (blk oo (.cells #[.int .i64 y.1, .int .i64 y.2] 45) * Rws (.slice v acc.length d) acc) y w4 (by rw [star_assoc]; exact h4)
      clear c0 c1 hs
      cases hb : leftB x.kd x.kk y with
      | true =>
        rw [hb] at C1
        have D1 := Lib.hid C1
        have HN : Hid ((acc ++ [y]) ++ (l.drop (j + 1)).filter (leftB x.kd x.kk) = res) := by
          unfold Hid; rw [← HS.out, HSN.out, if_pos hb]; simp
        clear HS HSN hb C1
        go_upto_region 6 with (go_at_call 43; (refine (D1.out).mono ?_); rintro e w5 ⟨rfl, h5⟩)
        rw [star_assoc] at h5
        have f0 : w5.cell? ⟨oo, 0, none⟩ = some (.int .i64 y.1) := h5.cell 0
        have f1 : w5.cell? ⟨oo, 1, none⟩ = some (.int .i64 y.2) := h5.cell 1
        have h6 := h5.drop
        go_upto_region 7 with (at_builtin; refine wpList_append_sat TRw (h6.alloc' _) (.tmp 17) (.tmp 19) _ 1 1 [.int .i64 y.1, .int .i64 y.2] rfl rfl rfl rfl rfl (fun _ => ⟨_, rfl, new_cells_at _ _ _ _ (by first | rfl | simp)⟩) (ERw.one _) (by simp [maxLen]; omega) (by omega) ?_; intro a7 c7 w7 h7)
        have h8 := rws_push h7
        go_wp2_with fail
        go_roundw
        case rel => exact ⟨j + 1, a7, c7, acc ++ [y], by omega, by go_num, by simp, by simp; omega, HN, h8⟩
        case measure => simp [intOf]; omega
      | false =>
        rw [hb] at C1
        have D1 := Lib.hid C1
        have HN : Hid (acc ++ (l.drop (j + 1)).filter (leftB x.kd x.kk) = res) := by
          unfold Hid; rw [← HS.out, HSN.out, if_neg (by rw [hb]; decide)]
        clear HS HSN hb C1
        go_upto_region 6 with (go_at_call 43; (refine (D1.out).mono ?_); rintro e w5 ⟨rfl, h5⟩)
        rw [star_assoc] at h5
        go_wp2_with fail
        go_roundw
        case rel => exact ⟨j + 1, v, d, acc, by omega, by go_num, rfl, by omega, HN, h5.drop⟩
        case measure => simp [intOf]; omega
    · obtain rfl : j = l.length := by omega
      obtain rfl : acc = res := by rw [← HS.out, List.drop_eq_nil_of_le (Nat.le_refl _)]; simp
      clear HS
      go_wp2_with fail
      go_ret
      exact ⟨_, _, rfl, hs⟩

end Go.Proofs.Ytoeepbjnbgpmpaa

namespace Go.Proofs.Ytoeepbjnbgpmpaa
set_option linter.all false
open Go Go.RowKit

def pairs (P : List TbM) : List Tb := P.map TbM.p
theorem pairs_drop (P Q : List TbM) (j : Nat) (h1 : j < P.length) (h2 : j < Q.length) : decide (pairs (P.drop j) = pairs (Q.drop j)) = ((decide (P[j].nm = Q[j].nm) && decide (P[j].rows = Q[j].rows)) && decide (pairs (P.drop (j + 1)) = pairs (Q.drop (j + 1)))) := by
  rw [List.drop_eq_getElem_cons h1, List.drop_eq_getElem_cons h2]
  unfold pairs
  rw [List.map_cons, List.map_cons]
  simp only [List.cons.injEq, TbM.p, Prod.mk.injEq, Bool.decide_and]

set_option maxRecDepth 100000 in
set_option maxHeartbeats 4000000 in
theorem rsame8_any (k : Env) (w : World) (R : Assn) (a : Option Addr) (c : Nat) (b : Option Addr) (d : Nat) (P Q : List TbM) (ha : RdS k R a P) (hb : RdS k R b Q) (hn : P.length ≤ 1000000000) (hrows : ∀ p ∈ P, p.rows.length ≤ 1000000000) (h : Sat k w R) :
    Calls Try.prog 22 #[.slice a P.length c, .slice b Q.length d] w fun e w' => e = .returned (.bool (decide (pairs P = pairs Q))) ∧ Sat k w' R := by
  obtain ⟨res, hres⟩ : ∃ res, decide (pairs P = pairs Q) = res := ⟨_, rfl⟩
  rw [hres]
  by_cases hlm : P.length = Q.length
  · have h1 : ((P.length : Int) == Q.length) = true := by simp [hlm]
    have h2 : ((P.length : Int) != Q.length) = false := by simp [hlm]
    have HX : Hid (decide (pairs (P.drop 0) = pairs (Q.drop 0)) = res) := hres
    have HA := Lib.hid ha
    have HB := Lib.hid hb
    have HLM := Lib.hid hlm
    have HRW := Lib.hid hrows
    clear ha hb hres hlm hrows
    go_enter Try.func22, Try.ntmps22
    go_wp2_with fail
    go_loopw [5] (fun s5 wr => ∃ j : Nat, j ≤ P.length ∧ s5 = .int .i64 j ∧ Hid (decide (pairs (P.drop j) = pairs (Q.drop j)) = res) ∧ Sat k wr R) (fun s5 _ => P.length - (intOf s5).toNat)
    case atStart => exact ⟨0, Nat.zero_le _, rfl, HX, h⟩
    case round =>
      clear h HX
      obtain ⟨j, hj, rfl, HS, hs⟩ := hrel
      by_cases hlt : j < P.length
      · have hlt' : (j : Int) < P.length := by omega
        have hltq : j < Q.length := by have := HLM.out; omega
        have hltq' : (j : Int) < Q.length := by omega
        obtain ⟨g, o, rfl, hg⟩ := rds_at HA.out (by rintro rfl; cases hlt)
        obtain ⟨g2, o2, rfl, hg2⟩ := rds_at HB.out (by rintro rfl; cases hltq)
        have HSN := Lib.hid (pairs_drop P Q j hlt hltq)
        have HG : Hid (∀ {w' : World}, Sat k w' R → (w'.cell? ⟨g, o + j * 2, none⟩ = some (.string P[j].nm) ∧ w'.cell? ⟨g, o + j * 2 + 1, none⟩ = some (.slice P[j].a P[j].rows.length P[j].c) ∧ w'.cell? ⟨g2, o2 + j * 2, none⟩ = some (.string Q[j].nm) ∧ w'.cell? ⟨g2, o2 + j * 2 + 1, none⟩ = some (.slice Q[j].a Q[j].rows.length Q[j].c))) := by
          unfold Hid
          intro w' q
          exact ⟨(hg w' q j hlt).1, (hg w' q j hlt).2, (hg2 w' q j hltq).1, (hg2 w' q j hltq).2⟩
        have CR := fun w q => rrows_any k w R P[j].a P[j].c Q[j].a Q[j].c P[j].rows Q[j].rows (HA.out.2 _ (List.getElem_mem hlt)) (HB.out.2 _ (List.getElem_mem hltq)) (HRW.out _ (List.getElem_mem hlt)) q
        clear hg hg2
        generalize P[j] = p at *
        generalize Q[j] = q at *
        obtain ⟨pn, pa, pc, pr⟩ := p
        obtain ⟨qn, qa, qc, qr⟩ := q
        simp only at HG HSN CR
        obtain ⟨c0, c1, e0, e1⟩ := HG.out hs
        have hcmp : (pn.toList == qn.toList) = decide (pn = qn) := tl_beq _ _
        by_cases hx : pn = qn
        · rw [decide_eq_true hx] at hcmp
          cases hy : decide (pr = qr) with
          | true =>
            rw [hy] at CR
            have D := Lib.hid CR
            have HN : Hid (decide (pairs (P.drop (j + 1)) = pairs (Q.drop (j + 1))) = res) := by unfold Hid; rw [← HS.out, HSN.out, decide_eq_true hx, hy]; rfl
            clear HS HSN hx hy CR
            go_wp2_with fail
            go_region_held3 (fun w' => w'.cell? ⟨g, o + j * 2, none⟩ = some (.string pn) ∧ w'.cell? ⟨g, o + j * 2 + 1, none⟩ = some (.slice pa pr.length pc) ∧ w'.cell? ⟨g2, o2 + j * 2, none⟩ = some (.string qn) ∧ w'.cell? ⟨g2, o2 + j * 2 + 1, none⟩ = some (.slice qa qr.length qc)) (first | exact HG.out (by assumption) | fail) (first | (go_at_call 23; (with_reducible refine (D.out _ (by first | assumption | exact Sat.drew (by assumption))).mono ?_); rintro e w' ⟨rfl, hq⟩) | fail)
            go_wp2_with fail
            go_roundw
            case rel => exact ⟨j + 1, by omega, by go_num, HN, by assumption⟩
            case measure => simp [intOf]; omega
          | false =>
            rw [hy] at CR
            have D := Lib.hid CR
            obtain rfl : res = false := by rw [← HS.out, HSN.out, decide_eq_true hx, hy]; rfl
            clear HS HSN hx hy CR
            go_wp2_with fail
            go_region_held3 (fun w' => w'.cell? ⟨g, o + j * 2, none⟩ = some (.string pn) ∧ w'.cell? ⟨g, o + j * 2 + 1, none⟩ = some (.slice pa pr.length pc) ∧ w'.cell? ⟨g2, o2 + j * 2, none⟩ = some (.string qn) ∧ w'.cell? ⟨g2, o2 + j * 2 + 1, none⟩ = some (.slice qa qr.length qc)) (first | exact HG.out (by assumption) | fail) (first | (go_at_call 23; (with_reducible refine (D.out _ (by first | assumption | exact Sat.drew (by assumption))).mono ?_); rintro e w' ⟨rfl, hq⟩) | fail)
            go_wp2_with fail
            go_ret
            exact ⟨rfl, by assumption⟩
        · rw [decide_eq_false hx] at hcmp
          obtain rfl : res = false := by rw [← HS.out, HSN.out, decide_eq_false hx]; rfl
          clear HS HSN hx CR
          go_wp2_with fail
          go_quiet (fail)
          replace hs := hs.drewN nq
          generalize wr.drewN nq = w5 at *
          go_wp2_with fail
          go_ret
          exact ⟨rfl, hs⟩
      · obtain rfl : j = P.length := by omega
        obtain rfl : res = true := by
          rw [← HS.out, List.drop_eq_nil_of_le (Nat.le_refl _), List.drop_eq_nil_of_le (by have := HLM.out; omega)]; rfl
        clear HS
        go_wp2_with fail
        go_ret
        exact ⟨rfl, hs⟩
  · have h1 : ((P.length : Int) == Q.length) = false := by simp; omega
    have h2 : ((P.length : Int) != Q.length) = true := by rw [bne, h1]; rfl
    obtain rfl : res = false := by
      rw [← hres]
      refine decide_eq_false fun q => hlm ?_
      have := congrArg List.length q
      unfold pairs at this
      rwa [List.length_map, List.length_map] at this
    clear hlm hres
    go_enter Try.func22, Try.ntmps22
    go_wp2_with fail
    go_ret
    exact ⟨rfl, h⟩

end Go.Proofs.Ytoeepbjnbgpmpaa

namespace Go.Proofs.Ytoeepbjnbgpmpaa
set_option linter.all false
open Go Go.RowKit

set_option maxRecDepth 100000 in
set_option maxHeartbeats 8000000 in
theorem ssame8_any (k : Env) (w : World) (R : Assn) (a : Option Addr) (c : Nat) (b : Option Addr) (d : Nat) (P Q : List TbM) (ha : RdS k R a P) (hb : RdS k R b Q) (hn : P.length ≤ 1000000000) (hrows : ∀ p ∈ P, p.rows.length ≤ 1000000000) (h : Sat k w R) :
    Calls Try.prog 25 #[.slice a P.length c, .slice b Q.length d] w fun e w' => e = .returned (.bool (decide (pairs P = pairs Q))) ∧ Sat k w' R := by
  obtain ⟨res, hres⟩ : ∃ res, decide (pairs P = pairs Q) = res := ⟨_, rfl⟩
  rw [hres]
  by_cases hlm : P.length = Q.length
  · have h1 : ((P.length : Int) == Q.length) = true := by simp [hlm]
    have h2 : ((P.length : Int) != Q.length) = false := by simp [hlm]
    have HX : Hid (decide (pairs (P.drop 0) = pairs (Q.drop 0)) = res) := hres
    have HA := Lib.hid ha
    have HB := Lib.hid hb
    have HLM := Lib.hid hlm
    have HRW := Lib.hid hrows
    clear ha hb hres hlm hrows
    go_enter Try.func25, Try.ntmps25
    go_wp2_with fail
    go_loopw [15] (fun s15 wr => ∃ j : Nat, j ≤ P.length ∧ s15 = .int .i64 j ∧ Hid (decide (pairs (P.drop j) = pairs (Q.drop j)) = res) ∧ Sat k wr R) (fun s15 _ => P.length - (intOf s15).toNat)
    case atStart => exact ⟨0, Nat.zero_le _, rfl, HX, h⟩
    case round =>
      clear h HX
      obtain ⟨j, hj, rfl, HS, hs⟩ := hrel
      by_cases hlt : j < P.length
      · have hlt' : (j : Int) < P.length := by omega
        have hltq : j < Q.length := by have := HLM.out; omega
        have hltq' : (j : Int) < Q.length := by omega
        obtain ⟨g, o, rfl, hg⟩ := rds_at HA.out (by rintro rfl; cases hlt)
        obtain ⟨g2, o2, rfl, hg2⟩ := rds_at HB.out (by rintro rfl; cases hltq)
        have HSN := Lib.hid (pairs_drop P Q j hlt hltq)
        have HG : Hid (∀ {w' : World}, Sat k w' R → (w'.cell? ⟨g, o + j * 2, none⟩ = some (.string P[j].nm) ∧ w'.cell? ⟨g, o + j * 2 + 1, none⟩ = some (.slice P[j].a P[j].rows.length P[j].c) ∧ w'.cell? ⟨g2, o2 + j * 2, none⟩ = some (.string Q[j].nm) ∧ w'.cell? ⟨g2, o2 + j * 2 + 1, none⟩ = some (.slice Q[j].a Q[j].rows.length Q[j].c))) := by
          unfold Hid
          intro w' q
          exact ⟨(hg w' q j hlt).1, (hg w' q j hlt).2, (hg2 w' q j hltq).1, (hg2 w' q j hltq).2⟩
        have R1 := Lib.hid (HA.out.2 _ (List.getElem_mem hlt))
        have R2 := Lib.hid (HB.out.2 _ (List.getElem_mem hltq))
        have hrl := HRW.out _ (List.getElem_mem hlt)
        clear hg hg2
        generalize P[j] = p at *
        generalize Q[j] = q at *
        obtain ⟨pn, pa, pc, pr⟩ := p
        obtain ⟨qn, qa, qc, qr⟩ := q
        simp only at HG HSN R1 R2 hrl
        obtain ⟨c0, c1, e0, e1⟩ := HG.out hs
        have hcmp : (pn.toList == qn.toList) = decide (pn = qn) := tl_beq _ _
        by_cases hx : pn = qn
        · rw [decide_eq_true hx] at hcmp
          by_cases hy : pr.length = qr.length
          · have y1 : ((pr.length : Int) == qr.length) = true := by simp [hy]
            have y2 : ((pr.length : Int) != qr.length) = false := by simp [hy]
            have HN : Hid ((decide (pr.drop 0 = qr.drop 0) && decide (pairs (P.drop (j + 1)) = pairs (Q.drop (j + 1)))) = res) := by
              unfold Hid; rw [← HS.out, HSN.out, decide_eq_true hx]; rfl
            have HY := Lib.hid hy
            clear HS HSN hx hy
            go_wp2_with fail
            go_quiet (fail)
            replace hs := hs.drewN nq
            generalize wr.drewN nq = w5 at *
            clear c0 c1 e0 e1
            obtain ⟨c0, c1, e0, e1⟩ := HG.out hs
            go_wp2_with fail
            go_loopw [50] (fun s50 wi => ∃ m : Nat, m ≤ pr.length ∧ s50 = .int .i64 m ∧ Hid ((decide (pr.drop m = qr.drop m) && decide (pairs (P.drop (j + 1)) = pairs (Q.drop (j + 1)))) = res) ∧ Sat k wi R) (fun s50 _ => pr.length - (intOf s50).toNat)
            case atStart => exact ⟨0, Nat.zero_le _, rfl, HN, hs⟩
            case round =>
              clear hs c0 c1 e0 e1 HN
              obtain ⟨m, hm, rfl, HM, hs⟩ := hrel
              by_cases hmt : m < pr.length
              · have hmt' : (m : Int) < pr.length := by omega
                have hmq : m < qr.length := by have := HY.out; omega
                have hmq' : (m : Int) < qr.length := by omega
                obtain ⟨gp, op, rfl, hp⟩ := rdr_at R1.out m hmt
                obtain ⟨gq, oq, rfl, hq⟩ := rdr_at R2.out m hmq
                have HMN : Hid (decide (pr.drop m = qr.drop m) = (decide (pr[m] = qr[m]) && decide (pr.drop (m + 1) = qr.drop (m + 1)))) := by
                  unfold Hid; rw [List.drop_eq_getElem_cons hmt, List.drop_eq_getElem_cons hmq]; simp only [List.cons.injEq, Bool.decide_and]
                obtain ⟨c0, c1⟩ := hp wr hs
                have HQ := Lib.hid hq
                clear hp hq
                generalize pr[m] = x at *
                generalize qr[m] = y at *
                have h4 := hs.alloc (.cells #[.int .i64 x.1, .int .i64 x.2] 45)
                go_upto_region 11 with fail
                generalize wr.alloc (.cells #[.int .i64 x.1, .int .i64 x.2] 45) = w6 at *
                generalize wr.heap.size = oo at *
                have f0 : w6.cell? ⟨oo, 0, none⟩ = some (.int .i64 x.1) := h4.cell 0
                have f1 : w6.cell? ⟨oo, 1, none⟩ = some (.int .i64 x.2) := h4.cell 1
                replace h4 := h4.drop
                clear c0 c1 hs
                obtain ⟨_, _, _, e1⟩ := HG.out h4
                obtain ⟨q0, q1⟩ := HQ.out w6 h4
                have hre := rw_eq x y
                by_cases hxy : x = y
                · rw [decide_eq_true hxy] at hre
                  have HN2 : Hid ((decide (pr.drop (m + 1) = qr.drop (m + 1)) && decide (pairs (P.drop (j + 1)) = pairs (Q.drop (j + 1)))) = res) := by
                    unfold Hid; rw [← HM.out, HMN.out, decide_eq_true hxy]; rfl
                  clear HM HMN hxy
                  go_quiet (fail)
                  replace h4 := h4.drewN nq
                  generalize w6.drewN nq = w7 at *
                  go_wp2_with fail
                  go_roundw
                  case rel => exact ⟨m + 1, by omega, by go_num, HN2, h4⟩
                  case measure => simp [intOf]; omega
                · rw [decide_eq_false hxy] at hre
                  obtain rfl : res = false := by rw [← HM.out, HMN.out, decide_eq_false hxy]; rfl
                  clear HM HMN hxy
                  go_quiet (fail)
                  replace h4 := h4.drewN nq
                  generalize w6.drewN nq = w7 at *
                  go_wp2_with fail
                  go_ret
                  exact ⟨rfl, h4⟩
              · obtain rfl : m = pr.length := by omega
                have HN2 : Hid (decide (pairs (P.drop (j + 1)) = pairs (Q.drop (j + 1))) = res) := by
                  unfold Hid
                  have n1 : pr.drop pr.length = [] := List.drop_eq_nil_of_le (Nat.le_refl _)
                  have n2 : qr.drop pr.length = [] := List.drop_eq_nil_of_le (by have := HY.out; omega)
                  rw [← HM.out, n1, n2]; rfl
                clear HM
                go_wp2_with fail
                go_roundw
                case rel => exact ⟨j + 1, by omega, by go_num, HN2, hs⟩
                case measure => simp [intOf]; omega
          · have y1 : ((pr.length : Int) == qr.length) = false := by simp; omega
            have y2 : ((pr.length : Int) != qr.length) = true := by rw [bne, y1]; rfl
            obtain rfl : res = false := by
              rw [← HS.out, HSN.out, decide_eq_false (p := pr = qr) (by rintro rfl; exact hy rfl)]; simp
            clear HS HSN hx hy
            go_wp2_with fail
            go_quiet (fail)
            replace hs := hs.drewN nq
            generalize wr.drewN nq = w5 at *
            go_wp2_with fail
            go_ret
            exact ⟨rfl, hs⟩
        · rw [decide_eq_false hx] at hcmp
          obtain rfl : res = false := by rw [← HS.out, HSN.out, decide_eq_false hx]; rfl
          clear HS HSN hx
          go_wp2_with fail
          go_quiet (fail)
          replace hs := hs.drewN nq
          generalize wr.drewN nq = w5 at *
          go_wp2_with fail
          go_ret
          exact ⟨rfl, hs⟩
      · obtain rfl : j = P.length := by omega
        obtain rfl : res = true := by
          rw [← HS.out, List.drop_eq_nil_of_le (Nat.le_refl _), List.drop_eq_nil_of_le (by have := HLM.out; omega)]; rfl
        clear HS
        go_wp2_with fail
        go_ret
        exact ⟨rfl, hs⟩
  · have h1 : ((P.length : Int) == Q.length) = false := by simp; omega
    have h2 : ((P.length : Int) != Q.length) = true := by rw [bne, h1]; rfl
    obtain rfl : res = false := by
      rw [← hres]
      refine decide_eq_false fun q => hlm ?_
      have := congrArg List.length q
      unfold pairs at this
      rwa [List.length_map, List.length_map] at this
    clear hlm hres
    go_enter Try.func25, Try.ntmps25
    go_wp2_with fail
    go_ret
    exact ⟨rfl, h⟩

end Go.Proofs.Ytoeepbjnbgpmpaa

namespace Go.Proofs.Ytoeepbjnbgpmpaa
set_option linter.all false
open Go Go.RowKit

theorem rdr_all {k : Env} {w : World} {R : Assn} {a : Option Addr} {l : List Rw2} (h : RdR k R a l) (hs : Sat k w R) : 0 < l.length → ∃ ad', a = some ad' ∧ ∀ j u, (ERw.recs l)[j]? = some u → w.cell? (ad'.add j) = some u := by
  intro hp
  obtain ⟨g, o, e, hn⟩ := rdr_news h hs 0 hp
  refine ⟨⟨g, o, none⟩, e, ?_⟩
  rw [Nat.zero_mul, Nat.add_zero] at hn
  exact hn

set_option maxRecDepth 100000 in
set_option maxHeartbeats 8000000 in
theorem rcopy_any (k : Env) (w : World) (R : Assn) (a : Option Addr) (c : Nat) (P : List TbM) (hr : RdS k R a P) (hn : P.length ≤ 1000000) (hrows : ∀ p ∈ P, p.rows.length ≤ 1000000) (h : Sat k w R) :
    Calls Try.prog 19 #[.slice a P.length c] w fun e w' => ∃ v d P', e = .returned (.slice v P'.length d) ∧ pairs P' = pairs P ∧ Sat k w' (StO (.slice v P'.length d) P' * R) := by
  have HR := Lib.hid hr
  have HRW := Lib.hid hrows
  have hnil : Sat k w (RecS ETb 43 (.slice none 0 0) [] * (stars tbR [] * R)) := rec_nil (by rw [stars, emp_star]; exact h)
  clear hr hrows h
  go_enter Try.func19, Try.ntmps19
  go_wp2_with fail
  go_loopw [3, 4] (fun s3 s4 wr => ∃ (j : Nat) (v : Option Addr) (d : Nat) (acc : List TbM), j ≤ P.length ∧ s4 = .int .i64 j ∧ s3 = .slice v acc.length d ∧ acc.length = j ∧ Hid (pairs acc = pairs (P.take j)) ∧ Sat k wr (RecS ETb 43 (.slice v acc.length d) acc * (stars tbR acc * R))) (fun _ s4 _ => P.length - (intOf s4).toNat)
  case atStart => exact ⟨0, none, 0, [], Nat.zero_le _, rfl, rfl, rfl, rfl, hnil⟩
  case round =>
    clear hnil
    obtain ⟨j, v, d, acc, hj, rfl, rfl, hac, HS, hs⟩ := hrel
    have HAC := Lib.hid hac
    clear hac
    by_cases hlt : j < P.length
    · have hlt' : (j : Int) < P.length := by omega
      obtain ⟨g, o, rfl, hg⟩ := rds_at HR.out (by rintro rfl; cases hlt)
      have HG : Hid (∀ {w' : World}, Sat k w' R → (w'.cell? ⟨g, o + j * 2, none⟩ = some (.string P[j].nm) ∧ w'.cell? ⟨g, o + j * 2 + 1, none⟩ = some (.slice P[j].a P[j].rows.length P[j].c))) := by
        unfold Hid
        intro w' q
        exact hg w' q j hlt
      have R1 := Lib.hid (HR.out.2 _ (List.getElem_mem hlt))
      have hrl := HRW.out _ (List.getElem_mem hlt)
      have HT : Hid (pairs (P.take (j + 1)) = pairs (P.take j) ++ [P[j].p]) := by
        unfold Hid pairs; rw [List.take_succ_eq_append_getElem hlt, List.map_append]; rfl
      clear hg
      generalize P[j] = p at *
      obtain ⟨pn, pa, pc, pr⟩ := p
      simp only [TbM.p] at HG HT R1 hrl
      obtain ⟨c0, c1⟩ := HG.out hs.drop.drop
      have h4 := hs.alloc (.cells #[.string pn, .slice none 0 0] 43)
      go_upto_region 6 with fail
      generalize wr.alloc (.cells #[.string pn, .slice none 0 0] 43) = w4 at *
      generalize wr.heap.size = oo at *
      clear c0 c1 hs
      obtain ⟨c0, c1⟩ := HG.out h4.drop.drop.drop
      have d0 : w4.cell? ⟨oo, 0, none⟩ = some (.string pn) := h4.cell 0
      have d1 : w4.cell? ⟨oo, 1, none⟩ = some (.slice none 0 0) := h4.cell 1
      have HRL : Hid ((ERw.recs pr).length = pr.length * 2) := by unfold Hid; rw [ERw.recs_len]; rfl
      go_region_law (refine step_append_sat TRw (own_nil h4.drew) (.tmp 19) (.tmp 24) pa pr.length pc (ERw.recs pr) rfl rfl rfl (by simp [Act.eval, Act.put]) HRL.out (rdr_all R1.out h4.drop.drop.drop.drew) (ERw.recs_ones pr) (by simp [maxLen]; omega) (by omega) ?_; intro a5 c5 w5 h5; have f1 : w5.cell? ⟨oo, 1, none⟩ = some (.slice none 0 0) := h5.swap.cell 1; have ff := h5.swap.frozen 1)
      all_goals
        simp only [Nat.zero_add, List.nil_append] at h5
        have h6 := h5.swap.set 1 (.slice a5 pr.length c5)
        generalize w5.setCell ⟨oo, 1, none⟩ (.slice a5 pr.length c5) = w6 at *
        have e0 : w6.cell? ⟨oo, 0, none⟩ = some (.string pn) := h6.cell 0
        have e1 : w6.cell? ⟨oo, 1, none⟩ = some (.slice a5 pr.length c5) := h6.cell 1
        have h7 := h6.drop.swap
        have hacl : acc.length ≤ 1000000 := by have := HAC.out; omega
        clear c0 c1 d0 d1 f1 ff h4 h5 h6 HG R1 HRL
        go_upto_region 4 with (at_builtin; refine wpList_append_sat TTb (h7.alloc' _) (.tmp 27) (.tmp 29) _ 1 1 [.string pn, .slice a5 pr.length c5] rfl rfl rfl rfl rfl (fun _ => ⟨_, rfl, new_cells_at _ _ _ _ (by first | rfl | simp)⟩) (ETb.one ⟨pn, a5, c5, pr⟩) (by simp [maxLen]; omega) (by omega) ?_; intro a8 c8 w8 h8)
        have h9 := rec_push (E := ETb) (l := acc) (x := ⟨pn, a5, c5, pr⟩) h8
        have hln : (acc ++ [(⟨pn, a5, c5, pr⟩ : TbM)]).length = acc.length + 1 := by simp
        have h10 : Sat k w8 (RecS ETb 43 (.slice a8 (acc ++ [(⟨pn, a5, c5, pr⟩ : TbM)]).length c8) (acc ++ [⟨pn, a5, c5, pr⟩]) * (stars tbR (acc ++ [⟨pn, a5, c5, pr⟩]) * R)) := by
          rw [hln, stars_snoc, star_assoc]; exact h9
        have HN : Hid (pairs (acc ++ [(⟨pn, a5, c5, pr⟩ : TbM)]) = pairs (P.take (j + 1))) := by
          unfold Hid; rw [HT.out, ← HS.out]; unfold pairs; rw [List.map_append]; rfl
        have HL := Lib.hid hln
        clear HS HT hln h7 h8 h9
        go_wp2_with fail
        go_roundw
        case rel => exact ⟨j + 1, a8, c8, _, by omega, by go_num, by rw [HL.out], by rw [HL.out, HAC.out], HN, h10⟩
        case measure => simp [intOf]; omega
    · obtain rfl : j = P.length := by omega
      have HN : Hid (pairs acc = pairs P) := by unfold Hid; rw [HS.out, List.take_length]
      clear HS
      go_wp2_with fail
      go_ret
      exact ⟨v, d, acc, rfl, HN.out, hs.of_eq (by unfold StO; rw [star_assoc])⟩

end Go.Proofs.Ytoeepbjnbgpmpaa
