/- Contracts of package pool: Ask. -/
import Derived.Test.YticponkpgaofnaaPoolJ
import Derived.Laws.EntriesVeiled
namespace Go.Proofs.Yticponkpgaofnaa
set_option linter.all false
open Go Go.RowKit

def withG (s : ByteArray) (G : List Gp) : List Gp := if (∃ g ∈ G, g.name = s) then G else G ++ [⟨s, [], []⟩]
def withN (s : ByteArray) (G : List Gp) (N : List ByteArray) : List ByteArray := if (∃ g ∈ G, g.name = s) then N else insN s N
theorem withG_conns (s : ByteArray) (G : List Gp) : conns (withG s G) = conns G ∧ waitr (withG s G) = waitr G := by
  unfold withG
  split
  · exact ⟨rfl, rfl⟩
  · constructor <;> simp [conns, waitr]
theorem PInv.withG {P : PP} {last : Int} {G : List Gp} {N : List ByteArray} {M K : List (Int × Int)} (h : PInv P last G N M K) (s : ByteArray) : PInv P last (withG s G) (withN s G N) M K := by
  have hc := withG_conns s G
  refine ⟨?_, ?_, by rw [hc.1, hc.2]; exact h.pi, ?_, h.ok⟩
  · unfold Proofs.Yticponkpgaofnaa.withG
    split
    · exact h.nn
    · rename_i hx
      rw [List.map_append, List.nodup_append]
      refine ⟨h.nn, by simp, fun a ha b hb e => ?_⟩
      obtain ⟨g, hg, rfl⟩ := List.mem_map.1 ha
      simp at hb
      exact hx ⟨g, hg, by rw [e, hb]⟩
  · unfold withN Proofs.Yticponkpgaofnaa.withG
    split
    · exact h.pn
    · rw [List.map_append]
      refine (insN_perm s N).trans ((h.pn.cons s).trans ?_)
      exact (List.perm_append_singleton s _).symm
  · intro g hg
    unfold Proofs.Yticponkpgaofnaa.withG at hg
    split at hg
    · exact h.sz g hg
    · rcases List.mem_append.1 hg with hg | hg
      · exact h.sz g hg
      · simp at hg; subst hg
        have := h.ok.1
        show ((([] : List Cn).length : Nat) : Int) ≤ P.lim
        simp; omega

theorem group_any (k : Env) (w : World) (R : Assn) (b : Nat) (P : PP) (last : Int) (A : Int → Nat) (B L : ByteArray → Nat) (G : List Gp) (N : List ByteArray) (M K : List (Int × Int)) (s : ByteArray) (hi : PInv P last G N M K) (hN : (G.length : Int) ≤ 1073741824)
    (h : Sat k w (PoolR b P last A B L G N M K * R)) :
    Calls Try.prog 22 #[pt b, .string s] w fun e w' => ∃ B' L', e = .returned (pt (B' s)) ∧ Sat k w' (PoolR b P last A B' L' (withG s G) (withN s G N) M K * R) := by
  by_cases hx : ∃ g ∈ G, g.name = s
  · have e1 : withG s G = G := by unfold withG; rw [if_pos hx]
    have e2 : withN s G N = N := by unfold withN; rw [if_pos hx]
    rw [e1, e2]
    obtain ⟨g, hg, rfl⟩ := hx
    obtain ⟨p, q, rfl⟩ := List.append_of_mem hg
    refine (group_old k w R b P last A B L p q g N M K hi.nn h).mono ?_
    rintro e w' ⟨rfl, rfl⟩
    exact ⟨B, L, rfl, h⟩
  · have e1 : withG s G = G ++ [⟨s, [], []⟩] := by unfold withG; rw [if_neg hx]
    have e2 : withN s G N = insN s N := by unfold withN; rw [if_neg hx]
    rw [e1, e2]
    have hl : N.length = G.length := by have := hi.pn.length_eq; simpa using this
    refine (group_new k w R b P last A B L G N M K s hi.ok (fun g hg e => hx ⟨g, hg, e⟩) (by omega) h).mono ?_
    rintro e w' ⟨gb, lb, rfl, h1⟩
    exact ⟨upd B s gb, upd L s lb, by rw [upd_new], h1⟩

theorem best_pool (k : Env) (w : World) (R : Assn) (b : Nat) (P : PP) (last : Int) (A : Int → Nat) (B L : ByteArray → Nat) (p q : List Gp) (g : Gp) (N : List ByteArray) (M K : List (Int × Int)) (h : Sat k w (PoolR b P last A B L (p ++ g :: q) N M K * R)) :
    Calls Try.prog 24 #[pt b, pt (B g.name)] w fun e w' => e = .returned (.tuple #[optP A (bestC g.cs), .bool false]) ∧ Sat k w' (PoolR b P last A B L (p ++ g :: q) N M K * R) := by
  obtain ⟨mG, vN, mC, mK, hs⟩ := pool_open h
  rw [stars_mid, star_assoc] at hs
  refine (best_any k w _ (pt b) A B L P.que g hs.get6).mono ?_
  rintro e w' ⟨rfl, h1⟩
  refine ⟨rfl, pool_close (mG := mG) (mC := mC) (mK := mK) (vN := vN) (cs := cellsP P last mG vN mC mK) (e1 := gents B (p ++ g :: q)) (e2 := ments A M) (e3 := ments A K) ?_ rfl rfl rfl rfl⟩
  rw [stars_mid, star_assoc]
  exact h1.put6

set_option maxHeartbeats 1000000 in
theorem ask_arg (k : Env) (w : World) (R : Assn) (b : Nat) (P : PP) (last : Int) (G : List Gp) (N : List ByteArray) (s : ByteArray) (x now : Int) (hx : x < 0 ∨ now < 0 ∨ 549755813888 < now) (h : Sat k w (PoolV b P last G N * R)) :
    Calls Try.prog 8 #[pt b, .string s, .int .i64 x, .int .i64 now] w fun e w' => e = .returned (.tuple #[loanV 0 0 false, .bool false, .int .i64 1]) ∧ Sat k w' (PoolV b P last G N * R) := by
  (
    have h0 := (h.alloc (.cells loan0.toArray 30)).swap
    obtain ⟨A, B, L, M, K, hi, hr⟩ := pv_open h0
    obtain ⟨mG, vN, mC, mK, hs⟩ := pool_open hr
    go_enter Try.func8, Try.ntmps8
    go_upto_region 1 with fail
    generalize w.alloc (.cells loan0.toArray 30) = w0 at *
    generalize w.heap.size = og at *
    have c5 : w0.cell? ⟨b, 5, none⟩ = some (.map (some mG)) := hs.cell 5
    have c8 : w0.cell? ⟨b, 8, none⟩ = some (.map (some mK)) := hs.cell 8)
  have e0 : w0.cell? ⟨og, 0, none⟩ = some (.int .i64 0) := h0.drop.cell 0
  have e1 : w0.cell? ⟨og, 1, none⟩ = some (.int .i64 0) := h0.drop.cell 1
  have e2 : w0.cell? ⟨og, 2, none⟩ = some (.bool false) := h0.drop.cell 2
  have f0 := h0.drop.frozen
  by_cases q1 : x < 0
  · go_wp2_with (go_at_call 20; refine (pthere_any _ _ _ c5).mono ?_; rintro e w' ⟨rfl, rfl⟩)
    (
      refine bodyPost_ret (v := .tuple #[loanV 0 0 false, .bool false, .int .i64 1]) (by simp [results, Try.results8, go_sem, e0, e1, e2, loanV]) rfl ⟨rfl, ?_⟩
      exact (((h0.swap.set 0 _).set 1 _).set 2 _).drop)
  by_cases q2 : now < 0
  · go_wp2_with (go_at_call 20; refine (pthere_any _ _ _ c5).mono ?_; rintro e w' ⟨rfl, rfl⟩)
    (
      refine bodyPost_ret (v := .tuple #[loanV 0 0 false, .bool false, .int .i64 1]) (by simp [results, Try.results8, go_sem, e0, e1, e2, loanV]) rfl ⟨rfl, ?_⟩
      exact (((h0.swap.set 0 _).set 1 _).set 2 _).drop)
  have q3 : 549755813888 < now := by omega
  go_wp2_with (go_at_call 20; refine (pthere_any _ _ _ c5).mono ?_; rintro e w' ⟨rfl, rfl⟩)
  (
    refine bodyPost_ret (v := .tuple #[loanV 0 0 false, .bool false, .int .i64 1]) (by simp [results, Try.results8, go_sem, e0, e1, e2, loanV]) rfl ⟨rfl, ?_⟩
    exact (((h0.swap.set 0 _).set 1 _).set 2 _).drop)

set_option maxHeartbeats 1000000 in
theorem ask_holds (k : Env) (w : World) (R : Assn) (b : Nat) (P : PP) (last : Int) (p q : List Gp) (g : Gp) (N : List ByteArray) (r t : List Cn) (c : Cn) (hc : g.cs = r ++ c :: t) (s : ByteArray) (now : Int) (hx : 0 ≤ c.cl) (q1 : ¬ now < 0) (q2 : ¬ 549755813888 < now) (h : Sat k w (PoolV b P last (p ++ g :: q) N * R)) :
    Calls Try.prog 8 #[pt b, .string s, .int .i64 c.cl, .int .i64 now] w fun e w' => e = .returned (.tuple #[loanV 0 0 false, .bool false, .int .i64 10]) ∧ Sat k w' (PoolV b P last (p ++ g :: q) N * R) := by
  (
    have h0 := (h.alloc (.cells loan0.toArray 30)).swap
    obtain ⟨A, B, L, M, K, hi, hr⟩ := pv_open h0
    obtain ⟨mG, vN, mC, mK, hs⟩ := pool_open hr
    go_enter Try.func8, Try.ntmps8
    go_upto_region 1 with fail
    generalize w.alloc (.cells loan0.toArray 30) = w0 at *
    generalize w.heap.size = og at *
    have c5 : w0.cell? ⟨b, 5, none⟩ = some (.map (some mG)) := hs.cell 5
    have c8 : w0.cell? ⟨b, 8, none⟩ = some (.map (some mK)) := hs.cell 8)
  have hl := run_lookup_sat KInt mapC zeroC hs.get5 c.cl
  rw [ments_get, hold_K hi hc (by omega)] at hl
  simp only [Option.map_some, Option.getD_some] at hl
  have e0 : w0.cell? ⟨og, 0, none⟩ = some (.int .i64 0) := h0.drop.cell 0
  have e1 : w0.cell? ⟨og, 1, none⟩ = some (.int .i64 0) := h0.drop.cell 1
  have e2 : w0.cell? ⟨og, 2, none⟩ = some (.bool false) := h0.drop.cell 2
  have f0 := h0.drop.frozen
  have q0 : ¬ c.cl < 0 := by omega
  clear hc
  go_wp2_with (go_at_call 20; refine (pthere_any _ _ _ c5).mono ?_; rintro e w' ⟨rfl, rfl⟩)
  (
    refine bodyPost_ret (v := .tuple #[loanV 0 0 false, .bool false, .int .i64 10]) (by simp [results, Try.results8, go_sem, e0, e1, e2, loanV]) rfl ⟨rfl, ?_⟩
    exact (((h0.swap.set 0 _).set 1 _).set 2 _).drop)

set_option maxHeartbeats 1000000 in
theorem ask_waits (k : Env) (w : World) (R : Assn) (b : Nat) (P : PP) (last : Int) (G : List Gp) (N : List ByteArray) (s : ByteArray) (x now : Int) (hx : NoHold G x) (hw : x ∈ waitr G) (q0 : ¬ x < 0) (q1 : ¬ now < 0) (q2 : ¬ 549755813888 < now) (h : Sat k w (PoolV b P last G N * R)) :
    Calls Try.prog 8 #[pt b, .string s, .int .i64 x, .int .i64 now] w fun e w' => e = .returned (.tuple #[loanV 0 0 false, .bool false, .int .i64 10]) ∧ Sat k w' (PoolV b P last G N * R) := by
  (
    have h0 := (h.alloc (.cells loan0.toArray 30)).swap
    obtain ⟨A, B, L, M, K, hi, hr⟩ := pv_open h0
    obtain ⟨mG, vN, mC, mK, hs⟩ := pool_open hr
    go_enter Try.func8, Try.ntmps8
    go_upto_region 1 with fail
    generalize w.alloc (.cells loan0.toArray 30) = w0 at *
    generalize w.heap.size = og at *
    have c5 : w0.cell? ⟨b, 5, none⟩ = some (.map (some mG)) := hs.cell 5
    have c8 : w0.cell? ⟨b, 8, none⟩ = some (.map (some mK)) := hs.cell 8)
  have hl := run_lookup_sat KInt mapC zeroC hs.get5 x
  rw [ments_get, (nohold_K hi).2 hx] at hl
  simp only [Option.map_none, Option.getD_none] at hl
  have HW := Lib.hid (decide_eq_true hw)
  clear hx hw
  go_wp2_with (first | (go_at_call 20; refine (pthere_any _ _ _ c5).mono ?_; rintro e w' ⟨rfl, rfl⟩) | (go_at_call 21; refine (waits_any k _ _ b P last A B L G N M K x hr).mono ?_; rintro e w2 ⟨rfl, h2⟩; rw [HW.out]; have e0 : w2.cell? ⟨og, 0, none⟩ = some (.int .i64 0) := h2.drop.cell 0; have e1 : w2.cell? ⟨og, 1, none⟩ = some (.int .i64 0) := h2.drop.cell 1; have e2 : w2.cell? ⟨og, 2, none⟩ = some (.bool false) := h2.drop.cell 2; have f0 := h2.drop.frozen))
  refine bodyPost_ret (v := .tuple #[loanV 0 0 false, .bool false, .int .i64 10]) (by simp [results, Try.results8, go_sem, e0, e1, e2, loanV]) rfl ⟨rfl, ?_⟩
  exact pv_close (((h2.swap.set 0 _).set 1 _).set 2 _).drop hi

set_option maxHeartbeats 4000000 in
theorem ask_best (k : Env) (w : World) (R : Assn) (b : Nat) (P : PP) (last : Int) (G p q : List Gp) (g : Gp) (N : List ByteArray) (s : ByteArray) (x now : Int) (hG : (G.length : Int) ≤ 1073741824) (hx : NoHold G x) (hw : x ∉ waitr G) (q0 : ¬ x < 0) (q1 : ¬ now < 0) (q2 : ¬ 549755813888 < now)
    (hgs : withG s G = p ++ g :: q) (hgn : g.name = s) (hsp : g.sp = []) (r t : List Cn) (c : Cn) (hc : g.cs = r ++ c :: t) (hb : bestC g.cs = some c) (h : Sat k w (PoolV b P last G N * R)) :
    Calls Try.prog 8 #[pt b, .string s, .int .i64 x, .int .i64 now] w fun e w' => e = .returned (.tuple #[loanV x c.num false, .bool true, .int .i64 0]) ∧ Sat k w' (PoolV b P last (p ++ ⟨g.name, r ++ ⟨c.num, x, c.since, false⟩ :: t, g.sp⟩ :: q) (withN s G N) * R) := by
  have HB := Lib.hid hb
  have HC := Lib.hid hc
  have HS := Lib.hid hsp
  have hsz : g.sp.length = 0 := by rw [hsp]; rfl
  have HSZ := Lib.hid hsz
  clear hb hc hsp hsz
  (
    (
      have h0 := (h.alloc (.cells loan0.toArray 30)).swap
      obtain ⟨A, B, L, M, K, hi, hr⟩ := pv_open h0
      obtain ⟨mG, vN, mC, mK, hs⟩ := pool_open hr
      go_enter Try.func8, Try.ntmps8
      go_upto_region 1 with fail
      generalize w.alloc (.cells loan0.toArray 30) = w0 at *
      generalize w.heap.size = og at *
      have c5 : w0.cell? ⟨b, 5, none⟩ = some (.map (some mG)) := hs.cell 5
      have c8 : w0.cell? ⟨b, 8, none⟩ = some (.map (some mK)) := hs.cell 8)
    have hl := run_lookup_sat KInt mapC zeroC hs.get5 x
    rw [ments_get, (nohold_K hi).2 hx] at hl
    simp only [Option.map_none, Option.getD_none] at hl
    have HW := Lib.hid (decide_eq_false hw)
    have HX := Lib.hid hx
    have HWN := Lib.hid hw
    clear hx hw
    go_wp2_with (first | (go_at_call 20; refine (pthere_any _ _ _ c5).mono ?_; rintro e w' ⟨rfl, rfl⟩) | (go_at_call 21; refine (waits_any k _ _ b P last A B L G N M K x hr).mono ?_; rintro e w2 ⟨rfl, h2⟩; rw [HW.out]))
    clear hs hr h0 c5 c8 hl
    refine (group_any k _ _ b P last A B L G N M K s hi hG h2).mono ?_
    rintro e w3 ⟨B2, L2, rfl, h3⟩
    replace hi := hi.withG s
    rw [hgs] at h3 hi
    subst hgn
    have HGS := Lib.hid hgs
    clear h2 hgs
    obtain ⟨mG2, vN2, mC2, mK2, a2, cap2, hg2⟩ := pool_group h3
    have g1 : w3.cell? ⟨B2 g.name, 1, none⟩ = some (pt (L2 g.name)) := hg2.swap.cell 1
    go_wp2_with fail
    refine (all_any k _ _ (L2 g.name) g.sp P.que hg2.get8).mono ?_
    rintro e w4 ⟨v4, rfl, h4⟩
    obtain ⟨va, vc, hv⟩ := own_val h4
    subst hv
    rw [List.length_map]
    have h5 := pool_group_close (p := p) (q := q) (ks := g.cs) (sp := g.sp) (nm := g.name) (M := M) (K := K) h4.drop.put8 rfl rfl rfl rfl rfl rfl
    clear h4 hg2 h3 g1)
  rw [HSZ.out]
  go_wp2_with fail
  have h6 := h5.alloc (.cells #[.func (.func 24) #[] #[], .func (.func 25) #[] #[]] 66)
  generalize w4.alloc (.cells #[.func (.func 24) #[] #[], .func (.func 25) #[] #[]] 66) = w5 at *
  generalize w4.heap.size = gs at *
  go_loopg [13, 14, 15, 61] 1 (fun gk _ _ _ i wr => gk = 1 ∧ i = .int .i64 0 ∧ Sat k wr (blk gs (.cells #[.func (.func 24) #[] #[], .func (.func 25) #[] #[]] 66) * (PoolR b P last A B2 L2 (p ++ g :: q) (withN g.name G N) M K * (blk og (.cells loan0.toArray 30) * R))))
  case atStart => exact ⟨rfl, rfl, h6⟩
  case round =>
    obtain ⟨rfl, rfl, hr⟩ := hrel
    have s0 : wr.cell? ⟨gs, 0, none⟩ = some (.func (.func 24) #[] #[]) := hr.cell 0
    go_wp2_with fail
    refine (best_pool k _ _ b P last A B2 L2 p q g _ M K (hr.swap.alloc' _)).mono ?_
    rintro e w6 ⟨rfl, h7⟩
    rw [HB.out]
    simp only [optP]
    go_wp2_with fail
    refine (lend_any k _ _ b P last A B2 L2 p q g _ M K r t c HC.out x false h7).mono ?_
    rintro e w7 ⟨rfl, h8⟩
    have e0 : w7.cell? ⟨og, 0, none⟩ = some (.int .i64 0) := h8.get3.cell 0
    have e1 : w7.cell? ⟨og, 1, none⟩ = some (.int .i64 0) := h8.get3.cell 1
    have e2 : w7.cell? ⟨og, 2, none⟩ = some (.bool false) := h8.get3.cell 2
    have f0 := h8.get3.frozen
    unfold loanV
    go_wp2_with fail
    refine bodyPost_ret (v := .tuple #[loanV x c.num false, .bool true, .int .i64 0]) (by simp [results, Try.results8, go_sem, e0, e1, e2, loanV]) rfl ⟨rfl, ?_⟩
    have h9 := (((h8.get3.set 0 (.int .i64 x)).set 1 (.int .i64 c.num)).set 2 (.bool false)).drop.drop2
    have hcl : c.cl = -1 := by
      rcases bestC_mem HB.out with ⟨_, h⟩ | h
      · exact h
      · cases h
    have hwg := withG_conns g.name G
    refine pv_close h9 (hi.turn rfl (by have := hi.sz g (by simp); rw [HC.out] at this; simpa using this) (pi_to ((pi_at hi HC.out).lend hcl x (by omega) ?_ ?_ _ rfl rfl)))
    · rw [(nohold_K hi), ← HGS.out]
      unfold NoHold
      rw [hwg.1]
      exact HX.out
    · intro hm
      have h10 := (waitr_perm p q g).mem_iff.2 hm
      rw [← HGS.out, hwg.2] at h10
      exact HWN.out h10

set_option maxHeartbeats 4000000 in
theorem ask_made (k : Env) (w : World) (R : Assn) (b : Nat) (P : PP) (last : Int) (G p q : List Gp) (g : Gp) (N : List ByteArray) (s : ByteArray) (x now : Int) (hG : (G.length : Int) ≤ 1073741824) (hx : NoHold G x) (hw : x ∉ waitr G) (q0 : ¬ x < 0) (q1 : ¬ now < 0) (q2 : ¬ 549755813888 < now)
    (hgs : withG s G = p ++ g :: q) (hgn : g.name = s) (hsp : g.sp = []) (hb : bestC g.cs = none) (hl : (g.cs.length : Int) < P.lim) (hlast : last ≤ 4611686018427387904) (h : Sat k w (PoolV b P last G N * R)) :
    Calls Try.prog 8 #[pt b, .string s, .int .i64 x, .int .i64 now] w fun e w' => e = .returned (.tuple #[loanV x (last + 1) true, .bool true, .int .i64 0]) ∧ Sat k w' (PoolV b P (last + 1) (p ++ ⟨g.name, g.cs ++ [newLent (last + 1) x], g.sp⟩ :: q) (withN s G N) * R) := by
  have HB := Lib.hid hb
  have hsz : g.sp.length = 0 := by rw [hsp]; rfl
  have HSZ := Lib.hid hsz
  clear hb hsp hsz
  (
    (
      have h0 := (h.alloc (.cells loan0.toArray 30)).swap
      obtain ⟨A, B, L, M, K, hi, hr⟩ := pv_open h0
      obtain ⟨mG, vN, mC, mK, hs⟩ := pool_open hr
      go_enter Try.func8, Try.ntmps8
      go_upto_region 1 with fail
      generalize w.alloc (.cells loan0.toArray 30) = w0 at *
      generalize w.heap.size = og at *
      have c5 : w0.cell? ⟨b, 5, none⟩ = some (.map (some mG)) := hs.cell 5
      have c8 : w0.cell? ⟨b, 8, none⟩ = some (.map (some mK)) := hs.cell 8)
    have hl := run_lookup_sat KInt mapC zeroC hs.get5 x
    rw [ments_get, (nohold_K hi).2 hx] at hl
    simp only [Option.map_none, Option.getD_none] at hl
    have HW := Lib.hid (decide_eq_false hw)
    have HX := Lib.hid hx
    have HWN := Lib.hid hw
    clear hx hw
    go_wp2_with (first | (go_at_call 20; refine (pthere_any _ _ _ c5).mono ?_; rintro e w' ⟨rfl, rfl⟩) | (go_at_call 21; refine (waits_any k _ _ b P last A B L G N M K x hr).mono ?_; rintro e w2 ⟨rfl, h2⟩; rw [HW.out]))
    clear hs hr h0 c5 c8 hl
    refine (group_any k _ _ b P last A B L G N M K s hi hG h2).mono ?_
    rintro e w3 ⟨B2, L2, rfl, h3⟩
    replace hi := hi.withG s
    rw [hgs] at h3 hi
    subst hgn
    have HGS := Lib.hid hgs
    clear h2 hgs
    obtain ⟨mG2, vN2, mC2, mK2, a2, cap2, hg2⟩ := pool_group h3
    have g1 : w3.cell? ⟨B2 g.name, 1, none⟩ = some (pt (L2 g.name)) := hg2.swap.cell 1
    go_wp2_with fail
    refine (all_any k _ _ (L2 g.name) g.sp P.que hg2.get8).mono ?_
    rintro e w4 ⟨v4, rfl, h4⟩
    obtain ⟨va, vc, hv⟩ := own_val h4
    subst hv
    rw [List.length_map]
    have h5 := pool_group_close (p := p) (q := q) (ks := g.cs) (sp := g.sp) (nm := g.name) (M := M) (K := K) h4.drop.put8 rfl rfl rfl rfl rfl rfl
    clear h4 hg2 h3 g1)
  rw [HSZ.out]
  go_wp2_with fail
  have h6 := h5.alloc (.cells #[.func (.func 24) #[] #[], .func (.func 25) #[] #[]] 66)
  generalize w4.alloc (.cells #[.func (.func 24) #[] #[], .func (.func 25) #[] #[]] 66) = w5 at *
  generalize w4.heap.size = gs at *
  go_loopg [13, 14, 15, 61] 2 (fun gk _ _ _ i wr => ∃ j : Nat, j ≤ 1 ∧ gk = 2 - j ∧ i = .int .i64 j ∧ Sat k wr (blk gs (.cells #[.func (.func 24) #[] #[], .func (.func 25) #[] #[]] 66) * (PoolR b P last A B2 L2 (p ++ g :: q) (withN g.name G N) M K * (blk og (.cells loan0.toArray 30) * R))))
  case atStart => exact ⟨0, by omega, rfl, rfl, h6⟩
  case round =>
    obtain ⟨j, hj, rfl, rfl, hr⟩ := hrel
    have s0 : wr.cell? ⟨gs, 0, none⟩ = some (.func (.func 24) #[] #[]) := hr.cell 0
    have s1 : wr.cell? ⟨gs, 1, none⟩ = some (.func (.func 25) #[] #[]) := hr.cell 1
    rcases Nat.eq_zero_or_pos j with rfl | hj1
    · go_wp2_with fail
      refine (best_pool k _ _ b P last A B2 L2 p q g _ M K (hr.swap.alloc' _)).mono ?_
      rintro e w6 ⟨rfl, h7⟩
      rw [HB.out]
      simp only [optP]
      go_wp2_with fail
      go_roundg 1
      case measure => omega
      case rel => exact ⟨1, by omega, rfl, by go_num, h7.swap⟩
    · obtain rfl : j = 1 := by omega
      have hq := hi.pi
      go_wp2_with fail
      refine (made_any k _ _ b P last A B2 L2 p q g _ M K hl hi.ok hq.l0 hlast hq.cval hq.mval hq.kval (hr.swap.alloc' _)).mono ?_
      rintro e w6 ⟨ca, rfl, h7⟩
      have HA := Lib.hid (upd_new A (last + 1) ca)
      generalize upd A (last + 1) ca = A2 at *
      go_wp2_with fail
      refine (lend_last k _ _ b P (last + 1) A2 B2 L2 p q g.name g.cs g.sp _ _ _ (last + 1) ca HA.out x true h7).mono ?_
      rintro e w7 ⟨rfl, h8⟩
      have e0 : w7.cell? ⟨og, 0, none⟩ = some (.int .i64 0) := h8.get3.cell 0
      have e1 : w7.cell? ⟨og, 1, none⟩ = some (.int .i64 0) := h8.get3.cell 1
      have e2 : w7.cell? ⟨og, 2, none⟩ = some (.bool false) := h8.get3.cell 2
      have f0 := h8.get3.frozen
      unfold loanV
      go_wp2_with fail
      refine bodyPost_ret (v := .tuple #[loanV x (last + 1) true, .bool true, .int .i64 0]) (by simp [results, Try.results8, go_sem, e0, e1, e2, loanV]) rfl ⟨rfl, ?_⟩
      have h9 := (((h8.get3.set 0 (.int .i64 x)).set 1 (.int .i64 (last + 1))).set 2 (.bool true)).drop.drop2
      have hwg := withG_conns g.name G
      have hq2 : PI (conns p ++ (g.cs ++ conns q)) (g.sp.map (·.1) ++ (waitr p ++ waitr q)) M K last := hq.perm (by rw [conns_mid]) (waitr_perm p q g)
      have hk : mget x K = none := by
        rw [(nohold_K hi), ← HGS.out]
        unfold NoHold
        rw [hwg.1]
        exact HX.out
      have hwn : x ∉ g.sp.map (·.1) ++ (waitr p ++ waitr q) := by
        intro hm
        have h10 := (waitr_perm p q g).mem_iff.2 hm
        rw [← HGS.out, hwg.2] at h10
        exact HWN.out h10
      refine pv_close h9 (hi.turn rfl (by show ((g.cs ++ [newLent (last + 1) x]).length : Int) ≤ P.lim; rw [List.length_append, List.length_singleton]; omega) ?_)
      exact ((hq2.made (newCn (last + 1)) rfl rfl).lend rfl x (by omega) hk hwn (newLent (last + 1) x) rfl rfl).perm (conns_snoc p q ⟨g.name, g.cs ++ [newLent (last + 1) x], g.sp⟩ g.cs _ rfl).symm (waitr_perm p q ⟨g.name, g.cs ++ [newLent (last + 1) x], g.sp⟩).symm


set_option maxRecDepth 100000 in
set_option maxHeartbeats 4000000 in
theorem ask_behind (k : Env) (w : World) (R : Assn) (b : Nat) (P : PP) (last : Int) (G p q : List Gp) (g : Gp) (N : List ByteArray) (s : ByteArray) (x now : Int) (hG : (G.length : Int) ≤ 1073741824) (hx : NoHold G x) (hw : x ∉ waitr G) (q0 : ¬ x < 0) (q1 : ¬ now < 0) (q2 : ¬ 549755813888 < now)
    (hgs : withG s G = p ++ g :: q) (hgn : g.name = s) (hsp : g.sp ≠ []) (h : Sat k w (PoolV b P last G N * R)) :
    Calls Try.prog 8 #[pt b, .string s, .int .i64 x, .int .i64 now] w fun e w' => e = .returned (.tuple #[loanV 0 0 false, .bool false, .int .i64 (joinE g.sp P.que x (now + P.wt))]) ∧ Sat k w' (PoolV b P last (p ++ ⟨g.name, g.cs, joinL g.sp P.que x (now + P.wt)⟩ :: q) (withN s G N) * R) := by
  have hsz : 0 < g.sp.length := by
    rcases hq : g.sp with _ | ⟨y, t⟩
    · exact absurd hq hsp
    · simp
  clear hsp
  (
    (
      have h0 := (h.alloc (.cells loan0.toArray 30)).swap
      obtain ⟨A, B, L, M, K, hi, hr⟩ := pv_open h0
      obtain ⟨mG, vN, mC, mK, hs⟩ := pool_open hr
      go_enter Try.func8, Try.ntmps8
      go_upto_region 1 with fail
      generalize w.alloc (.cells loan0.toArray 30) = w0 at *
      generalize w.heap.size = og at *
      have c5 : w0.cell? ⟨b, 5, none⟩ = some (.map (some mG)) := hs.cell 5
      have c8 : w0.cell? ⟨b, 8, none⟩ = some (.map (some mK)) := hs.cell 8)
    have hl := run_lookup_sat KInt mapC zeroC hs.get5 x
    rw [ments_get, (nohold_K hi).2 hx] at hl
    simp only [Option.map_none, Option.getD_none] at hl
    have HW := Lib.hid (decide_eq_false hw)
    have HX := Lib.hid hx
    have HWN := Lib.hid hw
    clear hx hw
    go_wp2_with (first | (go_at_call 20; refine (pthere_any _ _ _ c5).mono ?_; rintro e w' ⟨rfl, rfl⟩) | (go_at_call 21; refine (waits_any k _ _ b P last A B L G N M K x hr).mono ?_; rintro e w2 ⟨rfl, h2⟩; rw [HW.out]))
    clear hs hr h0 c5 c8 hl
    refine (group_any k _ _ b P last A B L G N M K s hi hG h2).mono ?_
    rintro e w3 ⟨B2, L2, rfl, h3⟩
    replace hi := hi.withG s
    rw [hgs] at h3 hi
    subst hgn
    have HGS := Lib.hid hgs
    clear h2 hgs
    obtain ⟨mG2, vN2, mC2, mK2, a2, cap2, hg2⟩ := pool_group h3
    have g1 : w3.cell? ⟨B2 g.name, 1, none⟩ = some (pt (L2 g.name)) := hg2.swap.cell 1
    go_wp2_with fail
    refine (all_any k _ _ (L2 g.name) g.sp P.que hg2.get8).mono ?_
    rintro e w4 ⟨v4, rfl, h4⟩
    obtain ⟨va, vc, hv⟩ := own_val h4
    subst hv
    rw [List.length_map]
    have h5 := pool_group_close (p := p) (q := q) (ks := g.cs) (sp := g.sp) (nm := g.name) (M := M) (K := K) h4.drop.put8 rfl rfl rfl rfl rfl rfl
    clear h4 hg2 h3 g1)
  have hsz2 : ((g.sp.length : Int) == 0) = false := by rw [beq_eq_false_iff_ne]; omega
  go_wp2_with fail
  have hT := h5
  generalize w4 = wt at *
  clear hsz2 h5
  (
    obtain ⟨mG3, vN3, mC3, mK3, a3, cap3, hg⟩ := pool_group hT
    have t1 : wt.cell? ⟨B2 g.name, 1, none⟩ = some (pt (L2 g.name)) := hg.swap.cell 1
    have t2 : wt.cell? ⟨b, 2, none⟩ = some (.int .i64 P.wt) := hg.cell 2
    have wb1 := hi.ok.2.2.2.2.1
    have wb2 := hi.ok.2.2.2.2.2.1
    have ww : IntKind.i64.wrap (now + P.wt) = now + P.wt := IntWalk.i64_in _ (by omega)
    go_wp2_with fail
    go_region_held3 (fun w' => w'.cell? ⟨B2 g.name, 1, none⟩ = some (pt (L2 g.name)) ∧ w'.cell? ⟨b, 2, none⟩ = some (.int .i64 P.wt)) (first | exact ⟨t1, t2⟩ | exact ⟨(h8.get3.cell 1).trans rfl, (h8.swap.cell 2).trans rfl⟩ | exact ⟨((((h8.get11.set 0 (.int .i64 0)).set 1 (.int .i64 0)).set 2 (.bool false)).get4.cell 1).trans rfl, ((((h8.get11.set 0 (.int .i64 0)).set 1 (.int .i64 0)).set 2 (.bool false)).get3.cell 2).trans rfl⟩ | fail) (first | (go_at_call 27; ((with_reducible refine (join_any k _ _ (L2 g.name) g.sp P.que x (now + P.wt) hg.drew.get8).mono ?_); rintro e w8 ⟨rfl, h8⟩; have e0 : w8.cell? ⟨og, 0, none⟩ = some (.int .i64 0) := h8.get11.cell 0; have e1 : w8.cell? ⟨og, 1, none⟩ = some (.int .i64 0) := h8.get11.cell 1; have e2 : w8.cell? ⟨og, 2, none⟩ = some (.bool false) := h8.get11.cell 2; have f0 := h8.get11.frozen)) | fail)
    all_goals
      go_wp2_with fail
      refine bodyPost_ret (v := .tuple #[loanV 0 0 false, .bool false, .int .i64 (joinE g.sp P.que x (now + P.wt))]) (by simp [results, Try.results8, go_sem, e0, e1, e2, loanV]) rfl ⟨rfl, ?_⟩
      have h9 := (((h8.get11.set 0 (.int .i64 0)).set 1 (.int .i64 0)).set 2 (.bool false)).drop.put8
      have hwg := withG_conns g.name G
      refine pv_close (M := M) (K := K) (pool_group_close (ks := g.cs) (sp := joinL g.sp P.que x (now + P.wt)) h9 rfl (by simp [gents]) rfl rfl rfl rfl) (hi.turn rfl (hi.sz g (by simp)) ?_)
      have hk : mget x K = none := by
        rw [(nohold_K hi), ← HGS.out]
        unfold NoHold
        rw [hwg.1]
        exact HX.out
      have hq2 : PI (conns (p ++ g :: q)) (g.sp.map (·.1) ++ (waitr p ++ waitr q)) M K last := hi.pi.perm (List.Perm.refl _) (waitr_perm p q g)
      have hwn : x ∉ g.sp.map (·.1) ++ (waitr p ++ waitr q) := by
        intro hm
        have h10 := (waitr_perm p q g).mem_iff.2 hm
        rw [← HGS.out, hwg.2] at h10
        exact HWN.out h10
      have he : conns (p ++ ⟨g.name, g.cs, joinL g.sp P.que x (now + P.wt)⟩ :: q) = conns (p ++ g :: q) := by rw [conns_mid, conns_mid]
      rw [he]
      unfold joinL
      split
      · refine (hq2.joins x (by omega) hk hwn).perm (List.Perm.refl _) (List.Perm.trans ?_ (waitr_perm p q ⟨g.name, g.cs, g.sp ++ [(x, now + P.wt)]⟩).symm)
        rw [List.map_append, List.map_cons, List.map_nil, List.append_assoc]
        exact (List.perm_middle).symm
      · exact hq2.perm (List.Perm.refl _) (waitr_perm p q ⟨g.name, g.cs, g.sp⟩).symm)

set_option maxRecDepth 100000 in
set_option maxHeartbeats 4000000 in
theorem ask_full (k : Env) (w : World) (R : Assn) (b : Nat) (P : PP) (last : Int) (G p q : List Gp) (g : Gp) (N : List ByteArray) (s : ByteArray) (x now : Int) (hG : (G.length : Int) ≤ 1073741824) (hx : NoHold G x) (hw : x ∉ waitr G) (q0 : ¬ x < 0) (q1 : ¬ now < 0) (q2 : ¬ 549755813888 < now)
    (hgs : withG s G = p ++ g :: q) (hgn : g.name = s) (hsp : g.sp = []) (hb : bestC g.cs = none) (hl : P.lim ≤ g.cs.length) (h : Sat k w (PoolV b P last G N * R)) :
    Calls Try.prog 8 #[pt b, .string s, .int .i64 x, .int .i64 now] w fun e w' => e = .returned (.tuple #[loanV 0 0 false, .bool false, .int .i64 (joinE g.sp P.que x (now + P.wt))]) ∧ Sat k w' (PoolV b P last (p ++ ⟨g.name, g.cs, joinL g.sp P.que x (now + P.wt)⟩ :: q) (withN s G N) * R) := by
  have HB := Lib.hid hb
  have hsz : g.sp.length = 0 := by rw [hsp]; rfl
  have HSZ := Lib.hid hsz
  clear hb hsp hsz
  (
    (
      have h0 := (h.alloc (.cells loan0.toArray 30)).swap
      obtain ⟨A, B, L, M, K, hi, hr⟩ := pv_open h0
      obtain ⟨mG, vN, mC, mK, hs⟩ := pool_open hr
      go_enter Try.func8, Try.ntmps8
      go_upto_region 1 with fail
      generalize w.alloc (.cells loan0.toArray 30) = w0 at *
      generalize w.heap.size = og at *
      have c5 : w0.cell? ⟨b, 5, none⟩ = some (.map (some mG)) := hs.cell 5
      have c8 : w0.cell? ⟨b, 8, none⟩ = some (.map (some mK)) := hs.cell 8)
    have hl := run_lookup_sat KInt mapC zeroC hs.get5 x
    rw [ments_get, (nohold_K hi).2 hx] at hl
    simp only [Option.map_none, Option.getD_none] at hl
    have HW := Lib.hid (decide_eq_false hw)
    have HX := Lib.hid hx
    have HWN := Lib.hid hw
    clear hx hw
    go_wp2_with (first | (go_at_call 20; refine (pthere_any _ _ _ c5).mono ?_; rintro e w' ⟨rfl, rfl⟩) | (go_at_call 21; refine (waits_any k _ _ b P last A B L G N M K x hr).mono ?_; rintro e w2 ⟨rfl, h2⟩; rw [HW.out]))
    clear hs hr h0 c5 c8 hl
    refine (group_any k _ _ b P last A B L G N M K s hi hG h2).mono ?_
    rintro e w3 ⟨B2, L2, rfl, h3⟩
    replace hi := hi.withG s
    rw [hgs] at h3 hi
    subst hgn
    have HGS := Lib.hid hgs
    clear h2 hgs
    obtain ⟨mG2, vN2, mC2, mK2, a2, cap2, hg2⟩ := pool_group h3
    have g1 : w3.cell? ⟨B2 g.name, 1, none⟩ = some (pt (L2 g.name)) := hg2.swap.cell 1
    go_wp2_with fail
    refine (all_any k _ _ (L2 g.name) g.sp P.que hg2.get8).mono ?_
    rintro e w4 ⟨v4, rfl, h4⟩
    obtain ⟨va, vc, hv⟩ := own_val h4
    subst hv
    rw [List.length_map]
    have h5 := pool_group_close (p := p) (q := q) (ks := g.cs) (sp := g.sp) (nm := g.name) (M := M) (K := K) h4.drop.put8 rfl rfl rfl rfl rfl rfl
    clear h4 hg2 h3 g1)
  rw [HSZ.out]
  go_wp2_with fail
  have h6 := h5.alloc (.cells #[.func (.func 24) #[] #[], .func (.func 25) #[] #[]] 66)
  generalize w4.alloc (.cells #[.func (.func 24) #[] #[], .func (.func 25) #[] #[]] 66) = w5 at *
  generalize w4.heap.size = gs at *
  go_loopg [13, 14, 15, 61] 2 (fun gk _ _ _ i wr => ∃ j : Nat, j ≤ 2 ∧ gk = 2 - j ∧ i = .int .i64 j ∧ Sat k wr (blk gs (.cells #[.func (.func 24) #[] #[], .func (.func 25) #[] #[]] 66) * (PoolR b P last A B2 L2 (p ++ g :: q) (withN g.name G N) M K * (blk og (.cells loan0.toArray 30) * R))))
  case atStart => exact ⟨0, by omega, rfl, rfl, h6⟩
  case round =>
    obtain ⟨j, hj, rfl, rfl, hr⟩ := hrel
    have s0 : wr.cell? ⟨gs, 0, none⟩ = some (.func (.func 24) #[] #[]) := hr.cell 0
    have s1 : wr.cell? ⟨gs, 1, none⟩ = some (.func (.func 25) #[] #[]) := hr.cell 1
    rcases Nat.eq_zero_or_pos j with rfl | hj1
    · go_wp2_with fail
      refine (best_pool k _ _ b P last A B2 L2 p q g _ M K (hr.swap.alloc' _)).mono ?_
      rintro e w6 ⟨rfl, h7⟩
      rw [HB.out]
      simp only [optP]
      go_wp2_with fail
      go_roundg 1
      case measure => omega
      case rel => exact ⟨1, by omega, rfl, by go_num, h7.swap⟩
    · rcases Nat.lt_or_ge j 2 with hj2 | hj2
      · obtain rfl : j = 1 := by omega
        go_wp2_with fail
        refine (made_full k _ _ b P last A B2 L2 p q g _ M K hl (hr.swap.alloc' _)).mono ?_
        rintro e w6 ⟨rfl, h7⟩
        go_wp2_with fail
        go_roundg 0
        case measure => omega
        case rel => exact ⟨2, by omega, rfl, by go_num, h7.swap⟩
      · obtain rfl : j = 2 := by omega
        go_wp2_with fail
        have hT := hr.drop
        generalize wr = wt at *
        clear hr s0 s1
        (
          obtain ⟨mG3, vN3, mC3, mK3, a3, cap3, hg⟩ := pool_group hT
          have t1 : wt.cell? ⟨B2 g.name, 1, none⟩ = some (pt (L2 g.name)) := hg.swap.cell 1
          have t2 : wt.cell? ⟨b, 2, none⟩ = some (.int .i64 P.wt) := hg.cell 2
          have wb1 := hi.ok.2.2.2.2.1
          have wb2 := hi.ok.2.2.2.2.2.1
          have ww : IntKind.i64.wrap (now + P.wt) = now + P.wt := IntWalk.i64_in _ (by omega)
          go_wp2_with fail
          go_region_held3 (fun w' => w'.cell? ⟨B2 g.name, 1, none⟩ = some (pt (L2 g.name)) ∧ w'.cell? ⟨b, 2, none⟩ = some (.int .i64 P.wt)) (first | exact ⟨t1, t2⟩ | exact ⟨(h8.get3.cell 1).trans rfl, (h8.swap.cell 2).trans rfl⟩ | exact ⟨((((h8.get11.set 0 (.int .i64 0)).set 1 (.int .i64 0)).set 2 (.bool false)).get4.cell 1).trans rfl, ((((h8.get11.set 0 (.int .i64 0)).set 1 (.int .i64 0)).set 2 (.bool false)).get3.cell 2).trans rfl⟩ | fail) (first | (go_at_call 27; ((with_reducible refine (join_any k _ _ (L2 g.name) g.sp P.que x (now + P.wt) hg.drew.get8).mono ?_); rintro e w8 ⟨rfl, h8⟩; have e0 : w8.cell? ⟨og, 0, none⟩ = some (.int .i64 0) := h8.get11.cell 0; have e1 : w8.cell? ⟨og, 1, none⟩ = some (.int .i64 0) := h8.get11.cell 1; have e2 : w8.cell? ⟨og, 2, none⟩ = some (.bool false) := h8.get11.cell 2; have f0 := h8.get11.frozen)) | fail)
          all_goals
            go_wp2_with fail
            refine bodyPost_ret (v := .tuple #[loanV 0 0 false, .bool false, .int .i64 (joinE g.sp P.que x (now + P.wt))]) (by simp [results, Try.results8, go_sem, e0, e1, e2, loanV]) rfl ⟨rfl, ?_⟩
            have h9 := (((h8.get11.set 0 (.int .i64 0)).set 1 (.int .i64 0)).set 2 (.bool false)).drop.put8
            have hwg := withG_conns g.name G
            refine pv_close (M := M) (K := K) (pool_group_close (ks := g.cs) (sp := joinL g.sp P.que x (now + P.wt)) h9 rfl (by simp [gents]) rfl rfl rfl rfl) (hi.turn rfl (hi.sz g (by simp)) ?_)
            have hk : mget x K = none := by
              rw [(nohold_K hi), ← HGS.out]
              unfold NoHold
              rw [hwg.1]
              exact HX.out
            have hq2 : PI (conns (p ++ g :: q)) (g.sp.map (·.1) ++ (waitr p ++ waitr q)) M K last := hi.pi.perm (List.Perm.refl _) (waitr_perm p q g)
            have hwn : x ∉ g.sp.map (·.1) ++ (waitr p ++ waitr q) := by
              intro hm
              have h10 := (waitr_perm p q g).mem_iff.2 hm
              rw [← HGS.out, hwg.2] at h10
              exact HWN.out h10
            have he : conns (p ++ ⟨g.name, g.cs, joinL g.sp P.que x (now + P.wt)⟩ :: q) = conns (p ++ g :: q) := by rw [conns_mid, conns_mid]
            rw [he]
            unfold joinL
            split
            · refine (hq2.joins x (by omega) hk hwn).perm (List.Perm.refl _) (List.Perm.trans ?_ (waitr_perm p q ⟨g.name, g.cs, g.sp ++ [(x, now + P.wt)]⟩).symm)
              rw [List.map_append, List.map_cons, List.map_nil, List.append_assoc]
              exact (List.perm_middle).symm
            · exact hq2.perm (List.Perm.refl _) (waitr_perm p q ⟨g.name, g.cs, g.sp⟩).symm)

end Go.Proofs.Yticponkpgaofnaa
