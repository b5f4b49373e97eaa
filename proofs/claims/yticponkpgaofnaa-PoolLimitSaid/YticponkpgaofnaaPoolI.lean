/- Contracts of package pool: Give. -/
import Derived.Test.YticponkpgaofnaaPoolH
namespace Go.Proofs.Yticponkpgaofnaa
set_option linter.all false
open Go Go.RowKit

theorem PI.next {X : List Cn} {Wt : List Int} {M K : List (Int × Int)} {last : Int} {c : Cn} {y : Int} (h : PI (c :: X) (y :: Wt) M K last) (hc : c.cl = -1) (c' : Cn) (h1 : c'.num = c.num) (h2 : c'.cl = y) : PI (c' :: X) Wt M (mput y c.num K) last := by
  have hw : y ∉ Wt := by
    have := (List.nodup_append.1 h.cw).2.1
    rw [List.nodup_cons] at this
    exact this.1
  exact (h.waits (List.sublist_cons_self y Wt)).lend hc y (h.pw y (by simp)) (h.fresh (by simp)) hw c' h1 h2

abbrev loan0 : List Value := [.int .i64 0, .int .i64 0, .bool false]

set_option maxHeartbeats 1000000 in
theorem give_none (k : Env) (w : World) (R : Assn) (b : Nat) (P : PP) (last : Int) (G : List Gp) (N : List ByteArray) (x now : Int) (hx : NoHold G x) (h : Sat k w (PoolV b P last G N * R)) :
    Calls Try.prog 9 #[pt b, .int .i64 x, .int .i64 now] w fun e w' => e = .returned (.tuple #[loanV 0 0 false, .bool false]) ∧ Sat k w' (PoolV b P last G N * R) := by
  have h0 := (h.alloc (.cells loan0.toArray 30)).swap
  obtain ⟨A, B, L, M, K, hi, hr⟩ := pv_open h0
  obtain ⟨mG, vN, mC, mK, hs⟩ := pool_open hr
  go_enter Try.func9, Try.ntmps9
  go_upto_region 1 with fail
  generalize w.alloc (.cells loan0.toArray 30) = w0 at *
  generalize w.heap.size = og at *
  have c5 : w0.cell? ⟨b, 5, none⟩ = some (.map (some mG)) := hs.cell 5
  have c8 : w0.cell? ⟨b, 8, none⟩ = some (.map (some mK)) := hs.cell 8
  have e0 : w0.cell? ⟨og, 0, none⟩ = some (.int .i64 0) := h0.drop.cell 0
  have e1 : w0.cell? ⟨og, 1, none⟩ = some (.int .i64 0) := h0.drop.cell 1
  have e2 : w0.cell? ⟨og, 2, none⟩ = some (.bool false) := h0.drop.cell 2
  have f0 := h0.drop.frozen
  have hl := run_lookup_sat KInt mapC zeroC hs.get5 x
  rw [ments_get, (nohold_K hi).2 hx] at hl
  simp only [Option.map_none, Option.getD_none] at hl
  clear hx
  go_wp2_with (go_at_call 20; refine (pthere_any _ _ _ c5).mono ?_; rintro e w' ⟨rfl, rfl⟩)
  refine bodyPost_ret (v := .tuple #[loanV 0 0 false, .bool false]) (by simp [results, Try.results9, go_sem, e0, e1, e2, loanV]) rfl ⟨rfl, ?_⟩
  exact (((h0.swap.set 0 _).set 1 _).set 2 _).drop

set_option maxHeartbeats 1000000 in
theorem give_pin (k : Env) (w : World) (R : Assn) (b : Nat) (P : PP) (last : Int) (p q : List Gp) (g : Gp) (N : List ByteArray) (r s : List Cn) (c : Cn) (hc : g.cs = r ++ c :: s) (hx : c.cl ≠ -1) (hp : c.pin = true) (now : Int) (h : Sat k w (PoolV b P last (p ++ g :: q) N * R)) :
    Calls Try.prog 9 #[pt b, .int .i64 c.cl, .int .i64 now] w fun e w' => e = .returned (.tuple #[loanV 0 0 false, .bool false]) ∧ Sat k w' (PoolV b P last (p ++ g :: q) N * R) := by
  have h0 := (h.alloc (.cells loan0.toArray 30)).swap
  obtain ⟨A, B, L, M, K, hi, hr⟩ := pv_open h0
  obtain ⟨mG, vN, mC, mK, a, cap, hs⟩ := pool_conn hr hc
  go_enter Try.func9, Try.ntmps9
  go_upto_region 1 with fail
  generalize w.alloc (.cells loan0.toArray 30) = w0 at *
  generalize w.heap.size = og at *
  have c5 : w0.cell? ⟨b, 5, none⟩ = some (.map (some mG)) := hs.cell 5
  have c8 : w0.cell? ⟨b, 8, none⟩ = some (.map (some mK)) := hs.cell 8
  have d4 : w0.cell? ⟨A c.num, 4, none⟩ = some (.bool c.pin) := hs.get3.cell 4
  have hl := run_lookup_sat KInt mapC zeroC hs.get7 c.cl
  rw [ments_get, hold_K hi hc hx] at hl
  simp only [Option.map_some, Option.getD_some] at hl
  have e0 : w0.cell? ⟨og, 0, none⟩ = some (.int .i64 0) := h0.drop.cell 0
  have e1 : w0.cell? ⟨og, 1, none⟩ = some (.int .i64 0) := h0.drop.cell 1
  have e2 : w0.cell? ⟨og, 2, none⟩ = some (.bool false) := h0.drop.cell 2
  have f0 := h0.drop.frozen
  rw [hp] at d4
  clear hx hc hp
  go_wp2_with (go_at_call 20; refine (pthere_any _ _ _ c5).mono ?_; rintro e w' ⟨rfl, rfl⟩)
  refine bodyPost_ret (v := .tuple #[loanV 0 0 false, .bool false]) (by simp [results, Try.results9, go_sem, e0, e1, e2, loanV]) rfl ⟨rfl, ?_⟩
  exact (((h0.swap.set 0 _).set 1 _).set 2 _).drop

set_option maxHeartbeats 2000000 in
theorem give_free (k : Env) (w : World) (R : Assn) (b : Nat) (P : PP) (last : Int) (p q : List Gp) (g : Gp) (N : List ByteArray) (r s : List Cn) (c : Cn) (hc : g.cs = r ++ c :: s) (hx : c.cl ≠ -1) (hp : c.pin = false) (hsp : g.sp = []) (now : Int) (h : Sat k w (PoolV b P last (p ++ g :: q) N * R)) :
    Calls Try.prog 9 #[pt b, .int .i64 c.cl, .int .i64 now] w fun e w' => e = .returned (.tuple #[loanV 0 0 false, .bool false]) ∧ Sat k w' (PoolV b P last (p ++ ⟨g.name, r ++ ⟨c.num, -1, now, c.pin⟩ :: s, g.sp⟩ :: q) N * R) := by
  have h0 := (h.alloc (.cells loan0.toArray 30)).swap
  obtain ⟨A, B, L, M, K, hi, hr⟩ := pv_open h0
  obtain ⟨mG, vN, mC, mK, a, cap, hs⟩ := pool_conn hr hc
  go_enter Try.func9, Try.ntmps9
  go_upto_region 1 with fail
  generalize w.alloc (.cells loan0.toArray 30) = w0 at *
  generalize w.heap.size = og at *
  have c5 : w0.cell? ⟨b, 5, none⟩ = some (.map (some mG)) := hs.cell 5
  have c8 : w0.cell? ⟨b, 8, none⟩ = some (.map (some mK)) := hs.cell 8
  have d4 : w0.cell? ⟨A c.num, 4, none⟩ = some (.bool c.pin) := hs.get3.cell 4
  have hl := run_lookup_sat KInt mapC zeroC hs.get7 c.cl
  rw [ments_get, hold_K hi hc hx] at hl
  simp only [Option.map_some, Option.getD_some] at hl
  rw [hp] at d4
  have hne := hs.swap.swap2.swap.ne
  have hcg := hs.get3.swap2.ne
  have HC := Lib.hid hc
  have HP := Lib.hid hp
  have HX := Lib.hid hx
  have HS := Lib.hid hsp
  rw [hsp] at hs
  have hlen : ((r ++ c :: s).length : Int) ≤ P.lim := by rw [← hc]; exact hi.sz g (by simp)
  clear hx hc hp hsp h0 hr h
  go_wp2_with (first | (go_at_call 20; refine (pthere_any _ _ _ c5).mono ?_; rintro e w' ⟨rfl, rfl⟩) | (at_delete; refine wpList_delete_sat KInt mapC hs.get7 c.cl (.tmp 33) (.tmp 34) rfl rfl rfl rfl ?_; intro w2 h2; clear c5 c8 d4 hl; have d1 : w2.cell? ⟨A c.num, 1, none⟩ = some (pt (B g.name)) := h2.get4.cell 1; have d2 : w2.cell? ⟨A c.num, 2, none⟩ = some (.int .i64 c.cl) := h2.get4.cell 2; have d3 : w2.cell? ⟨A c.num, 3, none⟩ = some (.int .i64 c.since) := h2.get4.cell 3; have f2 := h2.get4.frozen; have g1 : w2.cell? ⟨B g.name, 1, none⟩ = some (pt (L g.name)) := h2.get3.cell 1))
  have h3 := ((h2.get4.set 2 (.int .i64 (-1))).set 3 (.int .i64 now))
  refine (first_nobody k _ _ (L g.name) P.que h3.get9).mono ?_
  rintro e w4 ⟨rfl, h4⟩
  have e0 : w4.cell? ⟨og, 0, none⟩ = some (.int .i64 0) := h4.get12.cell 0
  have e1 : w4.cell? ⟨og, 1, none⟩ = some (.int .i64 0) := h4.get12.cell 1
  have e2 : w4.cell? ⟨og, 2, none⟩ = some (.bool false) := h4.get12.cell 2
  have f0 := h4.get12.frozen
  clear d1 d2 d3 f2 g1 h2 h3
  go_wp2_with fail
  refine bodyPost_ret (v := .tuple #[loanV 0 0 false, .bool false]) (by simp [results, Try.results9, go_sem, e0, e1, e2, loanV]) rfl ⟨rfl, ?_⟩
  have h5 := (((h4.get12.set 0 (.int .i64 0)).set 1 (.int .i64 0)).set 2 (.bool false)).drop.put9.swap.put7.put3
  rw [ments_del] at h5
  refine pv_close (M := M) (K := mdel c.cl K) (pool_conn_close (c := ⟨c.num, -1, now, c.pin⟩) h5 rfl (by simp [gents]) rfl rfl (by rw [HC.out]; simp) (by rw [HC.out]; simp [cptr]) rfl rfl |>.of_eq (by rw [HS.out])) (hi.turn rfl (by simpa using hlen) (pi_to ?_))
  exact (pi_at hi HC.out).free HX.out _ rfl rfl

set_option maxHeartbeats 2000000 in
theorem give_next (k : Env) (w : World) (R : Assn) (b : Nat) (P : PP) (last : Int) (p q : List Gp) (g : Gp) (N : List ByteArray) (r s : List Cn) (c : Cn) (hc : g.cs = r ++ c :: s) (hx : c.cl ≠ -1) (hp : c.pin = false) (y : Sp) (sp : List Sp) (hsp : g.sp = y :: sp) (now : Int) (h : Sat k w (PoolV b P last (p ++ g :: q) N * R)) :
    Calls Try.prog 9 #[pt b, .int .i64 c.cl, .int .i64 now] w fun e w' => e = .returned (.tuple #[loanV y.1 c.num false, .bool true]) ∧ Sat k w' (PoolV b P last (p ++ ⟨g.name, r ++ ⟨c.num, y.1, now, false⟩ :: s, sp⟩ :: q) N * R) := by
  have h0 := (h.alloc (.cells loan0.toArray 30)).swap
  obtain ⟨A, B, L, M, K, hi, hr⟩ := pv_open h0
  obtain ⟨mG, vN, mC, mK, a, cap, hs⟩ := pool_conn hr hc
  go_enter Try.func9, Try.ntmps9
  go_upto_region 1 with fail
  generalize w.alloc (.cells loan0.toArray 30) = w0 at *
  generalize w.heap.size = og at *
  have c5 : w0.cell? ⟨b, 5, none⟩ = some (.map (some mG)) := hs.cell 5
  have c8 : w0.cell? ⟨b, 8, none⟩ = some (.map (some mK)) := hs.cell 8
  have d4 : w0.cell? ⟨A c.num, 4, none⟩ = some (.bool c.pin) := hs.get3.cell 4
  have hl := run_lookup_sat KInt mapC zeroC hs.get7 c.cl
  rw [ments_get, hold_K hi hc hx] at hl
  simp only [Option.map_some, Option.getD_some] at hl
  rw [hp] at d4
  have hne := hs.swap.swap2.swap.ne
  have hcg := hs.get3.swap2.ne
  have HC := Lib.hid hc
  have HX := Lib.hid hx
  have HS := Lib.hid hsp
  rw [hsp] at hs
  have hlen : ((r ++ c :: s).length : Int) ≤ P.lim := by rw [← hc]; exact hi.sz g (by simp)
  clear hx hc hp hsp h0 hr h
  go_wp2_with (first | (go_at_call 20; refine (pthere_any _ _ _ c5).mono ?_; rintro e w' ⟨rfl, rfl⟩) | (at_delete; refine wpList_delete_sat KInt mapC hs.get7 c.cl (.tmp 33) (.tmp 34) rfl rfl rfl rfl ?_; intro w2 h2; clear c5 c8 d4 hl; have d1 : w2.cell? ⟨A c.num, 1, none⟩ = some (pt (B g.name)) := h2.get4.cell 1; have d2 : w2.cell? ⟨A c.num, 2, none⟩ = some (.int .i64 c.cl) := h2.get4.cell 2; have d3 : w2.cell? ⟨A c.num, 3, none⟩ = some (.int .i64 c.since) := h2.get4.cell 3; have f2 := h2.get4.frozen; have g1 : w2.cell? ⟨B g.name, 1, none⟩ = some (pt (L g.name)) := h2.get3.cell 1))
  have h3 := ((h2.get4.set 2 (.int .i64 (-1))).set 3 (.int .i64 now))
  refine (first_any k _ _ (L g.name) y sp P.que h3.get9).mono ?_
  rintro e w4 ⟨rfl, h4⟩
  have h5 := h4.get12.put12.put9.swap.put7.put3
  rw [ments_del] at h5
  have h6 := pool_conn_close (c := ⟨c.num, -1, now, c.pin⟩) (M := M) (K := mdel c.cl K) (p := p) (q := q) (r := r) (s := s) h5 rfl (by simp [gents]) rfl rfl (by rw [HC.out]; simp) (by rw [HC.out]; simp [cptr]) rfl rfl
  clear d1 d2 d3 f2 g1 h2 h3 h4 h5
  go_wp2_with fail
  refine (lend_any k _ _ b P last A B L p q ⟨g.name, r ++ ⟨c.num, -1, now, c.pin⟩ :: s, sp⟩ N M (mdel c.cl K) r s ⟨c.num, -1, now, c.pin⟩ rfl y.1 false h6).mono ?_
  rintro e w5 ⟨rfl, h7⟩
  have e0 : w5.cell? ⟨og, 0, none⟩ = some (.int .i64 0) := h7.drop.cell 0
  have e1 : w5.cell? ⟨og, 1, none⟩ = some (.int .i64 0) := h7.drop.cell 1
  have e2 : w5.cell? ⟨og, 2, none⟩ = some (.bool false) := h7.drop.cell 2
  have f0 := h7.drop.frozen
  unfold loanV
  go_wp2_with fail
  refine bodyPost_ret (v := .tuple #[loanV y.1 c.num false, .bool true]) (by simp [results, Try.results9, go_sem, e0, e1, e2, loanV]) rfl ⟨rfl, ?_⟩
  have h8 := (((h7.swap.set 0 (.int .i64 y.1)).set 1 (.int .i64 c.num)).set 2 (.bool false)).drop
  refine pv_close (M := M) (K := mput y.1 c.num (mdel c.cl K)) h8 (hi.turn rfl (by simpa using hlen) (pi_to ?_))
  have hp2 := pi_at hi HC.out
  rw [HS.out] at hp2
  exact (hp2.free HX.out ⟨c.num, -1, now, c.pin⟩ rfl rfl).next rfl _ rfl rfl

end Go.Proofs.Yticponkpgaofnaa
