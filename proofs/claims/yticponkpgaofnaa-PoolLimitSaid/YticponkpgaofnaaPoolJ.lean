/- Contracts of package pool: Lost. -/
import Derived.Test.YticponkpgaofnaaPoolI
namespace Go.Proofs.Yticponkpgaofnaa
set_option linter.all false
open Go Go.RowKit

theorem PI.mval {C : List Cn} {Wt : List Int} {M K : List (Int × Int)} {last : Int} (h : PI C Wt M K last) : ∀ x ∈ M, x.2 ≠ last + 1 := by
  intro x hx e
  obtain ⟨c, hc, rfl⟩ := List.mem_map.1 (h.mM.mem_iff.1 hx)
  have := h.rg c hc
  simp at e
  omega
theorem PI.kval {C : List Cn} {Wt : List Int} {M K : List (Int × Int)} {last : Int} (h : PI C Wt M K last) : ∀ x ∈ K, x.2 ≠ last + 1 := by
  intro x hx e
  obtain ⟨c, hc, rfl⟩ := List.mem_map.1 (h.mK.mem_iff.1 hx)
  have := h.rg c (List.mem_filter.1 hc).1
  simp at e
  omega
theorem PI.cval {C : List Cn} {Wt : List Int} {M K : List (Int × Int)} {last : Int} (h : PI C Wt M K last) : ∀ c ∈ C, c.num ≠ last + 1 := by
  intro c hc e
  have := h.rg c hc
  omega
theorem pi_others {P : PP} {last : Int} {p q : List Gp} {g : Gp} {N : List ByteArray} {M K : List (Int × Int)} (hi : PInv P last (p ++ g :: q) N M K) {r s : List Cn} {c : Cn} (hc : g.cs = r ++ c :: s) : ∀ x ∈ r ++ s, x.num ≠ c.num := by
  intro x hx e
  have h := (pi_at hi hc).nu
  rw [List.map_cons, List.nodup_cons] at h
  refine h.1 (List.mem_map.2 ⟨x, ?_, e⟩)
  simp only [List.mem_append] at hx ⊢
  exact .inr (.inl hx)
theorem pi_gone {last : Int} {p q : List Gp} {nm : ByteArray} {sp : List Sp} {M K : List (Int × Int)} {r s : List Cn} (h : PI (conns p ++ ((r ++ s) ++ conns q)) (sp.map (·.1) ++ (waitr p ++ waitr q)) M K last) : PI (conns (p ++ ⟨nm, r ++ s, sp⟩ :: q)) (waitr (p ++ ⟨nm, r ++ s, sp⟩ :: q)) M K last :=
  h.perm (by rw [conns_mid]) (waitr_perm p q ⟨nm, r ++ s, sp⟩).symm
theorem dropK_eq (c : Cn) (K : List (Int × Int)) : dropK c K = if c.cl = -1 then K else mdel c.cl K := rfl

theorem lend_last (k : Env) (w : World) (R : Assn) (b : Nat) (P : PP) (last : Int) (A : Int → Nat) (B L : ByteArray → Nat) (p q : List Gp) (nm : ByteArray) (l : List Cn) (sp : List Sp) (N : List ByteArray) (M K : List (Int × Int)) (n : Int) (a : Nat) (ha : A n = a) (x : Int) (fr : Bool)
    (h : Sat k w (PoolR b P last A B L (p ++ ⟨nm, l ++ [newCn n], sp⟩ :: q) N M K * R)) :
    Calls Try.prog 26 #[pt b, pt a, .int .i64 x, .bool fr] w fun e w' => e = .returned (loanV x n fr) ∧ Sat k w' (PoolR b P last A B L (p ++ ⟨nm, l ++ [newLent n x], sp⟩ :: q) N M (mput x n K) * R) := by
  subst ha
  exact lend_any k w R b P last A B L p q ⟨nm, l ++ [newCn n], sp⟩ N M K l [] (newCn n) rfl x fr h

set_option maxHeartbeats 1000000 in
theorem lost_none (k : Env) (w : World) (R : Assn) (b : Nat) (P : PP) (last : Int) (G : List Gp) (N : List ByteArray) (n now : Int) (hx : ∀ c ∈ conns G, c.num ≠ n) (h : Sat k w (PoolV b P last G N * R)) :
    Calls Try.prog 11 #[pt b, .int .i64 n, .int .i64 now] w fun e w' => e = .returned (.tuple #[.int .i64 (-1), loanV 0 0 false, .bool false]) ∧ Sat k w' (PoolV b P last G N * R) := by
  have h0 := (h.alloc (.cells loan0.toArray 30)).swap
  obtain ⟨A, B, L, M, K, hi, hr⟩ := pv_open h0
  obtain ⟨mG, vN, mC, mK, hs⟩ := pool_open hr
  go_enter Try.func11, Try.ntmps11
  go_upto_region 1 with fail
  generalize w.alloc (.cells loan0.toArray 30) = w0 at *
  generalize w.heap.size = og at *
  have c5 : w0.cell? ⟨b, 5, none⟩ = some (.map (some mG)) := hs.cell 5
  have c7 : w0.cell? ⟨b, 7, none⟩ = some (.map (some mC)) := hs.cell 7
  have e0 : w0.cell? ⟨og, 0, none⟩ = some (.int .i64 0) := h0.drop.cell 0
  have e1 : w0.cell? ⟨og, 1, none⟩ = some (.int .i64 0) := h0.drop.cell 1
  have e2 : w0.cell? ⟨og, 2, none⟩ = some (.bool false) := h0.drop.cell 2
  have f0 := h0.drop.frozen
  have hl := run_lookup_sat KInt mapC zeroC hs.get4 n
  rw [ments_get, hi.pi.getM_none.2 hx] at hl
  simp only [Option.map_none, Option.getD_none] at hl
  clear hx
  go_wp2_with (go_at_call 20; refine (pthere_any _ _ _ c5).mono ?_; rintro e w' ⟨rfl, rfl⟩)
  refine bodyPost_ret (v := .tuple #[.int .i64 (-1), loanV 0 0 false, .bool false]) (by simp [results, Try.results11, go_sem, e0, e1, e2, loanV]) rfl ⟨rfl, ?_⟩
  exact (((h0.swap.set 0 _).set 1 _).set 2 _).drop

set_option maxHeartbeats 2000000 in
theorem lost_freeR (k : Env) (w : World) (R : Assn) (b : Nat) (P : PP) (last : Int) (p q : List Gp) (g : Gp) (N : List ByteArray) (r s : List Cn) (c : Cn) (hc : g.cs = r ++ c :: s) (hsp : g.sp = []) (now : Int) (A : Int → Nat) (B L : ByteArray → Nat) (M K : List (Int × Int)) (hi : PInv P last (p ++ g :: q) N M K) (h : Sat k w (PoolR b P last A B L (p ++ g :: q) N M K * R)) :
    Calls Try.prog 11 #[pt b, .int .i64 c.num, .int .i64 now] w fun e w' => e = .returned (.tuple #[.int .i64 c.cl, loanV 0 0 false, .bool false]) ∧ Sat k w' (blk (A c.num) (.cells (cellsC (B g.name) c) 72 (0, 0)) * (PoolV b P last (p ++ ⟨g.name, r ++ s, g.sp⟩ :: q) N * R)) := by
  (
    have hr := (h.alloc (.cells loan0.toArray 30)).swap
    obtain ⟨mG, vN, mC, mK, a, cap, hs⟩ := pool_conn hr hc
    go_enter Try.func11, Try.ntmps11
    go_upto_region 1 with fail
    generalize w.alloc (.cells loan0.toArray 30) = w0 at *
    generalize w.heap.size = og at *
    have c5 : w0.cell? ⟨b, 5, none⟩ = some (.map (some mG)) := hs.cell 5
    have c7 : w0.cell? ⟨b, 7, none⟩ = some (.map (some mC)) := hs.cell 7
    have hl := run_lookup_sat KInt mapC zeroC hs.get6 c.num
    rw [ments_get, num_M hi hc] at hl
    simp only [Option.map_some, Option.getD_some] at hl
    have hn := Lib.hid (pi_others hi hc)
    have hlim := hi.ok.2.1
    have hlen : (g.cs.length : Int) ≤ P.lim := hi.sz g (by simp)
    have hlen2 : g.cs.length = (r ++ s).length + 1 := by rw [hc]; simp; omega
    have hq := pi_at hi hc
    have HC := Lib.hid hc
    have HL2 := Lib.hid hlen2
    have hl3 : ((r ++ s).length : Int) < P.lim := by omega
    clear hc hlen2 hs h
    go_wp2_with (go_at_call 20; refine (pthere_any _ _ _ c5).mono ?_; rintro e w' ⟨rfl, rfl⟩)
    refine (drop_any k _ _ b P last A B L p q g N M K r s c HC.out hn.out (by omega) hr).mono ?_
    rintro e w2 ⟨rfl, h1⟩
    clear c5 c7 hl hr
    obtain ⟨mG, vN, mC, mK, a, cap, h2⟩ := pool_group h1.swap
    have d1 : w2.cell? ⟨A c.num, 1, none⟩ = some (pt (B g.name)) := h2.get11.cell 1
    have g1 : w2.cell? ⟨B g.name, 1, none⟩ = some (pt (L g.name)) := h2.swap.cell 1
    simp only [] at h2)
  have HS := Lib.hid hsp
  rw [hsp] at h2
  clear hsp
  go_wp2_with fail
  refine (first_nobody k _ _ (L g.name) P.que h2.get8).mono ?_
  rintro e w4 ⟨rfl, h4⟩
  have d2 : w4.cell? ⟨A c.num, 2, none⟩ = some (.int .i64 c.cl) := h4.get11.cell 2
  have e0 : w4.cell? ⟨og, 0, none⟩ = some (.int .i64 0) := h4.get12.cell 0
  have e1 : w4.cell? ⟨og, 1, none⟩ = some (.int .i64 0) := h4.get12.cell 1
  have e2 : w4.cell? ⟨og, 2, none⟩ = some (.bool false) := h4.get12.cell 2
  have f0 := h4.get12.frozen
  clear d1 g1 h2
  go_wp2_with fail
  refine bodyPost_ret (v := .tuple #[.int .i64 c.cl, loanV 0 0 false, .bool false]) (by simp [results, Try.results11, go_sem, e0, e1, e2, loanV]) rfl ⟨rfl, ?_⟩
  have h5 := (((h4.get12.set 0 (.int .i64 0)).set 1 (.int .i64 0)).set 2 (.bool false)).drop.put8
  refine Sat.swap (pv_close (M := mdel c.num M) (K := dropK c K) ((pool_group_close (ks := r ++ s) h5 rfl (by simp [gents]) rfl rfl rfl rfl).of_eq (by rw [HS.out])) (hi.turn rfl (by show ((r ++ s).length : Int) ≤ P.lim; omega) (pi_gone hq.drop)))

theorem lost_free (k : Env) (w : World) (R : Assn) (b : Nat) (P : PP) (last : Int) (p q : List Gp) (g : Gp) (N : List ByteArray) (r s : List Cn) (c : Cn) (hc : g.cs = r ++ c :: s) (hsp : g.sp = []) (now : Int) (h : Sat k w (PoolV b P last (p ++ g :: q) N * R)) :
    Calls Try.prog 11 #[pt b, .int .i64 c.num, .int .i64 now] w fun e w' => e = .returned (.tuple #[.int .i64 c.cl, loanV 0 0 false, .bool false]) ∧ Sat k w' (PoolV b P last (p ++ ⟨g.name, r ++ s, g.sp⟩ :: q) N * R) := by
  obtain ⟨A, B, L, M, K, hi, hr⟩ := pv_open h
  refine (lost_freeR k w R b P last p q g N r s c hc hsp now A B L M K hi hr).mono ?_
  rintro e w' ⟨rfl, h1⟩
  exact ⟨rfl, h1.drop⟩

set_option maxHeartbeats 2000000 in
theorem lost_nextR (k : Env) (w : World) (R : Assn) (b : Nat) (P : PP) (last : Int) (p q : List Gp) (g : Gp) (N : List ByteArray) (r s : List Cn) (c : Cn) (hc : g.cs = r ++ c :: s) (y : Sp) (sp : List Sp) (hsp : g.sp = y :: sp) (now : Int) (hlast : last ≤ 4611686018427387904) (A : Int → Nat) (B L : ByteArray → Nat) (M K : List (Int × Int)) (hi : PInv P last (p ++ g :: q) N M K) (h : Sat k w (PoolR b P last A B L (p ++ g :: q) N M K * R)) :
    Calls Try.prog 11 #[pt b, .int .i64 c.num, .int .i64 now] w fun e w' => e = .returned (.tuple #[.int .i64 c.cl, loanV y.1 (last + 1) true, .bool true]) ∧ Sat k w' (blk (A c.num) (.cells (cellsC (B g.name) c) 72 (0, 0)) * (PoolV b P (last + 1) (p ++ ⟨g.name, (r ++ s) ++ [newLent (last + 1) y.1], sp⟩ :: q) N * R)) := by
  (
    have hr := (h.alloc (.cells loan0.toArray 30)).swap
    obtain ⟨mG, vN, mC, mK, a, cap, hs⟩ := pool_conn hr hc
    go_enter Try.func11, Try.ntmps11
    go_upto_region 1 with fail
    generalize w.alloc (.cells loan0.toArray 30) = w0 at *
    generalize w.heap.size = og at *
    have c5 : w0.cell? ⟨b, 5, none⟩ = some (.map (some mG)) := hs.cell 5
    have c7 : w0.cell? ⟨b, 7, none⟩ = some (.map (some mC)) := hs.cell 7
    have hl := run_lookup_sat KInt mapC zeroC hs.get6 c.num
    rw [ments_get, num_M hi hc] at hl
    simp only [Option.map_some, Option.getD_some] at hl
    have hn := Lib.hid (pi_others hi hc)
    have hlim := hi.ok.2.1
    have hlen : (g.cs.length : Int) ≤ P.lim := hi.sz g (by simp)
    have hlen2 : g.cs.length = (r ++ s).length + 1 := by rw [hc]; simp; omega
    have hq := pi_at hi hc
    have HC := Lib.hid hc
    have HL2 := Lib.hid hlen2
    have hl3 : ((r ++ s).length : Int) < P.lim := by omega
    clear hc hlen2 hs h
    go_wp2_with (go_at_call 20; refine (pthere_any _ _ _ c5).mono ?_; rintro e w' ⟨rfl, rfl⟩)
    refine (drop_any k _ _ b P last A B L p q g N M K r s c HC.out hn.out (by omega) hr).mono ?_
    rintro e w2 ⟨rfl, h1⟩
    clear c5 c7 hl hr
    obtain ⟨mG, vN, mC, mK, a, cap, h2⟩ := pool_group h1.swap
    have d1 : w2.cell? ⟨A c.num, 1, none⟩ = some (pt (B g.name)) := h2.get11.cell 1
    have g1 : w2.cell? ⟨B g.name, 1, none⟩ = some (pt (L g.name)) := h2.swap.cell 1
    simp only [] at h2)
  have HS := Lib.hid hsp
  rw [hsp] at h2
  clear hsp
  go_wp2_with fail
  refine (first_any k _ _ (L g.name) y sp P.que h2.get8).mono ?_
  rintro e w4 ⟨rfl, h4⟩
  have h5 := pool_group_close (p := p) (q := q) (ks := r ++ s) (sp := sp) (nm := g.name) (M := mdel c.num M) (K := dropK c K) h4.put8 rfl (by simp [gents]) rfl rfl rfl rfl
  have d1 : w4.cell? ⟨A c.num, 1, none⟩ = some (pt (B g.name)) := h5.drop.cell 1
  rw [HS.out] at hq
  have hq2 := hq.drop
  rw [← dropK_eq] at hq2
  have hcv : ∀ d ∈ conns (p ++ ⟨g.name, r ++ s, sp⟩ :: q), d.num ≠ last + 1 := by rw [conns_mid]; exact hq2.cval
  clear h2 h4
  go_wp2_with fail
  refine (made_any k _ _ b P last A B L p q ⟨g.name, r ++ s, sp⟩ N (mdel c.num M) (dropK c K) hl3 hi.ok hi.pi.l0 hlast hcv hq2.mval hq2.kval h5).mono ?_
  rintro e w5 ⟨ca, rfl, h6⟩
  have hA : upd A (last + 1) ca (last + 1) = ca := upd_new A (last + 1) ca
  have HA := Lib.hid hA
  clear hA
  have d2 : w5.cell? ⟨A c.num, 2, none⟩ = some (.int .i64 c.cl) := h6.drop.cell 2
  dsimp only at h6
  generalize upd A (last + 1) ca = A2 at *
  go_wp2_with fail
  go_region_held3 (fun w' => w'.cell? ⟨A c.num, 2, none⟩ = some (.int .i64 c.cl)) (first | exact d2 | exact (h8.drop.cell 2).trans rfl | exact ((((h8.drop.swap.set 0 (.int .i64 y.1)).set 1 (.int .i64 (last + 1))).set 2 (.bool true)).swap.cell 2).trans rfl | fail) (first | (go_at_call 26; ((with_reducible refine (lend_last k _ _ b P (last + 1) A2 B L p q g.name (r ++ s) sp N _ _ (last + 1) ca HA.out y.1 true h6.drew).mono ?_); rintro e w6 ⟨rfl, h8⟩; have e0 : w6.cell? ⟨og, 0, none⟩ = some (.int .i64 0) := h8.drop.drop.cell 0; have e1 : w6.cell? ⟨og, 1, none⟩ = some (.int .i64 0) := h8.drop.drop.cell 1; have e2 : w6.cell? ⟨og, 2, none⟩ = some (.bool false) := h8.drop.drop.cell 2; have f0 := h8.drop.drop.frozen; unfold loanV)) | fail)
  all_goals
    go_wp2_with fail
    refine bodyPost_ret (v := .tuple #[.int .i64 c.cl, loanV y.1 (last + 1) true, .bool true]) (by simp [results, Try.results11, go_sem, e0, e1, e2, loanV]) rfl ⟨rfl, ?_⟩
    have h9 := (((h8.get3.set 0 (.int .i64 y.1)).set 1 (.int .i64 (last + 1))).set 2 (.bool true)).drop
    refine Sat.swap (pv_close h9 (hi.turn rfl (by show (((r ++ s) ++ [newLent (last + 1) y.1]).length : Int) ≤ P.lim; rw [List.length_append, List.length_singleton]; omega) ?_))
    exact ((hq2.made (newCn (last + 1)) rfl rfl).next rfl (newLent (last + 1) y.1) rfl rfl).perm (conns_snoc p q ⟨g.name, (r ++ s) ++ [newLent (last + 1) y.1], sp⟩ (r ++ s) _ rfl).symm (waitr_perm p q ⟨g.name, (r ++ s) ++ [newLent (last + 1) y.1], sp⟩).symm

theorem lost_next (k : Env) (w : World) (R : Assn) (b : Nat) (P : PP) (last : Int) (p q : List Gp) (g : Gp) (N : List ByteArray) (r s : List Cn) (c : Cn) (hc : g.cs = r ++ c :: s) (y : Sp) (sp : List Sp) (hsp : g.sp = y :: sp) (now : Int) (hlast : last ≤ 4611686018427387904) (h : Sat k w (PoolV b P last (p ++ g :: q) N * R)) :
    Calls Try.prog 11 #[pt b, .int .i64 c.num, .int .i64 now] w fun e w' => e = .returned (.tuple #[.int .i64 c.cl, loanV y.1 (last + 1) true, .bool true]) ∧ Sat k w' (PoolV b P (last + 1) (p ++ ⟨g.name, (r ++ s) ++ [newLent (last + 1) y.1], sp⟩ :: q) N * R) := by
  obtain ⟨A, B, L, M, K, hi, hr⟩ := pv_open h
  refine (lost_nextR k w R b P last p q g N r s c hc y sp hsp now hlast A B L M K hi hr).mono ?_
  rintro e w' ⟨rfl, h1⟩
  exact ⟨rfl, h1.drop⟩

end Go.Proofs.Yticponkpgaofnaa
