/- Contracts of package pool, as one sees it from outside: New, Holds, Pin, Count. -/
import Derived.Test.YticponkpgaofnaaPoolF
namespace Go.Proofs.Yticponkpgaofnaa
set_option linter.all false
open Go Go.RowKit

structure PInv (P : PP) (last : Int) (G : List Gp) (N : List ByteArray) (M K : List (Int × Int)) : Prop where
  nn : (G.map (·.name)).Nodup
  pn : N.Perm (G.map (·.name))
  pi : PI (conns G) (waitr G) M K last
  sz : ∀ g ∈ G, (g.cs.length : Int) ≤ P.lim
  ok : P.ok

/-- A pool with these groups and lines; N: its groups' names, in their order. -/
def PoolV (b : Nat) (P : PP) (last : Int) (G : List Gp) (N : List ByteArray) : Assn :=
  ex fun p : (Int → Nat) × (ByteArray → Nat) × (ByteArray → Nat) × List (Int × Int) × List (Int × Int) => pur (PInv P last G N p.2.2.2.1 p.2.2.2.2) * PoolR b P last p.1 p.2.1 p.2.2.1 G N p.2.2.2.1 p.2.2.2.2

section
variable {k : Env} {w : World} {b : Nat} {P : PP} {last : Int} {G : List Gp} {N : List ByteArray} {R : Assn}
theorem pv_open (h : Sat k w (PoolV b P last G N * R)) : ∃ A B L M K, PInv P last G N M K ∧ Sat k w (PoolR b P last A B L G N M K * R) := by
  obtain ⟨⟨A, B, L, M, K⟩, h⟩ := Sat.ex.1 h
  rw [star_assoc] at h
  obtain ⟨h1, h⟩ := Sat.pure.1 h
  exact ⟨A, B, L, M, K, h1, h⟩
theorem pv_close {A : Int → Nat} {B L : ByteArray → Nat} {M K : List (Int × Int)} (h : Sat k w (PoolR b P last A B L G N M K * R)) (hi : PInv P last G N M K) : Sat k w (PoolV b P last G N * R) :=
  Sat.ex.2 ⟨(A, B, L, M, K), by rw [star_assoc]; exact Sat.pure.2 ⟨hi, h⟩⟩
theorem pv_inv (h : Sat k w (PoolV b P last G N * R)) : ∃ M K, PInv P last G N M K := by
  obtain ⟨_, _, _, M, K, hi, _⟩ := pv_open h
  exact ⟨M, K, hi⟩
end

theorem within_any (w : World) (n m : Int) : Calls Try.prog 19 #[.int .i64 n, .int .i64 m] w fun e w' => e = .returned (.bool (decide (1 ≤ n ∧ n ≤ m))) ∧ w = w' := by
  by_cases h1 : 1 ≤ n
  · by_cases h2 : n ≤ m
    · have hd : decide (1 ≤ n ∧ n ≤ m) = true := by simp [h1, h2]
      rw [hd]; clear hd
      go_enter Try.func19, Try.ntmps19
      go_wp2
      go_ret
      exact ⟨rfl, rfl⟩
    · have hd : decide (1 ≤ n ∧ n ≤ m) = false := by simp [h2]
      rw [hd]; clear hd
      go_enter Try.func19, Try.ntmps19
      go_wp2
      go_ret
      exact ⟨rfl, rfl⟩
  · have hd : decide (1 ≤ n ∧ n ≤ m) = false := by simp [h1]
    rw [hd]; clear hd
    go_enter Try.func19, Try.ntmps19
    go_wp2
    go_ret
    exact ⟨rfl, rfl⟩

theorem pi_nil : PI [] [] [] [] 0 := ⟨by simp, by simp, by simp, by simp, by simp, by simp, by simp, by omega⟩

set_option maxHeartbeats 1000000 in
theorem pnew_any (k : Env) (w : World) (R : Assn) (P : PP) (hP : P.ok) (h : Sat k w R) :
    Calls Try.prog 7 #[.int .i64 P.lim, .int .i64 P.que, .int .i64 P.wt, .int .i64 P.idl] w fun e w' => ∃ b, e = .returned (.tuple #[pt b, .int .i64 0]) ∧ Sat k w' (PoolV b P 0 [] [] * R) := by
  have hmm := @run_makeMap Try.prog
  obtain ⟨p1, p2, p3, p4, p5, p6, p7, p8⟩ := hP
  have d1 := Lib.hid (show decide (1 ≤ P.lim ∧ P.lim ≤ 1000) = true by simp [p1, p2])
  have d2 := Lib.hid (show decide (1 ≤ P.que ∧ P.que ≤ 1000) = true by simp [p3, p4])
  have d3 := Lib.hid (show decide (1 ≤ P.wt ∧ P.wt ≤ 549755813888) = true by simp [p5, p6])
  have d4 := Lib.hid (show decide (1 ≤ P.idl ∧ P.idl ≤ 549755813888) = true by simp [p7, p8])
  go_enter Try.func7, Try.ntmps7
  go_wp2_with (first | (go_at_call 19; ((with_reducible refine (within_any _ P.lim 1000).mono ?_); rintro e w' ⟨rfl, rfl⟩; rw [d1.out])) | (go_at_call 19; ((with_reducible refine (within_any _ P.que 1000).mono ?_); rintro e w' ⟨rfl, rfl⟩; rw [d2.out])) | (go_at_call 19; ((with_reducible refine (within_any _ P.wt 549755813888).mono ?_); rintro e w' ⟨rfl, rfl⟩; rw [d3.out])) | (go_at_call 19; ((with_reducible refine (within_any _ P.idl 549755813888).mono ?_); rintro e w' ⟨rfl, rfl⟩; rw [d4.out])))
  go_ret2
  refine ⟨_, rfl, ?_⟩
  have h1 := map_made (K := ByteArray) (kv := Value.string) h
  have h2 := map_made (K := Int) (kv := Value.int .i64) h1
  have h3 := map_made (K := Int) (kv := Value.int .i64) h2
  have h4 := own_nil (e := 9) (size := 1) (h3.alloc (.cells (cellsP P 0 w.heap.size (.slice none 0 0) (w.heap.size + 1) (w.heap.size + 1 + 1)) 52))
  simp only [World.size_alloc] at h4
  refine pv_close (A := fun _ => 0) (B := fun _ => 0) (L := fun _ => 0) (M := []) (K := []) ?_ ⟨by simp, by simp, pi_nil, by simp, p1, p2, p3, p4, p5, p6, p7, p8⟩
  refine pool_close (mG := w.heap.size) (mC := w.heap.size + 1) (mK := w.heap.size + 1 + 1) (vN := .slice none 0 0) (e1 := []) (e2 := []) (e3 := []) ?_ rfl rfl rfl rfl
  rw [stars, emp_star]
  exact h4.get5.get3.get5.put4
theorem pnew_bad (w : World) (l q t i : Int) (hl : l < 1 ∨ 1000 < l) :
    Calls Try.prog 7 #[.int .i64 l, .int .i64 q, .int .i64 t, .int .i64 i] w fun e w' => e = .returned (.tuple #[.pointer none, .int .i64 1]) ∧ w = w' := by
  have d1 := Lib.hid (show decide (1 ≤ l ∧ l ≤ 1000) = false by simp; omega)
  go_enter Try.func7, Try.ntmps7
  go_wp2_with (go_at_call 19; ((with_reducible refine (within_any _ l 1000).mono ?_); rintro e w' ⟨rfl, rfl⟩; rw [d1.out]))
  go_ret2
  exact ⟨rfl, rfl⟩

/-- Nobody of this number holds a connection. -/
def NoHold (G : List Gp) (x : Int) : Prop := x = -1 ∨ ∀ c ∈ conns G, c.cl ≠ x
theorem nohold_K {P : PP} {last : Int} {G : List Gp} {N : List ByteArray} {M K : List (Int × Int)} (hi : PInv P last G N M K) {x : Int} : mget x K = none ↔ NoHold G x := by
  unfold NoHold
  by_cases hx : x = -1
  · subst hx; simp [hi.pi.getK_m1]
  · rw [hi.pi.getK_none hx]; simp [hx]
theorem hold_K {P : PP} {last : Int} {p q : List Gp} {g : Gp} {N : List ByteArray} {M K : List (Int × Int)} (hi : PInv P last (p ++ g :: q) N M K) {r s : List Cn} {c : Cn} (hc : g.cs = r ++ c :: s) (hx : c.cl ≠ -1) : mget c.cl K = some c.num :=
  hi.pi.getK.2 ⟨c, by rw [conns_mid, hc]; simp, rfl, rfl, hx⟩
theorem num_M {P : PP} {last : Int} {p q : List Gp} {g : Gp} {N : List ByteArray} {M K : List (Int × Int)} (hi : PInv P last (p ++ g :: q) N M K) {r s : List Cn} {c : Cn} (hc : g.cs = r ++ c :: s) : mget c.num M = some c.num :=
  hi.pi.getM.2 ⟨rfl, c, by rw [conns_mid, hc]; simp, rfl⟩

set_option maxHeartbeats 1000000 in
theorem holds_none (k : Env) (w : World) (R : Assn) (b : Nat) (P : PP) (last : Int) (G : List Gp) (N : List ByteArray) (x : Int) (hx : NoHold G x) (h : Sat k w (PoolV b P last G N * R)) :
    Calls Try.prog 16 #[pt b, .int .i64 x] w fun e w' => e = .returned (.tuple #[.int .i64 0, .bool false]) ∧ Sat k w' (PoolV b P last G N * R) := by
  obtain ⟨A, B, L, M, K, hi, hr⟩ := pv_open h
  obtain ⟨mG, vN, mC, mK, hs⟩ := pool_open hr
  have c5 : w.cell? ⟨b, 5, none⟩ = some (.map (some mG)) := hs.cell 5
  have c8 : w.cell? ⟨b, 8, none⟩ = some (.map (some mK)) := hs.cell 8
  have hl := run_lookup_sat KInt mapC zeroC hs.get5 x
  rw [ments_get, (nohold_K hi).2 hx] at hl
  simp only [Option.map_none, Option.getD_none] at hl
  clear hx
  go_enter Try.func16, Try.ntmps16
  go_wp2_with (go_at_call 20; refine (pthere_any _ _ _ c5).mono ?_; rintro e w' ⟨rfl, rfl⟩)
  go_ret2
  exact ⟨rfl, h⟩

set_option maxHeartbeats 1000000 in
theorem holds_some (k : Env) (w : World) (R : Assn) (b : Nat) (P : PP) (last : Int) (p q : List Gp) (g : Gp) (N : List ByteArray) (r s : List Cn) (c : Cn) (hc : g.cs = r ++ c :: s) (hx : c.cl ≠ -1) (h : Sat k w (PoolV b P last (p ++ g :: q) N * R)) :
    Calls Try.prog 16 #[pt b, .int .i64 c.cl] w fun e w' => e = .returned (.tuple #[.int .i64 c.num, .bool true]) ∧ Sat k w' (PoolV b P last (p ++ g :: q) N * R) := by
  obtain ⟨A, B, L, M, K, hi, hr⟩ := pv_open h
  obtain ⟨mG, vN, mC, mK, a, cap, hs⟩ := pool_conn hr hc
  have c5 : w.cell? ⟨b, 5, none⟩ = some (.map (some mG)) := hs.cell 5
  have c8 : w.cell? ⟨b, 8, none⟩ = some (.map (some mK)) := hs.cell 8
  have d0 : w.cell? ⟨A c.num, 0, none⟩ = some (.int .i64 c.num) := hs.get3.cell 0
  have hl := run_lookup_sat KInt mapC zeroC hs.get7 c.cl
  rw [ments_get, hold_K hi hc hx] at hl
  simp only [Option.map_some, Option.getD_some] at hl
  clear hx hc
  go_enter Try.func16, Try.ntmps16
  go_wp2_with (go_at_call 20; refine (pthere_any _ _ _ c5).mono ?_; rintro e w' ⟨rfl, rfl⟩)
  go_ret2
  exact ⟨rfl, h⟩

set_option maxHeartbeats 1000000 in
theorem pin_none (k : Env) (w : World) (R : Assn) (b : Nat) (P : PP) (last : Int) (G : List Gp) (N : List ByteArray) (x : Int) (hx : NoHold G x) (h : Sat k w (PoolV b P last G N * R)) :
    Calls Try.prog 10 #[pt b, .int .i64 x] w fun e w' => e = .returned (.bool false) ∧ Sat k w' (PoolV b P last G N * R) := by
  obtain ⟨A, B, L, M, K, hi, hr⟩ := pv_open h
  obtain ⟨mG, vN, mC, mK, hs⟩ := pool_open hr
  have c5 : w.cell? ⟨b, 5, none⟩ = some (.map (some mG)) := hs.cell 5
  have c8 : w.cell? ⟨b, 8, none⟩ = some (.map (some mK)) := hs.cell 8
  have hl := run_lookup_sat KInt mapC zeroC hs.get5 x
  rw [ments_get, (nohold_K hi).2 hx] at hl
  simp only [Option.map_none, Option.getD_none] at hl
  clear hx
  go_enter Try.func10, Try.ntmps10
  go_wp2_with (go_at_call 20; refine (pthere_any _ _ _ c5).mono ?_; rintro e w' ⟨rfl, rfl⟩)
  go_ret
  exact ⟨rfl, h⟩

theorem PInv.turn {P : PP} {last last' : Int} {p q : List Gp} {g g' : Gp} {N : List ByteArray} {M K M' K' : List (Int × Int)} (hi : PInv P last (p ++ g :: q) N M K) (hn : g'.name = g.name) (hl : (g'.cs.length : Int) ≤ P.lim)
    (hp : PI (conns (p ++ g' :: q)) (waitr (p ++ g' :: q)) M' K' last') : PInv P last' (p ++ g' :: q) N M' K' := by
  have e : (p ++ g' :: q).map (·.name) = (p ++ g :: q).map (·.name) := by simp [hn]
  refine ⟨by rw [e]; exact hi.nn, by rw [e]; exact hi.pn, hp, ?_, hi.ok⟩
  intro y hy
  rcases List.mem_append.1 hy with hy | hy
  · exact hi.sz y (by simp [hy])
  · rcases List.mem_cons.1 hy with rfl | hy
    · exact hl
    · exact hi.sz y (by simp [hy])
theorem pi_at {P : PP} {last : Int} {p q : List Gp} {g : Gp} {N : List ByteArray} {M K : List (Int × Int)} (hi : PInv P last (p ++ g :: q) N M K) {r s : List Cn} {c : Cn} (hc : g.cs = r ++ c :: s) : PI (c :: (conns p ++ ((r ++ s) ++ conns q))) (g.sp.map (·.1) ++ (waitr p ++ waitr q)) M K last :=
  hi.pi.perm (conns_perm p q g r s c hc) (waitr_perm p q g)
theorem pi_to {last : Int} {p q : List Gp} {nm : ByteArray} {sp : List Sp} {M K : List (Int × Int)} {r s : List Cn} {c : Cn} (h : PI (c :: (conns p ++ ((r ++ s) ++ conns q))) (sp.map (·.1) ++ (waitr p ++ waitr q)) M K last) : PI (conns (p ++ ⟨nm, r ++ c :: s, sp⟩ :: q)) (waitr (p ++ ⟨nm, r ++ c :: s, sp⟩ :: q)) M K last :=
  h.perm (conns_perm p q ⟨nm, r ++ c :: s, sp⟩ r s c rfl).symm (waitr_perm p q ⟨nm, r ++ c :: s, sp⟩).symm

set_option maxHeartbeats 1000000 in
theorem pin_some (k : Env) (w : World) (R : Assn) (b : Nat) (P : PP) (last : Int) (p q : List Gp) (g : Gp) (N : List ByteArray) (r s : List Cn) (c : Cn) (hc : g.cs = r ++ c :: s) (hx : c.cl ≠ -1) (h : Sat k w (PoolV b P last (p ++ g :: q) N * R)) :
    Calls Try.prog 10 #[pt b, .int .i64 c.cl] w fun e w' => e = .returned (.bool true) ∧ Sat k w' (PoolV b P last (p ++ ⟨g.name, r ++ ⟨c.num, c.cl, c.since, true⟩ :: s, g.sp⟩ :: q) N * R) := by
  obtain ⟨A, B, L, M, K, hi, hr⟩ := pv_open h
  obtain ⟨mG, vN, mC, mK, a, cap, hs⟩ := pool_conn hr hc
  have c5 : w.cell? ⟨b, 5, none⟩ = some (.map (some mG)) := hs.cell 5
  have c8 : w.cell? ⟨b, 8, none⟩ = some (.map (some mK)) := hs.cell 8
  have d4 : w.cell? ⟨A c.num, 4, none⟩ = some (.bool c.pin) := hs.get3.cell 4
  have f4 := hs.get3.frozen 4
  have hl := run_lookup_sat KInt mapC zeroC hs.get7 c.cl
  rw [ments_get, hold_K hi hc hx] at hl
  simp only [Option.map_some, Option.getD_some] at hl
  have HC := Lib.hid hc
  clear hx hc
  go_enter Try.func10, Try.ntmps10
  go_wp2_with (go_at_call 20; refine (pthere_any _ _ _ c5).mono ?_; rintro e w' ⟨rfl, rfl⟩)
  go_ret
  refine ⟨rfl, pv_close (M := M) (K := K) (pool_conn_close (c := ⟨c.num, c.cl, c.since, true⟩) (hs.get3.set 4 (.bool true)).put3 rfl (by simp [gents]) rfl rfl (by rw [HC.out]; simp) (by rw [HC.out]; simp [cptr]) rfl rfl) (hi.turn rfl (by have := hi.sz g (by simp); rw [HC.out] at this; simpa using this) (pi_to ((pi_at hi HC.out).note _ rfl rfl)))⟩

end Go.Proofs.Yticponkpgaofnaa
