/- Contracts of package pool: Count, Give. -/
import Derived.Test.YticponkpgaofnaaPoolG
namespace Go.Proofs.Yticponkpgaofnaa
set_option linter.all false
open Go Go.RowKit

set_option maxHeartbeats 1000000 in
theorem count_none (k : Env) (w : World) (R : Assn) (b : Nat) (P : PP) (last : Int) (G : List Gp) (N : List ByteArray) (s : ByteArray) (hs0 : ∀ g ∈ G, g.name ≠ s) (h : Sat k w (PoolV b P last G N * R)) :
    Calls Try.prog 15 #[pt b, .string s] w fun e w' => e = .returned (.tuple #[.int .i64 0, .int .i64 0, .int .i64 0]) ∧ Sat k w' (PoolV b P last G N * R) := by
  obtain ⟨A, B, L, M, K, hi, hr⟩ := pv_open h
  obtain ⟨mG, vN, mC, mK, hs⟩ := pool_open hr
  have c5 : w.cell? ⟨b, 5, none⟩ = some (.map (some mG)) := hs.cell 5
  have hl := run_lookup_sat KStr mapG zeroG hs.swap s
  rw [gents_none hs0] at hl
  simp only [Option.getD_none] at hl
  clear hs0
  go_enter Try.func15, Try.ntmps15
  go_wp2_with (go_at_call 20; refine (pthere_any _ _ _ c5).mono ?_; rintro e w' ⟨rfl, rfl⟩)
  go_ret3
  exact ⟨rfl, h⟩

def idleN (l : List Cn) : Nat := (l.filter fun c => decide (c.cl = -1)).length
theorem idleN_snoc (l : List Cn) (c : Cn) : idleN (l ++ [c]) = if c.cl = -1 then idleN l + 1 else idleN l := by
  simp only [idleN, List.filter_append, List.filter_cons, List.filter_nil]
  split <;> simp_all
theorem idleN_le (l : List Cn) : idleN l ≤ l.length := List.length_filter_le _ _

set_option maxHeartbeats 2000000 in
theorem count_some (k : Env) (w : World) (R : Assn) (b : Nat) (P : PP) (last : Int) (p q : List Gp) (g : Gp) (N : List ByteArray) (h : Sat k w (PoolV b P last (p ++ g :: q) N * R)) :
    Calls Try.prog 15 #[pt b, .string g.name] w fun e w' => e = .returned (.tuple #[.int .i64 g.cs.length, .int .i64 (idleN g.cs), .int .i64 g.sp.length]) ∧ Sat k w' (PoolV b P last (p ++ g :: q) N * R) := by
  obtain ⟨A, B, L, M, K, hi, hr⟩ := pv_open h
  obtain ⟨mG, vN, mC, mK, a, cap, hs⟩ := pool_group hr
  have hlen : (g.cs.length : Int) ≤ 1000 := by have := hi.sz g (by simp); have := hi.ok.2.1; omega
  have c5 : w.cell? ⟨b, 5, none⟩ = some (.map (some mG)) := hs.cell 5
  have d0 : w.cell? ⟨B g.name, 0, none⟩ = some (.slice a g.cs.length cap) := hs.swap.cell 0
  have d1 : w.cell? ⟨B g.name, 1, none⟩ = some (pt (L g.name)) := hs.swap.cell 1
  have hl := run_lookup_sat KStr mapG zeroG hs.get3 g.name
  rw [gents_get hi.nn] at hl
  simp only [Option.getD_some] at hl
  go_enter Try.func15, Try.ntmps15
  go_wp2_with (go_at_call 20; refine (pthere_any _ _ _ c5).mono ?_; rintro e w' ⟨rfl, rfl⟩)
  clear hl c5
  go_loopw [8, 10, 34] (fun n _ i wr => ∃ j : Nat, j ≤ g.cs.length ∧ i = .int .i64 j ∧ n = .int .i64 (idleN (g.cs.take j)) ∧ wr = w) (fun _ _ i _ => g.cs.length - (intOf i).toNat)
  case atStart => exact ⟨0, Nat.zero_le _, rfl, rfl, rfl⟩
  case round =>
    obtain ⟨j, hj, rfl, rfl, rfl⟩ := hrel
    have hb := idleN_le (g.cs.take j)
    rw [List.length_take] at hb
    have hb2 : (idleN (g.cs.take j) : Int) ≤ 1000 := by omega
    clear hb
    by_cases hlt : j < g.cs.length
    · obtain ⟨ga, rfl, hga, e0⟩ := ptr_get hs.get7 j hlt
      obtain ⟨_, hcell⟩ := conn_at hs.get9 (List.getElem_mem hlt)
      have e2 : wr.cell? ⟨A g.cs[j].num, 2, none⟩ = some (.int .i64 g.cs[j].cl) := hcell 2
      clear hcell
      have HT : Hid (idleN (g.cs.take (j + 1)) = if g.cs[j].cl = -1 then idleN (g.cs.take j) + 1 else idleN (g.cs.take j)) := by
        unfold Hid; rw [List.take_succ_eq_append_getElem hlt, idleN_snoc]
      by_cases hq : g.cs[j].cl = -1
      · have hqb : (g.cs[j].cl == -1) = true := by simpa using hq
        have HQ := Lib.hid hq
        clear hq
        go_wp2_with fail
        go_roundw
        case rel => exact ⟨j + 1, by omega, by go_num, by rw [HT.out, if_pos HQ.out]; go_num, by first | rfl | trivial⟩
        case measure => simp [intOf]; omega
      · have hqb : (g.cs[j].cl == -1) = false := by simpa using hq
        have HQ := Lib.hid hq
        clear hq
        go_wp2_with fail
        go_roundw
        case rel => exact ⟨j + 1, by omega, by go_num, by rw [HT.out, if_neg HQ.out], by first | rfl | trivial⟩
        case measure => simp [intOf]; omega
    · obtain rfl : j = g.cs.length := by omega
      rw [List.take_length] at *
      go_wp2_with fail
      go_region_held3 (fun w' => w'.cell? ⟨B g.name, 0, none⟩ = some (.slice a g.cs.length cap) ∧ w'.cell? ⟨B g.name, 1, none⟩ = some (pt (L g.name))) (first | exact ⟨d0, d1⟩ | exact ⟨(h2.get4.cell 0).trans rfl, (h2.get4.cell 1).trans rfl⟩ | fail) (first | (go_at_call 23; refine (all_any k _ _ (L g.name) g.sp P.que hs.drew.get8).mono ?_; rintro e w2 ⟨v2, rfl, h2⟩; obtain ⟨va, vc, hv⟩ := own_val h2; subst hv) | fail)
      all_goals
        go_wp2_with fail
        go_ret3
        exact ⟨by simp, pv_close (M := M) (K := K) (pool_group_close (ks := g.cs) h2.drop.put8 rfl rfl rfl rfl rfl rfl) hi⟩

end Go.Proofs.Yticponkpgaofnaa
