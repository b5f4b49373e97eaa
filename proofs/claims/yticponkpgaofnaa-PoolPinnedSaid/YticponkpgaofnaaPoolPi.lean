/- The law PoolPinned, walked. -/
import Derived.Test.YticponkpgaofnaaPoolFi
namespace Go.Proofs.Yticponkpgaofnaa
set_option linter.all false
open Go Go.RowKit

def pq (now : Int) (a n : Nat) : List Sp := (List.range' a n).map fun j : Nat => ((j : Int), now + 1073741824)
theorem pq_cons (now : Int) (a n : Nat) : pq now a (n + 1) = ((a : Int), now + 1073741824) :: pq now (a + 1) n := by simp [pq, List.range'_succ]
theorem pq_snoc (now : Int) (n : Nat) : pq now 1 (n + 1) = pq now 1 n ++ [(((n + 1 : Nat) : Int), now + 1073741824)] := by
  unfold pq
  rw [List.range'_concat, List.map_append]
  simp [Nat.add_comm]
theorem pq_len (now : Int) (a n : Nat) : (pq now a n).length = n := by simp [pq]
theorem pq_mem (now : Int) (a n : Nat) (s : Sp) (h : s ∈ pq now a n) : (a : Int) ≤ s.1 ∧ s.1 < a + n := by
  obtain ⟨j, hj, rfl⟩ := List.mem_map.1 h
  rw [List.mem_range'_1] at hj
  omega
theorem pq_new (now : Int) (a n : Nat) (x : Int) (h : (a : Int) + n ≤ x) : x ∉ (pq now a n).map (·.1) := by
  intro hm
  obtain ⟨s, hs, rfl⟩ := List.mem_map.1 hm
  have := pq_mem now a n s hs
  omega

abbrev PN : PP := ⟨1, 50, 1073741824, 9⟩

set_option maxRecDepth 100000 in
set_option maxHeartbeats 4000000 in
theorem walkPoolPinned (W : World) (n : Int) (w0 : (Lit.int .u8 n).wf = true) (now : Int) (w1 : (Lit.int .u16 now).wf = true) :
    Calls Try.prog 5 #[.int .u8 n, .int .u16 now] W fun e w' => e = .returned (.bool true) ∧ Below W.heap.size W w' := by
  obtain ⟨n0, n1⟩ := bounds_u8 w0
  obtain ⟨t0, t1⟩ := bounds_u16 w1
  clear w0 w1
  go_enter Try.func5, Try.ntmps5
  go_wp2_with fail
  refine (pnew_any _ _ _ PN (by unfold PP.ok; decide) (Sat.whole W)).mono ?_
  rintro e w1 ⟨b, rfl, h1⟩
  go_wp2_with fail
  refine (ask_made _ _ _ b PN 0 [] [] [] ⟨sg, [], []⟩ [] sg 0 0 (by simp) (.inr (by simp [conns])) (by simp [waitr]) (by omega) (by omega) (by omega) (withG_nil sg) rfl rfl rfl (by simp) (by omega) h1).mono ?_
  rintro e w2 ⟨rfl, h2⟩
  rw [withN_nil] at h2
  replace h2 : Sat (World.env W) w2 (PoolV b PN 1 ([] ++ ⟨sg, [newLent 1 0], []⟩ :: []) [sg] * whole W) := h2
  unfold loanV
  go_wp2_with fail
  refine (pin_some _ _ _ b PN 1 [] [] ⟨sg, [newLent 1 0], []⟩ [sg] [] [] (newLent 1 0) rfl (by decide) h2).mono ?_
  rintro e w3 ⟨rfl, h3⟩
  replace h3 : Sat (World.env W) w3 (PoolV b PN 1 (lineG ⟨1, 0, 0, true⟩ (pq now 1 0)) [sg] * whole W) := h3
  go_wp2_with fail
  obtain ⟨m, hm, hm1, hm2⟩ : ∃ m : Nat, 1 + n % 20 = (m : Int) ∧ 1 ≤ m ∧ m ≤ 20 := ⟨(1 + n % 20).toNat, by omega, by omega, by omega⟩
  simp only [hm]
  clear hm n0 n1
  go_loopw [8, 9, 10, 11, 12, 13, 14, 15] (fun i _ _ _ _ _ _ _ wr => ∃ j : Nat, j ≤ m ∧ i = .int .i64 ((j : Int) + 1) ∧ Sat (World.env W) wr (PoolV b PN 1 (lineG ⟨1, 0, 0, true⟩ (pq now 1 j)) [sg] * whole W)) (fun i _ _ _ _ _ _ _ _ => m + 1 - (intOf i).toNat)
  case atStart => exact ⟨0, Nat.zero_le _, rfl, h3⟩
  case round =>
    obtain ⟨j, hj, rfl, hr⟩ := hrel
    by_cases hlt : j < m
    · have hc := Lib.hid (ask_line (World.env W) wr (whole W) b PN 1 ⟨1, 0, 0, true⟩ (pq now 1 j) ((j + 1 : Nat) : Int) now rfl (by simp) (by simp only; omega) (pq_new now 1 j _ (by omega)) (by omega) (by omega) (by omega) (by simp only; omega) (by simp only; omega) (by rw [pq_len]; simp only; omega) hr)
      go_wp2_with fail
      refine hc.out.mono ?_
      clear hc
      rintro e w4 ⟨rfl, h4⟩
      rw [show now + PN.wt = now + 1073741824 from rfl, ← pq_snoc] at h4
      unfold loanV
      go_wp2_with fail
      refine (give_pin _ _ _ b PN 1 [] [] ⟨sg, [⟨1, 0, 0, true⟩], pq now 1 (j + 1)⟩ [sg] [] [] ⟨1, 0, 0, true⟩ rfl (by decide) rfl now (h4.alloc' _)).mono ?_
      rintro e w5 ⟨rfl, h5⟩
      unfold loanV
      go_wp2_with fail
      refine (holds_some _ _ _ b PN 1 [] [] ⟨sg, [⟨1, 0, 0, true⟩], pq now 1 (j + 1)⟩ [sg] [] [] ⟨1, 0, 0, true⟩ rfl (by decide) (h5.alloc' _)).mono ?_
      rintro e w6 ⟨rfl, h6⟩
      go_wp2_with fail
      go_roundw
      case rel => exact ⟨j + 1, by omega, by go_num, h6⟩
      case measure => simp [intOf]; omega
    · have hjm : j = m := by omega
      subst hjm
      obtain ⟨d, rfl⟩ : ∃ d, j = d + 1 := ⟨j - 1, by omega⟩
      rw [pq_cons] at hr
      go_wp2_with fail
      refine (leave_next _ _ _ b PN 1 (lineG ⟨1, 0, 0, true⟩ _) [] [] ⟨sg, [⟨1, 0, 0, true⟩], _⟩ [sg] [] [] ⟨1, 0, 0, true⟩ rfl rfl (by decide) _ _ rfl (by omega) 0 now rfl hr).mono ?_
      rintro e w4 ⟨rfl, h4⟩
      replace h4 : Sat (World.env W) w4 (PoolV b PN 2 ([] ++ ⟨sg, [newLent 2 1], pq now 2 d⟩ :: []) [sg] * whole W) := h4
      unfold loanV
      go_wp2_with fail
      have h5 := (h4.alloc (.cells #[.int .i64 1, .int .i64 2, .bool true] 30)).swap
      generalize w4.alloc (.cells #[.int .i64 1, .int .i64 2, .bool true] 30) = w5 at *
      generalize w4.heap.size = ol at *
      refine (holds_none _ _ _ b PN 2 _ [sg] 0 (.inr (by simp [conns, newLent])) h5).mono ?_
      rintro e w6 ⟨rfl, h6⟩
      go_wp2_with fail
      refine (count_some _ _ _ b PN 2 [] [] ⟨sg, [newLent 2 1], pq now 2 d⟩ [sg] h6).mono ?_
      rintro e w7 ⟨rfl, h7⟩
      have a0 : w7.cell? ⟨ol, 0, none⟩ = some (.int .i64 1) := h7.swap.cell 0
      have a1 : w7.cell? ⟨ol, 1, none⟩ = some (.int .i64 2) := h7.swap.cell 1
      have a2 : w7.cell? ⟨ol, 2, none⟩ = some (.bool true) := h7.swap.cell 2
      rw [show idleN (⟨sg, [newLent 2 1], pq now 2 d⟩ : Gp).cs = 0 from rfl]
      simp only [List.length_cons, List.length_nil, pq_len]
      go_wp2_with fail
      refine (known_any _ _ _ h7.drop.drop).mono ?_
      rintro e w8 ⟨rfl, h8⟩
      go_wp2_with fail
      go_ret
      exact ⟨rfl, h8.below⟩

end Go.Proofs.Yticponkpgaofnaa
