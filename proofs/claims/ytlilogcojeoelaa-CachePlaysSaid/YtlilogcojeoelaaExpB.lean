/- Contracts of package expiry: up, down, remove. -/
import Derived.Test.YtlilogcojeoelaaExpA
namespace Go.Proofs.Ytlilogcojeoelaa
set_option linter.all false
open Go Go.RowKit

theorem par_tdiv (i : Nat) : Int.tdiv ((i : Int) - 1) 2 = (par i : Int) := by
  unfold par
  rcases Nat.eq_zero_or_pos i with rfl | h
  · decide
  · rw [show ((i : Int) - 1) = ((i - 1 : Nat) : Int) by omega]
    rfl

theorem wrap_nat (n : Nat) (h : (n : Int) ≤ 1073741824) : wrap64 (n : Int) = n := IntWalk.wrap64_in _ ⟨by omega, by omega⟩
theorem par_le (i : Nat) : par i ≤ i := by unfold par; omega

set_option maxRecDepth 100000 in
set_option maxHeartbeats 1000000 in
theorem qup_any (k : Env) (w : World) (R : Assn) (b : Nat) (H : List It) (s : Int) (i : Nat) (hu : UpI H i) (hl : (H.length : Int) ≤ 1073741824) (h : Sat k w (QueueR b H s * R)) :
    Calls Try.prog 80 #[.pointer (some ⟨b, 0, none⟩), .int .i64 i] w fun e w' => e = .returned (.tuple #[]) ∧ ∃ H', HeapOK H' ∧ H'.Perm H ∧ Sat k w' (QueueR b H' s * R) := by
  have hp0 := par_tdiv i
  have hi := hu.1
  go_enter Try.func80, Try.ntmps80
  go_wp2_with fail
  go_loopw [1, 4] (fun u1 u4 wr => ∃ (j : Nat) (H' : List It), u1 = .int .i64 j ∧ u4 = .int .i64 (par j) ∧ Hid (UpI H' j) ∧ Hid (H'.Perm H) ∧ Sat k wr (QueueR b H' s * R)) (fun u1 _ _ => (intOf u1).toNat)
  case atStart => exact ⟨i, H, rfl, by rw [wrap_nat _ (by have := par_le i; omega)], hu, List.Perm.refl _, h⟩
  case round =>
    obtain ⟨j, H', rfl, rfl, HU, HP, hr⟩ := hrel
    have hl' : H'.length = H.length := HP.out.length_eq
    by_cases h0 : 0 < j
    · have hpj := par_lt h0
      have hjl := HU.out.1
      have hpp := par_tdiv (par j)
      by_cases hlt : ilt (hat H' j) (hat H' (par j))
      · have hd := Lib.hid (show decide (ilt (hat H' j) (hat H' (par j))) = true from decide_eq_true hlt)
        have HU2 := Lib.hid (HU.out.step h0 hlt)
        go_wp2_with (first | (go_at_call 92; refine (qless_any _ _ _ b H' s j (par j) hjl (by omega) hr).mono ?_; rintro e w1 ⟨rfl, h1⟩; rw [hd.out]) | (go_at_call 93; refine (qswap_any _ _ _ b H' s j (par j) hjl (by omega) h1).mono ?_; rintro e w2 ⟨rfl, h2⟩))
        go_roundw
        case rel => exact ⟨par j, _, rfl, by rw [wrap_nat _ (by have := par_le (par j); omega)], HU2.out, (swapL_perm hjl (by omega)).trans HP.out, h2⟩
        case measure => simp [intOf]; omega
      · have hd := Lib.hid (show decide (ilt (hat H' j) (hat H' (par j))) = false from decide_eq_false hlt)
        go_wp2_with (first | (go_at_call 92; refine (qless_any _ _ _ b H' s j (par j) hjl (by omega) hr).mono ?_; rintro e w1 ⟨rfl, h1⟩; rw [hd.out]))
        go_end0
        exact ⟨rfl, H', HU.out.done (.inr hlt), HP.out, h1⟩
    · have hj0 : j = 0 := by omega
      go_wp2_with fail
      go_end0
      exact ⟨rfl, H', HU.out.done (.inl hj0), HP.out, hr⟩

/-- The better one of the best so far and a child. -/
def betterN (H : List It) (best c : Nat) : Nat := if c < H.length ∧ ilt (hat H c) (hat H best) then c else best

set_option maxRecDepth 100000 in
set_option maxHeartbeats 1000000 in
theorem qbetter_any (k : Env) (w : World) (R : Assn) (b pq pb : Nat) (H : List It) (s : Int) (c best : Nat) (hb : best < H.length) (hl : (H.length : Int) ≤ 1073741824)
    (h : Sat k w (blk pq (.cells #[.pointer (some ⟨b, 0, none⟩)] 69 (0, 0)) * (blk pb (.cells #[.int .i64 best] 3 (0, 0)) * (QueueR b H s * R)))) :
    Calls Try.prog 95 #[.int .i64 c, .pointer (some ⟨pq, 0, none⟩), .pointer (some ⟨pb, 0, none⟩)] w fun e w' => e = .returned (.tuple #[]) ∧
      Sat k w' (blk pq (.cells #[.pointer (some ⟨b, 0, none⟩)] 69 (0, 0)) * (blk pb (.cells #[.int .i64 (betterN H best c)] 3 (0, 0)) * (QueueR b H s * R))) := by
  obtain ⟨P, hp, hc⟩ := queue_open h.get3
  obtain ⟨a, cp, m, hs⟩ := qc_open hc
  have c0 : w.cell? ⟨b, 0, none⟩ = some (.slice a H.length cp) := hs.cell 0
  have p0 : w.cell? ⟨pq, 0, none⟩ = some (.pointer (some ⟨b, 0, none⟩)) := h.cell 0
  have p1 : w.cell? ⟨pb, 0, none⟩ = some (.int .i64 best) := h.swap.cell 0
  go_enter Try.func95, Try.ntmps95
  by_cases hcl : c < H.length
  · by_cases hlt : ilt (hat H c) (hat H best)
    · have e1 : betterN H best c = c := if_pos ⟨hcl, hlt⟩
      have hd := Lib.hid (show decide (ilt (hat H c) (hat H best)) = true from decide_eq_true hlt)
      rw [e1]
      go_wp2_with (go_at_call 92; refine (qless_any _ _ _ b H s c best hcl hb h.get3).mono ?_; rintro e w1 ⟨rfl, h1⟩; rw [hd.out]; have h2 := h1.put3; have f1 := h2.swap.frozen 0; have p2 : w1.cell? ⟨pb, 0, none⟩ = some (.int .i64 best) := h2.swap.cell 0)
      go_end0
      exact ⟨rfl, (h2.swap.set 0 (.int .i64 c)).swap⟩
    · have e1 : betterN H best c = best := if_neg (fun q => hlt q.2)
      have hd := Lib.hid (show decide (ilt (hat H c) (hat H best)) = false from decide_eq_false hlt)
      rw [e1]
      go_wp2_with (go_at_call 92; refine (qless_any _ _ _ b H s c best hcl hb h.get3).mono ?_; rintro e w1 ⟨rfl, h1⟩; rw [hd.out])
      go_end0
      exact ⟨rfl, h1.put3⟩
  · have e1 : betterN H best c = best := if_neg (fun q => hcl q.1)
    rw [e1]
    go_wp2_with fail
    go_end0
    exact ⟨rfl, h⟩

theorem best_done {H : List It} {j : Nat} (h : betterN H (betterN H j (2 * j + 1)) (2 * j + 2) = j) :
    (2 * j + 1 < H.length → ¬ ilt (hat H (2 * j + 1)) (hat H j)) ∧ (2 * j + 2 < H.length → ¬ ilt (hat H (2 * j + 2)) (hat H j)) := by
  by_cases h1 : 2 * j + 1 < H.length ∧ ilt (hat H (2 * j + 1)) (hat H j)
  · have e1 : betterN H j (2 * j + 1) = 2 * j + 1 := if_pos h1
    rw [e1] at h
    unfold betterN at h
    split at h <;> omega
  · have e1 : betterN H j (2 * j + 1) = j := if_neg h1
    rw [e1] at h
    refine ⟨fun hl hi => h1 ⟨hl, hi⟩, fun hl hi => ?_⟩
    have : betterN H j (2 * j + 2) = 2 * j + 2 := if_pos ⟨hl, hi⟩
    omega
theorem best_step {H : List It} {j : Nat} (h : betterN H (betterN H j (2 * j + 1)) (2 * j + 2) ≠ j) :
    ∃ c, betterN H (betterN H j (2 * j + 1)) (2 * j + 2) = c ∧ c < H.length ∧ 0 < c ∧ par c = j ∧ ilt (hat H c) (hat H j) ∧ ∀ i, i < H.length → 0 < i → par i = j → ile (hat H c) (hat H i) := by
  by_cases h1 : 2 * j + 1 < H.length ∧ ilt (hat H (2 * j + 1)) (hat H j)
  · have e1 : betterN H j (2 * j + 1) = 2 * j + 1 := if_pos h1
    rw [e1] at h ⊢
    by_cases h2 : 2 * j + 2 < H.length ∧ ilt (hat H (2 * j + 2)) (hat H (2 * j + 1))
    · refine ⟨2 * j + 2, if_pos h2, h2.1, by omega, par2 j, ?_, fun i hi h0 hp => ?_⟩
      · exact ilt_le h2.2 (ile_of_lt h1.2)
      · rcases par_child h0 hp with rfl | rfl
        · exact ile_of_lt h2.2
        · exact ile_refl _
    · refine ⟨2 * j + 1, if_neg h2, h1.1, by omega, par1 j, h1.2, fun i hi h0 hp => ?_⟩
      rcases par_child h0 hp with rfl | rfl
      · exact ile_refl _
      · exact fun hq => h2 ⟨hi, hq⟩
  · have e1 : betterN H j (2 * j + 1) = j := if_neg h1
    rw [e1] at h ⊢
    by_cases h2 : 2 * j + 2 < H.length ∧ ilt (hat H (2 * j + 2)) (hat H j)
    · refine ⟨2 * j + 2, if_pos h2, h2.1, by omega, par2 j, h2.2, fun i hi h0 hp => ?_⟩
      rcases par_child h0 hp with rfl | rfl
      · have : ile (hat H j) (hat H (2 * j + 1)) := fun hq => h1 ⟨hi, hq⟩
        exact ile_of_lt (ilt_le h2.2 this)
      · exact ile_refl _
    · exact absurd (if_neg h2) h
theorem better_lt {H : List It} {j c : Nat} (h : j < H.length) : betterN H j c < H.length := by unfold betterN; split <;> omega

theorem qbetter_at (k : Env) (w : World) (R : Assn) (b pq pb : Nat) (H : List It) (s : Int) (c best : Nat) (ci : Int) (hci : ci = c) (hb : best < H.length) (hl : (H.length : Int) ≤ 1073741824)
    (h : Sat k w (blk pq (.cells #[.pointer (some ⟨b, 0, none⟩)] 69 (0, 0)) * (blk pb (.cells #[.int .i64 best] 3 (0, 0)) * (QueueR b H s * R)))) :
    Calls Try.prog 95 #[.int .i64 ci, .pointer (some ⟨pq, 0, none⟩), .pointer (some ⟨pb, 0, none⟩)] w fun e w' => e = .returned (.tuple #[]) ∧
      Sat k w' (blk pq (.cells #[.pointer (some ⟨b, 0, none⟩)] 69 (0, 0)) * (blk pb (.cells #[.int .i64 (betterN H best c)] 3 (0, 0)) * (QueueR b H s * R))) := by
  subst hci
  exact qbetter_any k w R b pq pb H s c best hb hl h

set_option maxRecDepth 100000 in
set_option maxHeartbeats 1000000 in
theorem qdown_any (k : Env) (w : World) (R : Assn) (b : Nat) (H : List It) (s : Int) (i0 : Nat) (hu : DnI H i0 i0) (hl : (H.length : Int) ≤ 1073741824) (h : Sat k w (QueueR b H s * R)) :
    Calls Try.prog 94 #[.pointer (some ⟨b, 0, none⟩), .int .i64 i0] w fun e w' => e = .returned (.tuple #[]) ∧ ∃ H', UpI H' i0 ∧ H'.Perm H ∧ Sat k w' (QueueR b H' s * R) := by
  have hq := h.alloc (.cells #[.pointer (some ⟨b, 0, none⟩)] 69)
  go_enter Try.func94, Try.ntmps94
  go_wp2_with fail
  generalize w.alloc (.cells #[.pointer (some ⟨b, 0, none⟩)] 69) = w1 at *
  generalize w.heap.size = pq at *
  go_loopw [1, 4, 5] (fun u1 _ _ wr => ∃ (j : Nat) (H' : List It), u1 = .int .i64 j ∧ Hid (DnI H' i0 j) ∧ Hid (H'.Perm H) ∧ Sat k wr (blk pq (.cells #[.pointer (some ⟨b, 0, none⟩)] 69 (0, 0)) * (QueueR b H' s * R))) (fun u1 _ _ _ => H.length - (intOf u1).toNat)
  case atStart => exact ⟨i0, H, rfl, hu, List.Perm.refl _, hq⟩
  case round =>
    clear hq h
    obtain ⟨j, H', rfl, HU, HP, hr⟩ := hrel
    have hl' : H'.length = H.length := HP.out.length_eq
    have hj := HU.out.1
    have h1 := (hr.alloc (.cells #[.int .i64 j] 3)).swap
    have hb1 := better_lt (H := H') (j := j) (c := 2 * j + 1) hj
    have hb2 := better_lt (H := H') (j := betterN H' j (2 * j + 1)) (c := 2 * j + 2) hb1
    have hl2 : (H'.length : Int) ≤ 1073741824 := by omega
    obtain ⟨pb, hpb⟩ : ∃ pb, wr.heap.size = pb := ⟨_, rfl⟩
    rw [hpb] at h1
    have HD := Lib.hid (best_done (H := H') (j := j))
    have HS := Lib.hid (best_step (H := H') (j := j))
    have C1 := Lib.hid (fun ci hci => qbetter_at k _ _ b pq pb H' s (2 * j + 1) j ci hci hj hl2 h1)
    have C2 := Lib.hid (fun w' ci hci => qbetter_at k w' R b pq pb H' s (2 * j + 2) (betterN H' j (2 * j + 1)) ci hci hb1 hl2)
    generalize betterN H' (betterN H' j (2 * j + 1)) (2 * j + 2) = b2 at *
    generalize betterN H' j (2 * j + 1) = b1 at *
    by_cases hbj : b2 = j
    · have HD1 := Lib.hid (HD.out hbj)
      subst hbj
      have hbb : ((b2 : Int) == (b2 : Int)) = true := by simp
      go_wp2_with (first | (go_at_call 95; refine (C1.out _ (by omega)).mono ?_; rintro e w2 ⟨rfl, h2⟩; have C3 := Lib.hid (fun ci hci => C2.out w2 ci hci h2); clear C1 C2) | (go_at_call 95; refine (C3.out _ (by omega)).mono ?_; rintro e w3 ⟨rfl, h3⟩; have p0 : w3.cell? ⟨pb, 0, none⟩ = some (.int .i64 b2) := h3.swap.cell 0))
      refine bodyPost_ret (v := .tuple #[]) (by simp [results, Try.results94, go_sem]) rfl ?_
      exact ⟨rfl, H', HU.out.done HD1.out.1 HD1.out.2, HP.out, h3.drop.drop⟩
    · obtain ⟨c, rfl, hc1, hc2, hc3, hc4, hc5⟩ := HS.out hbj
      have hbb : ((b2 : Int) == (j : Int)) = false := by simp; omega
      go_wp2_with (first | (go_at_call 95; refine (C1.out _ (by omega)).mono ?_; rintro e w2 ⟨rfl, h2⟩; have C3 := Lib.hid (fun ci hci => C2.out w2 ci hci h2); clear C1 C2) | (go_at_call 95; refine (C3.out _ (by omega)).mono ?_; rintro e w3 ⟨rfl, h3⟩; have p0 : w3.cell? ⟨pb, 0, none⟩ = some (.int .i64 b2) := h3.swap.cell 0; have p1 : w3.cell? ⟨pq, 0, none⟩ = some (.pointer (some ⟨b, 0, none⟩)) := h3.cell 0) | (go_at_call 93; refine (qswap_any k w3 _ b H' s j b2 hj hc1 h3.get3).mono ?_; rintro e w4 ⟨rfl, h4⟩; have p2 : w4.cell? ⟨pb, 0, none⟩ = some (.int .i64 b2) := h4.get3.cell 0))
      go_roundw
      case rel => exact ⟨b2, _, rfl, HU.out.step hc1 hc2 hc3 hc4 hc5, (swapL_perm hj hc1).trans HP.out, h4.drop3.swap⟩
      case measure => simp [intOf]; have := par_lt hc2; omega

end Go.Proofs.Ytlilogcojeoelaa
