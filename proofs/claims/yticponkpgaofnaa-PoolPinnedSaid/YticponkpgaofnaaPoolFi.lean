/- The law PoolFifo, walked. -/
import Derived.Test.YticponkpgaofnaaPoolX
import Derived.Test.YticponkpgaofnaaRw
import Derived.OpenShut
namespace Go.Proofs.Yticponkpgaofnaa
set_option linter.all false
open Go Go.RowKit

/-- Those from a on, n of them, who came one behind the other. -/
def fq (now : Int) (a n : Nat) : List Sp := (List.range' a n).map fun j : Nat => ((j : Int), now + j + 1073741824)
theorem fq_cons (now : Int) (a n : Nat) : fq now a (n + 1) = ((a : Int), now + a + 1073741824) :: fq now (a + 1) n := by simp [fq, List.range'_succ]
theorem fq_snoc (now : Int) (n : Nat) : fq now 1 (n + 1) = fq now 1 n ++ [(((n + 1 : Nat) : Int), now + (n + 1 : Nat) + 1073741824)] := by
  unfold fq
  rw [List.range'_concat, List.map_append]
  simp [Nat.add_comm]
theorem fq_len (now : Int) (a n : Nat) : (fq now a n).length = n := by simp [fq]
theorem fq_mem (now : Int) (a n : Nat) (s : Sp) (h : s ∈ fq now a n) : (a : Int) ≤ s.1 ∧ s.1 < a + n := by
  obtain ⟨j, hj, rfl⟩ := List.mem_map.1 h
  rw [List.mem_range'_1] at hj
  omega
theorem fq_new (now : Int) (a n : Nat) (x : Int) (h : (a : Int) + n ≤ x) : x ∉ (fq now a n).map (·.1) := by
  intro hm
  obtain ⟨s, hs, rfl⟩ := List.mem_map.1 hm
  have := fq_mem now a n s hs
  omega

abbrev lineG (c : Cn) (sp : List Sp) : List Gp := [⟨sg, [c], sp⟩]

theorem conns_line (c : Cn) (sp : List Sp) : conns (lineG c sp) = [c] := by simp [conns]
theorem waitr_line (c : Cn) (sp : List Sp) : waitr (lineG c sp) = sp.map (·.1) := by simp [waitr]
theorem best_held (c : Cn) (h : c.cl ≠ -1) : bestC [c] = none := by
  cases hb : bestC [c] with
  | none => rfl
  | some d =>
    rcases bestC_mem hb with ⟨h1, h2⟩ | h1
    · rw [List.mem_singleton] at h1; subst h1; exact absurd h2 h
    · cases h1

/-- Asked where the one connection is held: one waits. -/
theorem ask_line (k : Env) (w : World) (R : Assn) (b : Nat) (P : PP) (last : Int) (c : Cn) (sp : List Sp) (x now : Int) (hP : P.lim = 1) (hc : c.cl ≠ -1) (hcx : c.cl ≠ x) (hw : x ∉ sp.map (·.1)) (q0 : ¬ x < 0) (q1 : ¬ now < 0) (q2 : ¬ 549755813888 < now)
    (q3 : 0 ≤ now + P.wt) (q4 : now + P.wt ≤ 1099511627776) (q5 : (sp.length : Int) < P.que) (h : Sat k w (PoolV b P last (lineG c sp) [sg] * R)) :
    Calls Try.prog 8 #[pt b, .string sg, .int .i64 x, .int .i64 now] w fun e w' => e = .returned (.tuple #[loanV 0 0 false, .bool false, .int .i64 0]) ∧ Sat k w' (PoolV b P last (lineG c (sp ++ [(x, now + P.wt)])) [sg] * R) := by
  have e1 : joinE sp P.que x (now + P.wt) = 0 := by
    unfold joinE
    rw [if_neg (by omega), if_neg (by have := (plc_none x sp 0).2 hw; omega), if_neg (by omega)]
  have e2 : joinL sp P.que x (now + P.wt) = sp ++ [(x, now + P.wt)] := by unfold joinL; rw [if_pos e1]
  have hx : NoHold (lineG c sp) x := .inr (by simp [conns, hcx])
  have hwx : x ∉ waitr (lineG c sp) := by rw [waitr_line]; exact hw
  have hwg : withG sg (lineG c sp) = [] ++ ⟨sg, [c], sp⟩ :: [] := withG_one sg [c] sp
  have hwn : withN sg (lineG c sp) [sg] = [sg] := withN_one sg [c] sp
  by_cases hs : sp = []
  · have := ask_full k w R b P last (lineG c sp) [] [] ⟨sg, [c], sp⟩ [sg] sg x now (by simp) hx hwx q0 q1 q2 hwg rfl hs (best_held c hc) (by simp [hP]) h
    simp only [e1, e2, hwn, List.nil_append] at this
    exact this
  · have := ask_behind k w R b P last (lineG c sp) [] [] ⟨sg, [c], sp⟩ [sg] sg x now (by simp) hx hwx q0 q1 q2 hwg rfl hs h
    simp only [e1, e2, hwn, List.nil_append] at this
    exact this

abbrev PF : PP := ⟨1, 1000, 1073741824, 9⟩

set_option maxRecDepth 100000 in
set_option maxHeartbeats 4000000 in
theorem walkPoolFifo (W : World) (n : Int) (w0 : (Lit.int .u8 n).wf = true) (now : Int) (w1 : (Lit.int .u16 now).wf = true) :
    Calls Try.prog 4 #[.int .u8 n, .int .u16 now] W fun e w' => e = .returned (.bool true) ∧ Below W.heap.size W w' := by
  obtain ⟨n0, n1⟩ := bounds_u8 w0
  obtain ⟨t0, t1⟩ := bounds_u16 w1
  clear w0 w1
  go_enter Try.func4, Try.ntmps4
  go_wp2_with fail
  obtain ⟨m, hm, hm1, hm2⟩ : ∃ m : Nat, 2 + n % 40 = (m : Int) ∧ 2 ≤ m ∧ m ≤ 42 := ⟨(2 + n % 40).toNat, by omega, by omega, by omega⟩
  simp only [hm]
  clear hm n0 n1
  refine (pnew_any _ _ _ PF (by unfold PP.ok; decide) (Sat.whole W)).mono ?_
  rintro e w1 ⟨b, rfl, h1⟩
  go_wp2_with fail
  go_loopw [8, 9, 10, 11] (fun i _ _ _ wr => ∃ j : Nat, j ≤ m ∧ i = .int .i64 j ∧ ((j = 0 ∧ Sat (World.env W) wr (PoolV b PF 0 [] [] * whole W)) ∨ (1 ≤ j ∧ Sat (World.env W) wr (PoolV b PF 1 (lineG (newLent 1 0) (fq now 1 (j - 1))) [sg] * whole W)))) (fun i _ _ _ _ => m - (intOf i).toNat)
  case atStart => exact ⟨0, Nat.zero_le _, rfl, .inl ⟨rfl, h1⟩⟩
  case round =>
    obtain ⟨j, hj, rfl, hr⟩ := hrel
    by_cases hlt : j < m
    · rcases hr with ⟨rfl, hr⟩ | ⟨hj1, hr⟩
      · go_wp2_with fail
        refine (ask_made _ _ _ b PF 0 [] [] [] ⟨sg, [], []⟩ [] sg 0 now (by simp) (.inr (by simp [conns])) (by simp [waitr]) (by omega) (by omega) (by omega) (withG_nil sg) rfl rfl rfl (by simp) (by omega) hr).mono ?_
        rintro e w3 ⟨rfl, h3⟩
        rw [withN_nil] at h3
        replace h3 : Sat (World.env W) w3 (PoolV b PF 1 (lineG (newLent 1 0) (fq now 1 0)) [sg] * whole W) := h3
        unfold loanV
        go_wp2_with fail
        go_roundw
        case rel => exact ⟨1, by omega, rfl, .inr ⟨by omega, h3.alloc' _⟩⟩
        case measure => simp [intOf]; omega
      · obtain ⟨i, rfl⟩ : ∃ i, j = i + 1 := ⟨j - 1, by omega⟩
        rw [Nat.add_sub_cancel] at hr
        have hc := Lib.hid (ask_line (World.env W) wr (whole W) b PF 1 (newLent 1 0) (fq now 1 i) ((i + 1 : Nat) : Int) (now + ((i + 1 : Nat) : Int)) rfl (by simp [newLent]) (by simp [newLent]; omega) (fq_new now 1 i _ (by omega)) (by omega) (by omega) (by omega) (by simp only; omega) (by simp only; omega) (by rw [fq_len]; simp only; omega) hr)
        go_wp2_with fail
        refine hc.out.mono ?_
        clear hc
        rintro e w3 ⟨rfl, h3⟩
        rw [show now + ((i + 1 : Nat) : Int) + PF.wt = now + (i + 1 : Nat) + 1073741824 from rfl, ← fq_snoc] at h3
        unfold loanV
        go_wp2_with fail
        go_roundw
        case rel => exact ⟨i + 1 + 1, by omega, by go_num, .inr ⟨by omega, h3.alloc' _⟩⟩
        case measure => simp [intOf]; omega
    · have hjm : j = m := by omega
      subst hjm
      have h2 : Sat (World.env W) wr (PoolV b PF 1 (lineG (newLent 1 0) (fq now 1 (j - 1))) [sg] * whole W) := by
        rcases hr with ⟨rfl, _⟩ | ⟨_, hr⟩
        · omega
        · exact hr
      clear hr hlt hj
      go_wp2_with fail
      go_loopw [12, 13, 14, 15, 16] (fun i _ _ _ _ wr => ∃ (l : Nat) (s : Int), l + 1 ≤ j ∧ i = .int .i64 l ∧ Sat (World.env W) wr (PoolV b PF 1 (lineG ⟨1, l, s, false⟩ (fq now (l + 1) (j - 1 - l))) [sg] * whole W)) (fun i _ _ _ _ _ => j - (intOf i).toNat)
      case atStart => exact ⟨0, 0, by omega, rfl, h2⟩
      case round =>
        obtain ⟨l, s, hl, rfl, hr⟩ := hrel
        by_cases hlt : l + 1 < j
        · obtain ⟨d, hd⟩ : ∃ d, j - 1 - l = d + 1 := ⟨j - 1 - l - 1, by omega⟩
          rw [hd, fq_cons] at hr
          go_wp2_with fail
          refine (give_next _ _ _ b PF 1 [] [] ⟨sg, [⟨1, l, s, false⟩], _ :: fq now (l + 1 + 1) d⟩ [sg] [] [] ⟨1, l, s, false⟩ rfl (show (l : Int) ≠ -1 by omega) rfl _ _ rfl (now + 100) hr).mono ?_
          rintro e w3 ⟨rfl, h3⟩
          replace h3 : Sat (World.env W) w3 (PoolV b PF 1 ([] ++ ⟨sg, [⟨1, ((l : Int) + 1), now + 100, false⟩], fq now (l + 1 + 1) d⟩ :: []) [sg] * whole W) := h3
          unfold loanV
          go_wp2_with fail
          have h4 := (h3.alloc (.cells #[.int .i64 ((l : Int) + 1), .int .i64 1, .bool false] 30)).swap
          generalize w3.alloc (.cells #[.int .i64 ((l : Int) + 1), .int .i64 1, .bool false] 30) = w4 at *
          generalize w3.heap.size = ol at *
          refine (holds_some _ _ _ b PF 1 [] [] ⟨sg, [⟨1, ((l : Int) + 1), now + 100, false⟩], fq now (l + 1 + 1) d⟩ [sg] [] [] ⟨1, ((l : Int) + 1), now + 100, false⟩ rfl (show (l : Int) + 1 ≠ -1 by omega) h4).mono ?_
          rintro e w5 ⟨rfl, h5⟩
          have a0 : w5.cell? ⟨ol, 0, none⟩ = some (.int .i64 ((l : Int) + 1)) := h5.swap.cell 0
          have a1 : w5.cell? ⟨ol, 1, none⟩ = some (.int .i64 1) := h5.swap.cell 1
          have a2 : w5.cell? ⟨ol, 2, none⟩ = some (.bool false) := h5.swap.cell 2
          go_wp2_with fail
          go_roundw
          case rel => exact ⟨l + 1, now + 100, by omega, by go_num, (h5.drop2).of_eq (by rw [show j - 1 - (l + 1) = d by omega]; rfl)⟩
          case measure => simp [intOf]; omega
        · have hl1 : j = l + 1 := by omega
          subst hl1
          rw [show l + 1 - 1 - l = 0 by omega] at hr
          go_wp2_with fail
          refine (give_free _ _ _ b PF 1 [] [] ⟨sg, [⟨1, l, s, false⟩], []⟩ [sg] [] [] ⟨1, l, s, false⟩ rfl (show (l : Int) ≠ -1 by omega) rfl rfl (now + 100) hr).mono ?_
          rintro e w3 ⟨rfl, h3⟩
          replace h3 : Sat (World.env W) w3 (PoolV b PF 1 ([] ++ ⟨sg, [⟨1, -1, now + 100, false⟩], []⟩ :: []) [sg] * whole W) := h3
          unfold loanV
          go_wp2_with fail
          refine (count_some _ _ _ b PF 1 [] [] ⟨sg, [⟨1, -1, now + 100, false⟩], []⟩ [sg] (h3.alloc' _)).mono ?_
          rintro e w5 ⟨rfl, h5⟩
          rw [show idleN (⟨sg, [⟨1, -1, now + 100, false⟩], []⟩ : Gp).cs = 1 from rfl]
          simp only [List.length_cons, List.length_nil]
          go_wp2_with fail
          refine (known_any _ _ _ h5.drop).mono ?_
          rintro e w6 ⟨rfl, h6⟩
          go_wp2_with fail
          go_ret
          exact ⟨rfl, h6.below⟩

end Go.Proofs.Yticponkpgaofnaa
