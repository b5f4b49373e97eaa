/- Package pool: the fixed calls of the laws. -/
import Derived.Test.YticponkpgaofnaaPoolQ
namespace Go.Proofs.Yticponkpgaofnaa
set_option linter.all false
open Go Go.RowKit

abbrev sg : ByteArray := ⟨#[103]⟩
theorem withG_nil (s : ByteArray) : withG s [] = [] ++ ⟨s, [], []⟩ :: [] := by simp [withG]
theorem withG_one (s : ByteArray) (cs : List Cn) (sp : List Sp) : withG s [⟨s, cs, sp⟩] = [] ++ ⟨s, cs, sp⟩ :: [] := by simp [withG]
theorem withN_nil (s : ByteArray) : withN s [] [] = [s] := by simp [withN, insN, insP]
theorem withN_one (s : ByteArray) (cs : List Cn) (sp : List Sp) : withN s [⟨s, cs, sp⟩] [s] = [s] := by simp [withN]
abbrev P9 : PP := ⟨1, 9, 5, 5⟩

set_option maxRecDepth 100000 in
set_option maxHeartbeats 4000000 in
theorem known_any (k : Env) (w : World) (R : Assn) (h : Sat k w R) :
    Calls Try.prog 17 #[] w fun e w' => e = .returned (.bool true) ∧ Sat k w' R := by
  go_enter Try.func17, Try.ntmps17
  go_wp2_with fail
  refine (pnew_any k w R P9 (by unfold PP.ok; decide) h).mono ?_
  rintro e w1 ⟨b, rfl, h1⟩
  go_wp2_with fail
  refine (pnew_bad w1 0 9 5 5 (by omega)).mono ?_
  rintro e w2 ⟨rfl, rfl⟩
  go_wp2_with fail
  refine (ask_made k _ R b P9 0 [] [] [] ⟨sg, [], []⟩ [] sg 1 0 (by simp) (.inr (by simp [conns])) (by simp [waitr]) (by omega) (by omega) (by omega) (withG_nil sg) rfl rfl rfl (by simp) (by omega) h1).mono ?_
  rintro e w3 ⟨rfl, h3⟩
  rw [withN_nil] at h3
  replace h3 : Sat k w3 (PoolV b P9 1 [⟨sg, [newLent 1 1], []⟩] [sg] * R) := h3
  unfold loanV
  go_wp2_with fail
  have h3' := (h3.alloc (.cells #[.int .i64 1, .int .i64 1, .bool true] 30)).swap
  generalize w3.alloc (.cells #[.int .i64 1, .int .i64 1, .bool true] 30) = w4 at *
  generalize w3.heap.size = oa at *
  refine (ask_full k _ _ b P9 1 [⟨sg, [newLent 1 1], []⟩] [] [] ⟨sg, [newLent 1 1], []⟩ [sg] sg 2 0 (by simp) (.inr (by simp [conns, newLent])) (by simp [waitr]) (by omega) (by omega) (by omega) (withG_one sg _ _) rfl rfl rfl (by simp) h3').mono ?_
  rintro e w5 ⟨rfl, h5⟩
  rw [show joinE (⟨sg, [newLent 1 1], []⟩ : Gp).sp P9.que 2 (0 + P9.wt) = 0 from by decide +kernel]
  rw [show joinL (⟨sg, [newLent 1 1], []⟩ : Gp).sp P9.que 2 (0 + P9.wt) = [(2, 5)] from by decide +kernel, withN_one] at h5
  replace h5 : Sat k w5 (PoolV b P9 1 [⟨sg, [newLent 1 1], [(2, 5)]⟩] [sg] * _) := h5
  unfold loanV
  go_wp2_with fail
  refine (ask_waits k _ _ b P9 1 [⟨sg, [newLent 1 1], [(2, 5)]⟩] [sg] sg 2 0 (.inr (by simp [conns, newLent])) (by simp [waitr]) (by omega) (by omega) (by omega) (h5.alloc' _)).mono ?_
  rintro e w6 ⟨rfl, h6⟩
  unfold loanV
  go_wp2_with fail
  refine (ask_behind k _ _ b P9 1 [⟨sg, [newLent 1 1], [(2, 5)]⟩] [] [] ⟨sg, [newLent 1 1], [(2, 5)]⟩ [sg] sg 3 1 (by simp) (.inr (by simp [conns, newLent])) (by simp [waitr]) (by omega) (by omega) (by omega) (withG_one sg _ _) rfl (by simp) (h6.alloc' _)).mono ?_
  rintro e w7 ⟨rfl, h7⟩
  rw [show joinE (⟨sg, [newLent 1 1], [(2, 5)]⟩ : Gp).sp P9.que 3 (1 + P9.wt) = 0 from by decide +kernel]
  rw [show joinL (⟨sg, [newLent 1 1], [(2, 5)]⟩ : Gp).sp P9.que 3 (1 + P9.wt) = [(2, 5), (3, 6)] from by decide +kernel, withN_one] at h7
  replace h7 : Sat k w7 (PoolV b P9 1 ([] ++ ⟨sg, [newLent 1 1], [(2, 5), (3, 6)]⟩ :: []) [sg] * _) := h7
  unfold loanV
  go_wp2_with fail
  refine (give_next k _ _ b P9 1 [] [] ⟨sg, [newLent 1 1], [(2, 5), (3, 6)]⟩ [sg] [] [] (newLent 1 1) rfl (by decide) rfl (2, 5) [(3, 6)] rfl 2 h7).mono ?_
  rintro e w8 ⟨rfl, h8⟩
  rw [show (newLent 1 1).num = 1 from rfl]
  replace h8 : Sat k w8 (PoolV b P9 1 [⟨sg, [⟨1, 2, 2, false⟩], [(3, 6)]⟩] [sg] * _) := h8
  unfold loanV
  go_wp2_with fail
  have h8' := (h8.alloc (.cells #[.int .i64 2, .int .i64 1, .bool false] 30)).swap
  generalize w8.alloc (.cells #[.int .i64 2, .int .i64 1, .bool false] 30) = w9 at *
  generalize w8.heap.size = ob at *
  refine (late_pool k _ _ b P9 1 [⟨sg, [⟨1, 2, 2, false⟩], [(3, 6)]⟩] [sg] 6 (by simp) h8').mono ?_
  rintro e w10 ⟨v10, rfl, h10⟩
  rw [show lateAll 6 [⟨sg, [⟨1, 2, 2, false⟩], [(3, 6)]⟩] [sg] = [3] from by decide +kernel] at h10
  rw [show [(⟨sg, [⟨1, 2, 2, false⟩], [(3, 6)]⟩ : Gp)].map (stayG 6) = [] ++ ⟨sg, [⟨1, 2, 2, false⟩], []⟩ :: [] from rfl] at h10
  obtain ⟨va, vc, rfl⟩ := own_val h10
  go_wp2_with fail
  refine (pin_some k _ _ b P9 1 [] [] ⟨sg, [⟨1, 2, 2, false⟩], []⟩ [sg] [] [] ⟨1, 2, 2, false⟩ rfl (by decide) h10.swap).mono ?_
  rintro e w11 ⟨rfl, h11⟩
  replace h11 : Sat k w11 (PoolV b P9 1 ([] ++ ⟨sg, [⟨1, 2, 2, true⟩], []⟩ :: []) [sg] * _) := h11
  go_wp2_with fail
  refine (give_pin k _ _ b P9 1 [] [] ⟨sg, [⟨1, 2, 2, true⟩], []⟩ [sg] [] [] ⟨1, 2, 2, true⟩ rfl (by decide) rfl 7 h11).mono ?_
  rintro e w12 ⟨rfl, h12⟩
  unfold loanV
  go_wp2_with fail
  refine (leave_free k _ _ b P9 1 ([] ++ ⟨sg, [⟨1, 2, 2, true⟩], []⟩ :: []) [] [] ⟨sg, [⟨1, 2, 2, true⟩], []⟩ [sg] [] [] ⟨1, 2, 2, true⟩ rfl rfl (by decide) rfl 2 7 rfl (h12.alloc' _)).mono ?_
  rintro e w13 ⟨rfl, h13⟩
  replace h13 : Sat k w13 (PoolV b P9 1 [⟨sg, [], []⟩] [sg] * _) := h13
  unfold loanV
  go_wp2_with fail
  refine (ask_made k _ _ b P9 1 [⟨sg, [], []⟩] [] [] ⟨sg, [], []⟩ [sg] sg 4 8 (by simp) (.inr (by simp [conns])) (by simp [waitr]) (by omega) (by omega) (by omega) (withG_one sg _ _) rfl rfl rfl (by simp) (by omega) (h13.alloc' _)).mono ?_
  rintro e w14 ⟨rfl, h14⟩
  rw [withN_one] at h14
  replace h14 : Sat k w14 (PoolV b P9 2 ([] ++ ⟨sg, [newLent 2 4], []⟩ :: []) [sg] * _) := h14
  unfold loanV
  go_wp2_with fail
  refine (give_free k _ _ b P9 2 [] [] ⟨sg, [newLent 2 4], []⟩ [sg] [] [] (newLent 2 4) rfl (by decide) rfl rfl 8 h14).mono ?_
  rintro e w15 ⟨rfl, h15⟩
  replace h15 : Sat k w15 (PoolV b P9 2 ([] ++ ⟨sg, [⟨2, -1, 8, false⟩], []⟩ :: []) [sg] * _) := h15
  unfold loanV
  go_wp2_with fail
  refine (count_some k _ _ b P9 2 [] [] ⟨sg, [⟨2, -1, 8, false⟩], []⟩ [sg] h15).mono ?_
  rintro e w16 ⟨rfl, h16⟩
  rw [show idleN (⟨sg, [⟨2, -1, 8, false⟩], []⟩ : Gp).cs = 1 from by decide +kernel]
  simp only [List.length_cons, List.length_nil]
  go_wp2_with fail
  refine (reap_pool k _ _ b P9 2 ([] ++ ⟨sg, [⟨2, -1, 8, false⟩], []⟩ :: []) [sg] 13 (by decide) (by omega) (by omega) h16).mono ?_
  rintro e w17 ⟨v17, rfl, h17⟩
  rw [show reapL (13 - P9.idl) ([] ++ ⟨sg, [⟨2, -1, 8, false⟩], []⟩ :: []) (Int.toNat 2) = [2] from by decide +kernel] at h17
  obtain ⟨vd, ve, rfl⟩ := own_val h17
  have a0 : w17.cell? ⟨oa, 0, none⟩ = some (.int .i64 1) := h17.get5.cell 0
  have a1 : w17.cell? ⟨oa, 1, none⟩ = some (.int .i64 1) := h17.get5.cell 1
  have a2 : w17.cell? ⟨oa, 2, none⟩ = some (.bool true) := h17.get5.cell 2
  have b0 : w17.cell? ⟨ob, 0, none⟩ = some (.int .i64 2) := h17.get4.cell 0
  have b1 : w17.cell? ⟨ob, 1, none⟩ = some (.int .i64 1) := h17.get4.cell 1
  have b2 : w17.cell? ⟨ob, 2, none⟩ = some (.bool false) := h17.get4.cell 2
  go_wp2_with fail
  refine (ints_eq k _ _ _ _ [3] [3] (ints_lit [3] (by simp [maxLen]) h17 _ rfl).get4).mono ?_
  rintro e w18 ⟨rfl, h18⟩
  go_wp2_with fail
  refine (ints_eq k _ _ _ _ [2] [2] (ints_lit [2] (by simp [maxLen]) h18 _ rfl).get4).mono ?_
  rintro e w19 ⟨rfl, h19⟩
  go_wp2_with fail
  go_ret
  exact ⟨rfl, h19.drop.drop.drop.drop.drop.drop.drop⟩

end Go.Proofs.Yticponkpgaofnaa
