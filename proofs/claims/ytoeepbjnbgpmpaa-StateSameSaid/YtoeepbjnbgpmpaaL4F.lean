/- Contracts of the document's lexer (pontoonref04): one. -/
import Derived.Test.YtoeepbjnbgpmpaaL4E
namespace Go.Proofs.Ytoeepbjnbgpmpaa
set_option linter.all false
open Go Go.RowKit

def r1K : One → Int
  | .tok k _ _ => k
  | _ => 0
def r1T : One → ByteArray
  | .tok _ t _ => mk t
  | _ => ⟨#[]⟩
def r1A (a : Nat) : One → Int
  | .tok _ _ _ => a
  | _ => 0
def r1N (a : Nat) : One → Int
  | .tok _ _ n => (a + n : Nat)
  | _ => 0
def r1E : One → Int
  | .tok _ _ _ => 0
  | .opn _ => 6
  | .bad => 7

set_option maxRecDepth 100000 in
set_option maxHeartbeats 16000000 in
theorem rone_any (k : Env) (w : World) (R : Assn) (s : ByteArray) (a : Nat) (ha : a < s.size) (c : UInt8) (r : List UInt8) (hc : s[a] = c) (hr : (bl s).drop (a + 1) = r) (hs : s.size ≤ 1000000000) (h : Sat k w R) :
    Calls Try.prog 48 #[.string s, .int .i64 a] w fun e w' => e = .returned (.tuple #[.agg #[.int .i64 (r1K (oneL (c :: r))), .string (r1T (oneL (c :: r))), .int .i64 (r1A a (oneL (c :: r)))], .int .i64 (r1N a (oneL (c :: r))), .int .i64 (r1E (oneL (c :: r)))]) ∧ Sat k w' R := by
  have hD : (bl s).drop a = c :: r := by rw [bl_drop s a ha, hc, hr]
  have hlen : (c :: r).length = s.size - a := by rw [← hD, List.length_drop, bl_len]
  have haI : (a : Int) < s.size := by omega
  have haI2 : (a : Int) ≤ s.size := by omega
  have h1 := h.alloc (.cells #[.int .i64 0, .string ⟨#[]⟩, .int .i64 0] 27)
  have hex : ∀ n, s.extract a (a + n) = mk ((c :: r).take n) := fun n => by rw [ex_eq, hD, Nat.add_sub_cancel_left]
  have HL := fun w => rletter_any w c
  have HG := fun w => rdigit_any w c
  cases hL : isLet c with
  | true =>
    rw [hL] at HL
    have CL := Lib.hid HL
    have hx : oneL (c :: r) = .tok 1 (((c :: r).take (runL pWord (c :: r))).map low) (runL pWord (c :: r)) := by rw [oneL, if_pos hL]
    have hn := runL_le pWord (c :: r)
    have CR := fun w => row_word w s a (by omega) hs
    rw [hD] at CR
    have hT : lowS (s.extract a (a + runL pWord (c :: r))) = mk (((c :: r).take (runL pWord (c :: r))).map low) := by rw [hex]; rfl
    rw [hx]
    simp only [r1K, r1T, r1A, r1N, r1E]
    rw [← hT]
    obtain ⟨m, hm⟩ : ∃ m, m = a + runL pWord (c :: r) := ⟨_, rfl⟩
    rw [← hm] at CR ⊢
    have hm1 : (a : Int) ≤ m := by omega
    have hm2 : (m : Int) ≤ s.size := by omega
    have CS := Lib.hid (fun w' R' h => rsmall_any k w' R' (s.extract a m) (by simp; omega) h)
    have CR' := Lib.hid CR
    generalize lowS (s.extract a m) = t at *
    clear hx hT hn hL HL HG CR hlen hex h hm hD hr
    go_enter Try.func48, Try.ntmps48
    go_upto_region 1 with fail
    generalize w.alloc (.cells #[.int .i64 0, .string ⟨#[]⟩, .int .i64 0] 27) = w1 at *
    generalize w.heap.size = o at *
    have d0 : w1.cell? ⟨o, 0, none⟩ = some (.int .i64 0) := h1.cell 0
    have d1 : w1.cell? ⟨o, 1, none⟩ = some (.string ⟨#[]⟩) := h1.cell 1
    have d2 : w1.cell? ⟨o, 2, none⟩ = some (.int .i64 0) := h1.cell 2
    have rf := h1.frozen
    go_wp2_with (first | (go_at_call 62; (with_reducible refine (CL.out _).mono ?_); rintro e w9 ⟨rfl, rfl⟩) | (go_at_call 63; (with_reducible refine (CR'.out _).mono ?_); rintro e w9 ⟨rfl, rfl⟩) | (go_at_call 64; (with_reducible refine (CS.out _ _ h1).mono ?_); rintro e w2 ⟨rfl, h2⟩; have d0 : w2.cell? ⟨o, 0, none⟩ = some (.int .i64 0) := h2.cell 0; have d1 : w2.cell? ⟨o, 1, none⟩ = some (.string ⟨#[]⟩) := h2.cell 1; have d2 : w2.cell? ⟨o, 2, none⟩ = some (.int .i64 0) := h2.cell 2; have rf := h2.frozen))
    refine bodyPost_ret (v := .tuple #[.agg #[.int .i64 1, .string t, .int .i64 a], .int .i64 m, .int .i64 0]) (by simp [results, Try.results48, go_sem, d0, d1, d2]) rfl ?_
    exact ⟨rfl, (((h2.set 0 _).set 1 _).set 2 _).drop⟩
  | false =>
    rw [hL] at HL
    have CL := Lib.hid HL
    have e1 : ¬ isLet c = true := by rw [hL]; decide
    clear HL
    cases hG : isDig c with
    | true =>
      rw [hG] at HG
      have CD := Lib.hid HG
      have hx : oneL (c :: r) = .tok 4 ((c :: r).take (runL pNum (c :: r))) (runL pNum (c :: r)) := by rw [oneL, if_neg e1, if_pos hG]
      have hn := runL_le pNum (c :: r)
      have CR := fun w => row_num w s a (by omega) hs
      rw [hD] at CR
      have hT : s.extract a (a + runL pNum (c :: r)) = mk ((c :: r).take (runL pNum (c :: r))) := hex _
      rw [hx]
      simp only [r1K, r1T, r1A, r1N, r1E]
      rw [← hT]
      obtain ⟨m, hm⟩ : ∃ m, m = a + runL pNum (c :: r) := ⟨_, rfl⟩
      rw [← hm] at CR ⊢
      have hm1 : (a : Int) ≤ m := by omega
      have hm2 : (m : Int) ≤ s.size := by omega
      have CR' := Lib.hid CR
      clear hx hT hn hL hG e1 HG CR hlen hex h hm hD hr
      go_enter Try.func48, Try.ntmps48
      go_upto_region 1 with fail
      generalize w.alloc (.cells #[.int .i64 0, .string ⟨#[]⟩, .int .i64 0] 27) = w1 at *
      generalize w.heap.size = o at *
      have d0 : w1.cell? ⟨o, 0, none⟩ = some (.int .i64 0) := h1.cell 0
      have d1 : w1.cell? ⟨o, 1, none⟩ = some (.string ⟨#[]⟩) := h1.cell 1
      have d2 : w1.cell? ⟨o, 2, none⟩ = some (.int .i64 0) := h1.cell 2
      have rf := h1.frozen
      go_wp2_with (first | (go_at_call 62; (with_reducible refine (CL.out _).mono ?_); rintro e w9 ⟨rfl, rfl⟩) | (go_at_call 65; (with_reducible refine (CD.out _).mono ?_); rintro e w9 ⟨rfl, rfl⟩) | (go_at_call 63; (with_reducible refine (CR'.out _).mono ?_); rintro e w9 ⟨rfl, rfl⟩))
      refine bodyPost_ret (v := .tuple #[.agg #[.int .i64 4, .string (s.extract a m), .int .i64 a], .int .i64 m, .int .i64 0]) (by simp [results, Try.results48, go_sem, d0, d1, d2]) rfl ?_
      exact ⟨rfl, (((h1.set 0 _).set 1 _).set 2 _).drop⟩
    | false =>
      rw [hG] at HG
      have CD := Lib.hid HG
      have e2 : ¬ isDig c = true := by rw [hG]; decide
      clear HG
      by_cases h34 : c.toNat = 34
      · have hx0 : oneL (c :: r) = ofQ 2 (quotL c r [] 1) := by rw [oneL, if_neg e1, if_neg e2, if_pos h34]
        have CQ0 := fun w => rquoted_any w s a ha hs
        rw [hc, hr] at CQ0
        have hb : ((c.toNat : Int) == 34) = true := by simp [h34]
        cases hq : quotL c r [] 1 with
        | none =>
          rw [hq] at CQ0 hx0
          rw [hx0]
          simp only [ofQ, r1K, r1T, r1A, r1N, r1E]
          simp only [qT, qA] at CQ0
          have CQ := Lib.hid CQ0
          clear hx0 CQ0 hL hG e1 e2 hlen hex h hD hr hq h34
          go_enter Try.func48, Try.ntmps48
          go_upto_region 1 with fail
          generalize w.alloc (.cells #[.int .i64 0, .string ⟨#[]⟩, .int .i64 0] 27) = w1 at *
          generalize w.heap.size = o at *
          have d0 : w1.cell? ⟨o, 0, none⟩ = some (.int .i64 0) := h1.cell 0
          have d1 : w1.cell? ⟨o, 1, none⟩ = some (.string ⟨#[]⟩) := h1.cell 1
          have d2 : w1.cell? ⟨o, 2, none⟩ = some (.int .i64 0) := h1.cell 2
          have rf := h1.frozen
          go_wp2_with (first | (go_at_call 62; (with_reducible refine (CL.out _).mono ?_); rintro e w9 ⟨rfl, rfl⟩) | (go_at_call 65; (with_reducible refine (CD.out _).mono ?_); rintro e w9 ⟨rfl, rfl⟩) | (go_at_call 66; (with_reducible refine (CQ.out _).mono ?_); rintro e w9 ⟨rfl, rfl⟩))
          refine bodyPost_ret (v := .tuple #[.agg #[.int .i64 0, .string ⟨#[]⟩, .int .i64 0], .int .i64 0, .int .i64 6]) (by simp [results, Try.results48, go_sem, d0, d1, d2]) rfl ?_
          exact ⟨rfl, (((h1.set 0 _).set 1 _).set 2 _).drop⟩
        | some x =>
          rw [hq] at CQ0 hx0
          rw [hx0]
          simp only [ofQ, r1K, r1T, r1A, r1N, r1E]
          simp only [qT, qA] at CQ0
          obtain ⟨xt, xn⟩ := x
          simp only at CQ0 ⊢
          have hrg := quotL_range _ _ _ _ _ hq
          simp only at hrg
          obtain ⟨m, hm⟩ : ∃ m, m = a + xn := ⟨_, rfl⟩
          rw [← hm] at CQ0 ⊢
          have hm0 : ¬ (m : Int) < 0 := by omega
          have CQ := Lib.hid CQ0
          clear hx0 CQ0 hL hG e1 e2 hlen hex h hD hr hq hrg hm h34
          go_enter Try.func48, Try.ntmps48
          go_upto_region 1 with fail
          generalize w.alloc (.cells #[.int .i64 0, .string ⟨#[]⟩, .int .i64 0] 27) = w1 at *
          generalize w.heap.size = o at *
          have d0 : w1.cell? ⟨o, 0, none⟩ = some (.int .i64 0) := h1.cell 0
          have d1 : w1.cell? ⟨o, 1, none⟩ = some (.string ⟨#[]⟩) := h1.cell 1
          have d2 : w1.cell? ⟨o, 2, none⟩ = some (.int .i64 0) := h1.cell 2
          have rf := h1.frozen
          go_wp2_with (first | (go_at_call 62; (with_reducible refine (CL.out _).mono ?_); rintro e w9 ⟨rfl, rfl⟩) | (go_at_call 65; (with_reducible refine (CD.out _).mono ?_); rintro e w9 ⟨rfl, rfl⟩) | (go_at_call 66; (with_reducible refine (CQ.out _).mono ?_); rintro e w9 ⟨rfl, rfl⟩))
          refine bodyPost_ret (v := .tuple #[.agg #[.int .i64 2, .string (mk xt), .int .i64 a], .int .i64 m, .int .i64 0]) (by simp [results, Try.results48, go_sem, d0, d1, d2]) rfl ?_
          exact ⟨rfl, (((h1.set 0 _).set 1 _).set 2 _).drop⟩
      have hb34 : ((c.toNat : Int) == 34) = false := by simp; omega
      by_cases h39 : c.toNat = 39
      · have hx0 : oneL (c :: r) = ofQ 3 (quotL c r [] 1) := by rw [oneL, if_neg e1, if_neg e2, if_neg h34, if_pos h39]
        have CQ0 := fun w => rquoted_any w s a ha hs
        rw [hc, hr] at CQ0
        have hb : ((c.toNat : Int) == 39) = true := by simp [h39]
        cases hq : quotL c r [] 1 with
        | none =>
          rw [hq] at CQ0 hx0
          rw [hx0]
          simp only [ofQ, r1K, r1T, r1A, r1N, r1E]
          simp only [qT, qA] at CQ0
          have CQ := Lib.hid CQ0
          clear hx0 CQ0 hL hG e1 e2 hlen hex h hD hr hq h34 h39
          go_enter Try.func48, Try.ntmps48
          go_upto_region 1 with fail
          generalize w.alloc (.cells #[.int .i64 0, .string ⟨#[]⟩, .int .i64 0] 27) = w1 at *
          generalize w.heap.size = o at *
          have d0 : w1.cell? ⟨o, 0, none⟩ = some (.int .i64 0) := h1.cell 0
          have d1 : w1.cell? ⟨o, 1, none⟩ = some (.string ⟨#[]⟩) := h1.cell 1
          have d2 : w1.cell? ⟨o, 2, none⟩ = some (.int .i64 0) := h1.cell 2
          have rf := h1.frozen
          go_wp2_with (first | (go_at_call 62; (with_reducible refine (CL.out _).mono ?_); rintro e w9 ⟨rfl, rfl⟩) | (go_at_call 65; (with_reducible refine (CD.out _).mono ?_); rintro e w9 ⟨rfl, rfl⟩) | (go_at_call 66; (with_reducible refine (CQ.out _).mono ?_); rintro e w9 ⟨rfl, rfl⟩))
          refine bodyPost_ret (v := .tuple #[.agg #[.int .i64 0, .string ⟨#[]⟩, .int .i64 0], .int .i64 0, .int .i64 6]) (by simp [results, Try.results48, go_sem, d0, d1, d2]) rfl ?_
          exact ⟨rfl, (((h1.set 0 _).set 1 _).set 2 _).drop⟩
        | some x =>
          rw [hq] at CQ0 hx0
          rw [hx0]
          simp only [ofQ, r1K, r1T, r1A, r1N, r1E]
          simp only [qT, qA] at CQ0
          obtain ⟨xt, xn⟩ := x
          simp only at CQ0 ⊢
          have hrg := quotL_range _ _ _ _ _ hq
          simp only at hrg
          obtain ⟨m, hm⟩ : ∃ m, m = a + xn := ⟨_, rfl⟩
          rw [← hm] at CQ0 ⊢
          have hm0 : ¬ (m : Int) < 0 := by omega
          have CQ := Lib.hid CQ0
          clear hx0 CQ0 hL hG e1 e2 hlen hex h hD hr hq hrg hm h34 h39
          go_enter Try.func48, Try.ntmps48
          go_upto_region 1 with fail
          generalize w.alloc (.cells #[.int .i64 0, .string ⟨#[]⟩, .int .i64 0] 27) = w1 at *
          generalize w.heap.size = o at *
          have d0 : w1.cell? ⟨o, 0, none⟩ = some (.int .i64 0) := h1.cell 0
          have d1 : w1.cell? ⟨o, 1, none⟩ = some (.string ⟨#[]⟩) := h1.cell 1
          have d2 : w1.cell? ⟨o, 2, none⟩ = some (.int .i64 0) := h1.cell 2
          have rf := h1.frozen
          go_wp2_with (first | (go_at_call 62; (with_reducible refine (CL.out _).mono ?_); rintro e w9 ⟨rfl, rfl⟩) | (go_at_call 65; (with_reducible refine (CD.out _).mono ?_); rintro e w9 ⟨rfl, rfl⟩) | (go_at_call 66; (with_reducible refine (CQ.out _).mono ?_); rintro e w9 ⟨rfl, rfl⟩))
          refine bodyPost_ret (v := .tuple #[.agg #[.int .i64 3, .string (mk xt), .int .i64 a], .int .i64 m, .int .i64 0]) (by simp [results, Try.results48, go_sem, d0, d1, d2]) rfl ?_
          exact ⟨rfl, (((h1.set 0 _).set 1 _).set 2 _).drop⟩
      have hb39 : ((c.toNat : Int) == 39) = false := by simp; omega
      by_cases h36 : c.toNat = 36
      · have hb36 : ((c.toNat : Int) == 36) = true := by simp [h36]
        have hx0 := (show oneL (c :: r) = _ from by rw [oneL, if_neg e1, if_neg e2, if_neg h34, if_neg h39, if_pos h36])
        have CT0 := fun w => rtag_any w s a ha hs
        rw [hr] at CT0
        cases hm : tagL r with
        | some m =>
          rw [hm] at hx0 CT0
          simp only at hx0
          simp only [optA] at CT0
          have ht := tagL_range hm
          have CO0 := fun w (b : Int) hb => rdollar_any w s a m (by omega) (by simp at hlen; omega) hs b hb
          rw [hD] at CO0
          have hm0 : (0 : Int) < (a + m : Nat) := by omega
          cases hi : dolF ((c :: r).take m) ((c :: r).drop m) m with
          | none =>
            rw [hi] at CO0 hx0
            simp only at hx0
            rw [hx0]
            simp only [r1K, r1T, r1A, r1N, r1E]
            simp only [dT, dA] at CO0
            have CO1 := fun w => CO0 w (a + m : Nat) rfl
            generalize a + m = o2 at *
            have CT := Lib.hid CT0
            have CO := Lib.hid CO1
            clear hx0 CT0 CO0 CO1 hL hG e1 e2 hlen hex h hD hr hi hm h34 h39 ht h36
            go_enter Try.func48, Try.ntmps48
            go_upto_region 1 with fail
            generalize w.alloc (.cells #[.int .i64 0, .string ⟨#[]⟩, .int .i64 0] 27) = w1 at *
            generalize w.heap.size = o at *
            have d0 : w1.cell? ⟨o, 0, none⟩ = some (.int .i64 0) := h1.cell 0
            have d1 : w1.cell? ⟨o, 1, none⟩ = some (.string ⟨#[]⟩) := h1.cell 1
            have d2 : w1.cell? ⟨o, 2, none⟩ = some (.int .i64 0) := h1.cell 2
            have rf := h1.frozen
            go_wp2_with (first | (go_at_call 62; (with_reducible refine (CL.out _).mono ?_); rintro e w9 ⟨rfl, rfl⟩) | (go_at_call 65; (with_reducible refine (CD.out _).mono ?_); rintro e w9 ⟨rfl, rfl⟩) | (go_at_call 67; (with_reducible refine (CT.out _).mono ?_); rintro e w9 ⟨rfl, rfl⟩) | (go_at_call 68; (with_reducible refine (CO.out _).mono ?_); rintro e w9 ⟨rfl, rfl⟩))
            refine bodyPost_ret (v := .tuple #[.agg #[.int .i64 0, .string ⟨#[]⟩, .int .i64 0], .int .i64 0, .int .i64 6]) (by simp [results, Try.results48, go_sem, d0, d1, d2]) rfl ?_
            exact ⟨rfl, (((h1.set 0 _).set 1 _).set 2 _).drop⟩
          | some i =>
            rw [hi] at CO0 hx0
            simp only at hx0
            rw [hx0]
            simp only [r1K, r1T, r1A, r1N, r1E]
            simp only [dT, dA] at CO0
            have CO1 := fun w => CO0 w (a + m : Nat) rfl
            rw [show a + (i + m) = a + i + m by omega]
            generalize a + i + m = z at *
            generalize a + m = o2 at *
            generalize mk (((c :: r).take i).drop m) = xt at *
            have hz0 : ¬ (z : Int) < 0 := by omega
            have CT := Lib.hid CT0
            have CO := Lib.hid CO1
            clear hx0 CT0 CO0 CO1 hL hG e1 e2 hlen hex h hD hr hi hm h34 h39 ht h36
            go_enter Try.func48, Try.ntmps48
            go_upto_region 1 with fail
            generalize w.alloc (.cells #[.int .i64 0, .string ⟨#[]⟩, .int .i64 0] 27) = w1 at *
            generalize w.heap.size = o at *
            have d0 : w1.cell? ⟨o, 0, none⟩ = some (.int .i64 0) := h1.cell 0
            have d1 : w1.cell? ⟨o, 1, none⟩ = some (.string ⟨#[]⟩) := h1.cell 1
            have d2 : w1.cell? ⟨o, 2, none⟩ = some (.int .i64 0) := h1.cell 2
            have rf := h1.frozen
            go_wp2_with (first | (go_at_call 62; (with_reducible refine (CL.out _).mono ?_); rintro e w9 ⟨rfl, rfl⟩) | (go_at_call 65; (with_reducible refine (CD.out _).mono ?_); rintro e w9 ⟨rfl, rfl⟩) | (go_at_call 67; (with_reducible refine (CT.out _).mono ?_); rintro e w9 ⟨rfl, rfl⟩) | (go_at_call 68; (with_reducible refine (CO.out _).mono ?_); rintro e w9 ⟨rfl, rfl⟩))
            refine bodyPost_ret (v := .tuple #[.agg #[.int .i64 3, .string xt, .int .i64 a], .int .i64 z, .int .i64 0]) (by simp [results, Try.results48, go_sem, d0, d1, d2]) rfl ?_
            exact ⟨rfl, (((h1.set 0 _).set 1 _).set 2 _).drop⟩
        | none =>
          rw [hm] at hx0 CT0
          simp only at hx0
          simp only [optA] at CT0
          have CT := Lib.hid CT0
          have CR0 := fun w => row_dig w s (a + 1) (by omega) hs
          rw [hr] at CR0
          have hle := runL_le isDig r
          have haw : IntKind.i64.wrap ((a : Int) + 1) = (a + 1 : Nat) := by rw [IntWalk.i64_in _ (by omega)]; omega
          by_cases hp : 0 < runL isDig r
          · rw [if_pos hp] at hx0
            rw [hx0]
            simp only [r1K, r1T, r1A, r1N, r1E]
            rw [← hex]
            rw [show a + (runL isDig r + 1) = a + 1 + runL isDig r by omega]
            obtain ⟨m, hm2⟩ : ∃ m, m = a + 1 + runL isDig r := ⟨_, rfl⟩
            rw [← hm2] at CR0 ⊢
            obtain ⟨a1, ha1⟩ : ∃ a1, a1 = a + 1 := ⟨_, rfl⟩
            rw [← ha1] at CR0 haw
            have hg : (a1 : Int) < m := by omega
            have hm3 : (a : Int) ≤ m := by omega
            have hm4 : (m : Int) ≤ s.size := by simp at hlen; omega
            have CR := Lib.hid CR0
            clear hx0 CT0 CR0 hL hG e1 e2 hlen hex h hD hr hm h34 h39 h36 hle hp hm2 ha1
            go_enter Try.func48, Try.ntmps48
            go_upto_region 1 with fail
            generalize w.alloc (.cells #[.int .i64 0, .string ⟨#[]⟩, .int .i64 0] 27) = w1 at *
            generalize w.heap.size = o at *
            have d0 : w1.cell? ⟨o, 0, none⟩ = some (.int .i64 0) := h1.cell 0
            have d1 : w1.cell? ⟨o, 1, none⟩ = some (.string ⟨#[]⟩) := h1.cell 1
            have d2 : w1.cell? ⟨o, 2, none⟩ = some (.int .i64 0) := h1.cell 2
            have rf := h1.frozen
            go_wp2_with (first | (go_at_call 62; (with_reducible refine (CL.out _).mono ?_); rintro e w9 ⟨rfl, rfl⟩) | (go_at_call 65; (with_reducible refine (CD.out _).mono ?_); rintro e w9 ⟨rfl, rfl⟩) | (go_at_call 67; (with_reducible refine (CT.out _).mono ?_); rintro e w9 ⟨rfl, rfl⟩) | (go_at_call 63; (with_reducible refine (CR.out _).mono ?_); rintro e w9 ⟨rfl, rfl⟩))
            refine bodyPost_ret (v := .tuple #[.agg #[.int .i64 5, .string (s.extract a m), .int .i64 a], .int .i64 m, .int .i64 0]) (by simp [results, Try.results48, go_sem, d0, d1, d2]) rfl ?_
            exact ⟨rfl, (((h1.set 0 _).set 1 _).set 2 _).drop⟩
          · rw [if_neg hp] at hx0
            rw [hx0]
            simp only [r1K, r1T, r1A, r1N, r1E]
            rw [show a + 1 + runL isDig r = a + 1 by omega] at CR0
            obtain ⟨a1, ha1⟩ : ∃ a1, a1 = a + 1 := ⟨_, rfl⟩
            rw [← ha1] at CR0 haw
            have hg : ¬ (a1 : Int) < a1 := by omega
            have CR := Lib.hid CR0
            have hns : decide (c ∈ signSet) = false := by
              have : c = 36 := UInt8.toNat_inj.1 (by rw [h36]; rfl)
              subst this; decide
            have CN0 := fun w => rsign_any w c
            rw [hns] at CN0
            have CN := Lib.hid CN0
            clear hx0 CT0 CR0 CN0 hL hG e1 e2 hlen hex h hD hr hm h34 h39 h36 hle hp ha1 hns
            go_enter Try.func48, Try.ntmps48
            go_upto_region 1 with fail
            generalize w.alloc (.cells #[.int .i64 0, .string ⟨#[]⟩, .int .i64 0] 27) = w1 at *
            generalize w.heap.size = o at *
            have d0 : w1.cell? ⟨o, 0, none⟩ = some (.int .i64 0) := h1.cell 0
            have d1 : w1.cell? ⟨o, 1, none⟩ = some (.string ⟨#[]⟩) := h1.cell 1
            have d2 : w1.cell? ⟨o, 2, none⟩ = some (.int .i64 0) := h1.cell 2
            have rf := h1.frozen
            go_wp2_with (first | (go_at_call 62; (with_reducible refine (CL.out _).mono ?_); rintro e w9 ⟨rfl, rfl⟩) | (go_at_call 65; (with_reducible refine (CD.out _).mono ?_); rintro e w9 ⟨rfl, rfl⟩) | (go_at_call 67; (with_reducible refine (CT.out _).mono ?_); rintro e w9 ⟨rfl, rfl⟩) | (go_at_call 63; (with_reducible refine (CR.out _).mono ?_); rintro e w9 ⟨rfl, rfl⟩) | (go_at_call 69; (with_reducible refine (CN.out _).mono ?_); rintro e w9 ⟨rfl, rfl⟩))
            refine bodyPost_ret (v := .tuple #[.agg #[.int .i64 0, .string ⟨#[]⟩, .int .i64 0], .int .i64 0, .int .i64 7]) (by simp [results, Try.results48, go_sem, d0, d1, d2]) rfl ?_
            exact ⟨rfl, (((h1.set 0 _).set 1 _).set 2 _).drop⟩
      · have hb36 : ((c.toNat : Int) == 36) = false := by simp; omega
        have hx0 := (show oneL (c :: r) = _ from by rw [oneL, if_neg e1, if_neg e2, if_neg h34, if_neg h39, if_neg h36])
        have CN0 := fun w => rsign_any w c
        by_cases hp : c ∈ signSet
        · rw [if_pos hp] at hx0
          rw [decide_eq_true hp] at CN0
          rw [hx0]
          simp only [r1K, r1T, r1A, r1N, r1E]
          have hT : s.extract a (a + 1) = mk [c] := by rw [hex]; rfl
          rw [← hT]
          have haw : IntKind.i64.wrap ((a : Int) + 1) = (a + 1 : Nat) := by rw [IntWalk.i64_in _ (by omega)]; omega
          obtain ⟨m, hm⟩ : ∃ m, m = a + 1 := ⟨_, rfl⟩
          rw [← hm] at haw ⊢
          have hm3 : (a : Int) ≤ m := by omega
          have hm4 : (m : Int) ≤ s.size := by omega
          have CN := Lib.hid CN0
          clear hx0 CN0 hL hG e1 e2 hlen hex h hD hr h34 h39 h36 hp hT hm
          go_enter Try.func48, Try.ntmps48
          go_upto_region 1 with fail
          generalize w.alloc (.cells #[.int .i64 0, .string ⟨#[]⟩, .int .i64 0] 27) = w1 at *
          generalize w.heap.size = o at *
          have d0 : w1.cell? ⟨o, 0, none⟩ = some (.int .i64 0) := h1.cell 0
          have d1 : w1.cell? ⟨o, 1, none⟩ = some (.string ⟨#[]⟩) := h1.cell 1
          have d2 : w1.cell? ⟨o, 2, none⟩ = some (.int .i64 0) := h1.cell 2
          have rf := h1.frozen
          go_wp2_with (first | (go_at_call 62; (with_reducible refine (CL.out _).mono ?_); rintro e w9 ⟨rfl, rfl⟩) | (go_at_call 65; (with_reducible refine (CD.out _).mono ?_); rintro e w9 ⟨rfl, rfl⟩) | (go_at_call 69; (with_reducible refine (CN.out _).mono ?_); rintro e w9 ⟨rfl, rfl⟩))
          refine bodyPost_ret (v := .tuple #[.agg #[.int .i64 5, .string (s.extract a m), .int .i64 a], .int .i64 m, .int .i64 0]) (by simp [results, Try.results48, go_sem, d0, d1, d2]) rfl ?_
          exact ⟨rfl, (((h1.set 0 _).set 1 _).set 2 _).drop⟩
        · rw [if_neg hp] at hx0
          rw [decide_eq_false hp] at CN0
          rw [hx0]
          simp only [r1K, r1T, r1A, r1N, r1E]
          have CN := Lib.hid CN0
          clear hx0 CN0 hL hG e1 e2 hlen hex h hD hr h34 h39 h36 hp
          go_enter Try.func48, Try.ntmps48
          go_upto_region 1 with fail
          generalize w.alloc (.cells #[.int .i64 0, .string ⟨#[]⟩, .int .i64 0] 27) = w1 at *
          generalize w.heap.size = o at *
          have d0 : w1.cell? ⟨o, 0, none⟩ = some (.int .i64 0) := h1.cell 0
          have d1 : w1.cell? ⟨o, 1, none⟩ = some (.string ⟨#[]⟩) := h1.cell 1
          have d2 : w1.cell? ⟨o, 2, none⟩ = some (.int .i64 0) := h1.cell 2
          have rf := h1.frozen
          go_wp2_with (first | (go_at_call 62; (with_reducible refine (CL.out _).mono ?_); rintro e w9 ⟨rfl, rfl⟩) | (go_at_call 65; (with_reducible refine (CD.out _).mono ?_); rintro e w9 ⟨rfl, rfl⟩) | (go_at_call 69; (with_reducible refine (CN.out _).mono ?_); rintro e w9 ⟨rfl, rfl⟩))
          refine bodyPost_ret (v := .tuple #[.agg #[.int .i64 0, .string ⟨#[]⟩, .int .i64 0], .int .i64 0, .int .i64 7]) (by simp [results, Try.results48, go_sem, d0, d1, d2]) rfl ?_
          exact ⟨rfl, (((h1.set 0 _).set 1 _).set 2 _).drop⟩

end Go.Proofs.Ytoeepbjnbgpmpaa
