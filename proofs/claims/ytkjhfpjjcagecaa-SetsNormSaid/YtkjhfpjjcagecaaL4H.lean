/- Contracts of the document's lexer (pontoonref04): double, Show, Same. -/
import Derived.Test.YtkjhfpjjcagecaaLexG
namespace Go.Proofs.Ytkjhfpjjcagecaa
set_option linter.all false
open Go Go.RowKit

set_option maxRecDepth 100000 in
set_option maxHeartbeats 4000000 in
theorem rdouble_any (w : World) (s q : ByteArray) (c : UInt8) (hq : q = mk [c]) (hs : s.size ≤ 1000000) :
    Calls Try.prog 84 #[.string s, .string q] w fun e w' => e = .returned (.string (mk (dbl c (bl s)))) ∧ w = w' := by
  have hqs : q.size = 1 := by rw [hq]; rfl
  have hqb : bl q = [c] := by rw [hq]
  have HQ := Lib.hid hq
  have HQB := Lib.hid hqb
  clear hq hqb
  go_enter Try.func84, Try.ntmps84
  go_wp2_with fail
  go_loopw [5, 6] (fun s5 s6 wr => ∃ (j : Nat) (l : List UInt8), j ≤ s.size ∧ s6 = .int .i64 j ∧ s5 = .string (mk l) ∧ Hid (l = c :: ((bl s).take j).flatMap (fq c)) ∧ l.length ≤ 2 * j + 1 ∧ w = wr) (fun _ s6 _ => s.size - (intOf s6).toNat)
  case atStart => exact ⟨0, [c], Nat.zero_le _, rfl, by rw [← HQB.out, mk_bl], by unfold Hid; simp, by simp, rfl⟩
  case round =>
    obtain ⟨j, l, hj, rfl, rfl, HL, hll, rfl⟩ := hrel
    by_cases hlt : j < s.size
    · have hlt' : (j : Int) < s.size := by omega
      have hjI : (j : Int) ≤ s.size := by omega
      have hj1 : (j : Int) + 1 ≤ s.size := by omega
      have htk : (bl s).take (j + 1) = (bl s).take j ++ [s[j]] := by
        rw [List.take_succ, List.getElem?_eq_getElem (by rw [bl_len]; exact hlt)]; rfl
      have hex : s.extract j (j + 1) = mk [s[j]] := by
        rw [ex_eq, bl_drop s j hlt, Nat.add_sub_cancel_left]; rfl
      have hcmp : ((s.extract j (j + 1)).toList == q.toList) = decide (s[j] = c) := by
        rw [tl_beq, hex, HQ.out]
        by_cases h : s[j] = c
        · rw [h]; simp
        · rw [decide_eq_false h, decide_eq_false]
          intro e
          have := congrArg bl e
          simp at this
          exact h this
      have hsz1 : (mk l).size ≤ 2000002 := by rw [mk_size]; omega
      have hsz2 : (mk l ++ q).size ≤ 2000003 := by rw [ByteArray.size_append]; omega
      have hsz3 : (s.extract j (j + 1)).size = 1 := by rw [hex]; rfl
      by_cases hc : s[j] = c
      · rw [decide_eq_true hc] at hcmp
        have HN : Hid (l ++ [c] ++ [s[j]] = c :: ((bl s).take (j + 1)).flatMap (fq c)) := by
          unfold Hid
          rw [htk, HL.out]
          simp [fq, hc]
        have HS : Hid (mk l ++ q ++ s.extract j (j + 1) = mk (l ++ [c] ++ [s[j]])) := by
          unfold Hid
          rw [hex, cat_mk, cat_mk, HQB.out]
        clear hc HL htk hex
        go_wp2_with fail
        go_roundw
        case rel => exact ⟨j + 1, l ++ [c] ++ [s[j]], by omega, by go_num, by rw [HS.out], HN, by simp; omega, trivial⟩
        case measure => simp [intOf]; omega
      · rw [decide_eq_false hc] at hcmp
        have HN : Hid (l ++ [s[j]] = c :: ((bl s).take (j + 1)).flatMap (fq c)) := by
          unfold Hid
          rw [htk, HL.out]
          simp [fq, hc]
        have HS : Hid (mk l ++ s.extract j (j + 1) = mk (l ++ [s[j]])) := by
          unfold Hid
          rw [hex, cat_mk]
        clear hc HL htk hex
        go_wp2_with fail
        go_roundw
        case rel => exact ⟨j + 1, l ++ [s[j]], by omega, by go_num, by rw [HS.out], HN, by simp; omega, trivial⟩
        case measure => simp [intOf]; omega
    · have HE : Hid (mk l ++ q = mk (dbl c (bl s))) := by
        unfold Hid
        rw [cat_mk, HQB.out, HL.out, List.take_of_length_le (by rw [bl_len]; omega), dbl_eq]
      have hlt' : ¬ (j : Int) < s.size := by omega
      have hsz1 : (mk l).size ≤ 2000002 := by rw [mk_size]; omega
      clear HL hlt
      go_wp2_with fail
      go_ret
      exact ⟨by rw [HE.out]; rfl, rfl⟩

set_option maxRecDepth 100000 in
set_option maxHeartbeats 8000000 in
theorem rshow_any (k : Env) (w : World) (R : Assn) (a : Option Addr) (cap : Nat) (l : List Tok) (hr : RdT k R a l) (hl : l.length ≤ 1000000) (hB : (showL l).length ≤ 1000000) (hT : ∀ x ∈ l, x.t.size ≤ 1000000) (h : Sat k w R) :
    Calls Try.prog 60 #[.slice a l.length cap] w fun e w' => e = .returned (.string (mk (showL l))) ∧ Sat k w' R := by
  have HR := Lib.hid hr
  have HT := Lib.hid hT
  have HBB := Lib.hid hB
  clear hr hT hB
  go_enter Try.func60, Try.ntmps60
  go_wp2_with fail
  go_loopw [3, 4] (fun s3 s4 wr => ∃ j : Nat, j ≤ l.length ∧ s4 = .int .i64 j ∧ s3 = .string (mk (showL (l.take j))) ∧ Sat k wr R) (fun _ s4 _ => l.length - (intOf s4).toNat)
  case atStart => exact ⟨0, Nat.zero_le _, rfl, rfl, h⟩
  case round =>
    clear h
    obtain ⟨j, hj, rfl, rfl, hs⟩ := hrel
    by_cases hlt : j < l.length
    · have hlt' : (j : Int) < l.length := by omega
      obtain ⟨g, o, rfl, c0, c1, c2⟩ := rdt_get HR.out hs j hlt
      have htk : l.take (j + 1) = l.take j ++ [l[j]] := by rw [List.take_succ]; simp [hlt]
      have HS : Hid (showL (l.take (j + 1)) = if j = 0 then showT l[j] else showL (l.take j) ++ 32 :: showT l[j]) := by
        unfold Hid
        rw [htk, showL_snoc]
        congr 1
        apply propext
        rw [← List.length_eq_zero_iff, List.length_take]
        omega
      have hle1 := showL_le l (j + 1)
      have hle := showL_le l j
      have hts := HT.out l[j] (List.getElem_mem hlt)
      have hbb := HBB.out
      generalize l[j] = x at *
      obtain ⟨xk, xt, xa⟩ := x
      simp only at hts c0 c1 c2
      generalize hY : showL (l.take j) = Y at *
      generalize hZ : showL (l.take (j + 1)) = Z at *
      clear htk
      have hYs : (mk Y).size ≤ 1000000 := by rw [mk_size]; omega
      have hshow : showT ⟨xk, xt, xa⟩ = if xk = 2 then dbl 34 (bl xt) else if xk = 3 then dbl 39 (bl xt) else bl xt := rfl
      have hd2 : (mk (dbl 34 (bl xt))).size ≤ 3000000 := by rw [mk_size]; have := dbl_len 34 (bl xt); rw [bl_len] at this; omega
      have hd3 : (mk (dbl 39 (bl xt))).size ≤ 3000000 := by rw [mk_size]; have := dbl_len 39 (bl xt); rw [bl_len] at this; omega
      have hlit : (⟨#[32]⟩ : ByteArray).size = 1 := rfl
      have HC : Hid (∀ v : List UInt8, showT ⟨xk, xt, xa⟩ = v → (if j = 0 then mk Y ++ mk v else mk Y ++ ⟨#[32]⟩ ++ mk v) = mk Z) := by
        intro v hv
        rw [HS.out, hv]
        by_cases h0 : j = 0
        · rw [if_pos h0, if_pos h0]
          have : Y = [] := by rw [← hY, h0]; rfl
          rw [this, cat_mk]; rfl
        · rw [if_neg h0, if_neg h0, cat_mk, cat_mk]
          simp [bl, mk]
      have HZ := Lib.hid hZ
      have hY32 : (mk Y ++ (⟨#[32]⟩ : ByteArray)).size ≤ 1000001 := by rw [ByteArray.size_append]; omega
      clear c2 hle hle1 hbb HS hY hZ
      have hx1 : xt.size ≤ 1000000 := hts
      have C34 : Hid (∀ w, Calls Try.prog 84 #[.string xt, .string ⟨#[34]⟩] w fun e w' => e = .returned (.string (mk (dbl 34 (bl xt)))) ∧ w = w') := fun w => rdouble_any w xt ⟨#[34]⟩ 34 rfl hts
      have C39 : Hid (∀ w, Calls Try.prog 84 #[.string xt, .string ⟨#[39]⟩] w fun e w' => e = .returned (.string (mk (dbl 39 (bl xt)))) ∧ w = w') := fun w => rdouble_any w xt ⟨#[39]⟩ 39 rfl hts
      have hj0 : (j = 0 ∧ ¬ (0 : Int) < j) ∨ (j ≠ 0 ∧ (0 : Int) < j) := by omega
      rcases hj0 with ⟨h0, hj0⟩ | ⟨h0, hj0⟩
      · simp only [if_pos h0] at HC
        by_cases k2 : xk = 2
        · have hv := HC.out _ (hshow.trans (if_pos k2))
          have HV := Lib.hid hv
          subst k2
          clear hshow HC hv h0
          go_wp2_with (go_at_call 84; (with_reducible refine (C34.out _).mono ?_); rintro e w5 ⟨rfl, rfl⟩)
          go_roundw
          case rel => exact ⟨j + 1, by omega, by go_num, by rw [HV.out, HZ.out], hs⟩
          case measure => simp [intOf]; omega
        · have b2 : (xk == 2) = false := by simpa using k2
          by_cases k3 : xk = 3
          · have hv := HC.out _ (hshow.trans ((if_neg k2).trans (if_pos k3)))
            have HV := Lib.hid hv
            subst k3
            clear hshow HC hv h0 k2
            go_wp2_with (go_at_call 84; (with_reducible refine (C39.out _).mono ?_); rintro e w5 ⟨rfl, rfl⟩)
            go_roundw
            case rel => exact ⟨j + 1, by omega, by go_num, by rw [HV.out, HZ.out], hs⟩
            case measure => simp [intOf]; omega
          · have b3 : (xk == 3) = false := by simpa using k3
            have hv := HC.out _ (hshow.trans ((if_neg k2).trans (if_neg k3)))
            rw [mk_bl] at hv
            have HV := Lib.hid hv
            clear hshow HC hv h0 k2 k3
            go_wp2_with fail
            go_roundw
            case rel => exact ⟨j + 1, by omega, by go_num, by rw [HV.out, HZ.out], hs⟩
            case measure => simp [intOf]; omega
      · simp only [if_neg h0] at HC
        by_cases k2 : xk = 2
        · have hv := HC.out _ (hshow.trans (if_pos k2))
          have HV := Lib.hid hv
          subst k2
          clear hshow HC hv h0
          go_wp2_with (go_at_call 84; (with_reducible refine (C34.out _).mono ?_); rintro e w5 ⟨rfl, rfl⟩)
          go_roundw
          case rel => exact ⟨j + 1, by omega, by go_num, by rw [HV.out, HZ.out], hs⟩
          case measure => simp [intOf]; omega
        · have b2 : (xk == 2) = false := by simpa using k2
          by_cases k3 : xk = 3
          · have hv := HC.out _ (hshow.trans ((if_neg k2).trans (if_pos k3)))
            have HV := Lib.hid hv
            subst k3
            clear hshow HC hv h0 k2
            go_wp2_with (go_at_call 84; (with_reducible refine (C39.out _).mono ?_); rintro e w5 ⟨rfl, rfl⟩)
            go_roundw
            case rel => exact ⟨j + 1, by omega, by go_num, by rw [HV.out, HZ.out], hs⟩
            case measure => simp [intOf]; omega
          · have b3 : (xk == 3) = false := by simpa using k3
            have hv := HC.out _ (hshow.trans ((if_neg k2).trans (if_neg k3)))
            rw [mk_bl] at hv
            have HV := Lib.hid hv
            clear hshow HC hv h0 k2 k3
            go_wp2_with fail
            go_roundw
            case rel => exact ⟨j + 1, by omega, by go_num, by rw [HV.out, HZ.out], hs⟩
            case measure => simp [intOf]; omega
    · have hjl : j = l.length := by omega
      subst hjl
      rw [List.take_length]
      go_wp2_with fail
      go_ret
      exact ⟨rfl, hs⟩

set_option maxRecDepth 100000 in
set_option maxHeartbeats 8000000 in
/-- The same tokens are the same. -/
theorem rsame_any (k : Env) (w : World) (R : Assn) (a b : Option Addr) (ca cb : Nat) (l : List Tok) (ha : RdT k R a l) (hb : RdT k R b l) (hl : l.length ≤ 1000000) (h : Sat k w R) :
    Calls Try.prog 18 #[.slice a l.length ca, .slice b l.length cb, .bool true] w fun e w' => e = .returned (.bool true) ∧ Sat k w' R := by
  have HA := Lib.hid ha
  have HB := Lib.hid hb
  clear ha hb
  go_enter Try.func18, Try.ntmps18
  go_wp2_with fail
  go_loopw [7] (fun s7 wr => ∃ j : Nat, j ≤ l.length ∧ s7 = .int .i64 j ∧ Sat k wr R) (fun s7 _ => l.length - (intOf s7).toNat)
  case atStart => exact ⟨0, Nat.zero_le _, rfl, h⟩
  case round =>
    clear h
    obtain ⟨j, hj, rfl, hs⟩ := hrel
    by_cases hlt : j < l.length
    · have hlt' : (j : Int) < l.length := by omega
      obtain ⟨g, o, rfl, c0, c1, c2⟩ := rdt_get HA.out hs j hlt
      obtain ⟨g', o', rfl, d0, d1, d2⟩ := rdt_get HB.out hs j hlt
      generalize l[j] = x at *
      obtain ⟨xk, xt, xa⟩ := x
      simp only at c0 c1 c2 d0 d1 d2
      have e0 : (xk != xk) = false := by simp
      have e1 : (xt.toList != xt.toList) = false := by simp
      have e2 : (xa != xa) = false := by simp
      go_wp2_with fail
      go_quiet (fail)
      replace hs := hs.drewN nq
      go_wp2_with fail
      go_roundw
      case rel => exact ⟨j + 1, by omega, by go_num, hs⟩
      case measure => simp [intOf]; omega
    · have hjl : j = l.length := by omega
      subst hjl
      go_wp2_with fail
      go_ret
      exact ⟨rfl, hs⟩

end Go.Proofs.Ytkjhfpjjcagecaa
