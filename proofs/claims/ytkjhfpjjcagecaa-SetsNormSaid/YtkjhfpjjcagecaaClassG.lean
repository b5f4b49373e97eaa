/- Contract of the document's class (pontoonref06): Of. -/
import Derived.Test.YtkjhfpjjcagecaaClassF
namespace Go.Proofs.Ytkjhfpjjcagecaa
set_option linter.all false
open Go Go.RowKit

theorem callsL_or (f g : ByteArray → Bool) : ∀ l : List Tok, callsL (fun s => f s || g s) l = (callsL f l || callsL g l)
  | [] => rfl
  | [_] => rfl
  | a :: b :: r => by
    rw [callsL, callsL, callsL, callsL_or f g (b :: r)]
    cases isOpen b <;> cases decide (a.k = 1) <;> cases f a.t <;> cases g a.t <;> cases callsL f (b :: r) <;> cases callsL g (b :: r) <;> rfl
abbrev keyW : List ByteArray := [⟨#[115, 101, 108, 101, 99, 116]⟩, ⟨#[118, 97, 108, 117, 101, 115]⟩, ⟨#[116, 97, 98, 108, 101]⟩, ⟨#[119, 105, 116, 104]⟩, ⟨#[105, 110, 115, 101, 114, 116]⟩, ⟨#[117, 112, 100, 97, 116, 101]⟩, ⟨#[100, 101, 108, 101, 116, 101]⟩, ⟨#[116, 114, 117, 110, 99, 97, 116, 101]⟩, ⟨#[109, 101, 114, 103, 101]⟩, ⟨#[98, 101, 103, 105, 110]⟩, ⟨#[115, 116, 97, 114, 116]⟩, ⟨#[99, 111, 109, 109, 105, 116]⟩, ⟨#[101, 110, 100]⟩, ⟨#[114, 111, 108, 108, 98, 97, 99, 107]⟩, ⟨#[97, 98, 111, 114, 116]⟩, ⟨#[115, 101, 116]⟩, ⟨#[114, 101, 115, 101, 116]⟩, ⟨#[100, 105, 115, 99, 97, 114, 100]⟩, ⟨#[108, 105, 115, 116, 101, 110]⟩, ⟨#[117, 110, 108, 105, 115, 116, 101, 110]⟩, ⟨#[112, 114, 101, 112, 97, 114, 101]⟩, ⟨#[100, 101, 97, 108, 108, 111, 99, 97, 116, 101]⟩, ⟨#[100, 101, 99, 108, 97, 114, 101]⟩, ⟨#[108, 111, 97, 100]⟩]
theorem firstL_keysB : (firstL.all fun q => memB q.1 keyW) = true := by decide +kernel
theorem firstL_keys : ∀ q ∈ firstL, q.1 ∈ keyW := fun q hq => memB_iff.1 (List.all_eq_true.1 firstL_keysB q hq)
theorem firstL_nodup : (firstL.map (·.1)).Nodup := by decide +kernel
theorem firstC_else (s : ByteArray) (h : s ∉ keyW) : firstC s = 8 := by
  unfold firstC
  cases hm : mget s firstL with
  | none => rfl
  | some v => exact absurd (firstL_keys _ ((mget_mem firstL_nodup).1 hm)) h

set_option maxRecDepth 100000 in
set_option maxHeartbeats 16000000 in
theorem rof_any (k : Env) (w : World) (R : Assn) (a : Option Addr) (cap : Nat) (l : List Tok) (hr : RdT k R a l) (hl : l.length ≤ 1000000) (h : Sat k w R) :
    Calls Try.prog 35 #[.slice a l.length cap] w fun e w' => e = .returned (.int .i64 (classL l)) ∧ Sat k w' R := by
  obtain ⟨res, hres⟩ : ∃ res, classL l = res := ⟨_, rfl⟩
  rw [hres]
  cases l with
  | nil =>
    have : res = 0 := hres.symm
    subst this
    go_enter Try.func35, Try.ntmps35
    go_wp2_with fail
    go_ret
    exact ⟨rfl, h⟩
  | cons x r =>
    have hcl : res = if memB (wd x) qW = true then queryC (x :: r) else if wd x = cStart ∧ (r.map wd).head? = some cTrans then 3 else if (wd x = cRoll ∨ wd x = cAbort) ∧ memB cTo ((x :: r).map wd) = false then 5 else firstC (wd x) := hres.symm
    clear hres
    have e0 : wd x = wAt ((x :: r).map wd) 0 := rfl
    have e1 : (r.map wd).head? = some cTrans ↔ wAt ((x :: r).map wd) 1 = cTrans := by
      cases r with
      | nil =>
        have e9 : ¬ (⟨#[]⟩ : ByteArray) = cTrans := by decide +kernel
        exact ⟨fun q => by simp at q, fun q => absurd q e9⟩
      | cons y r => exact ⟨fun q => Option.some.inj q, fun q => congrArg some q⟩
    generalize hL : x :: r = L at *
    have hL0 : 0 < L.length := by rw [← hL]; simp
    have C0 := rword_any k w R a cap L 0 hr hl h
    have C1 := rword_any k w R a cap L 1 hr hl h
    have CW := Lib.hid (fun w h => rwrites_any k w R a cap L hr hl h)
    have CL := Lib.hid (fun w h => rlocks_any k w R a cap L hr hl h)
    have CS := Lib.hid (fun w h => rsystem_any k w R a cap L hr hl h)
    have CC : Hid (∀ w, Sat k w R → Calls Try.prog 57 #[.slice a L.length cap, .slice (some ⟨w.heap.size, 0, none⟩) 8 8] (w.alloc (.cells #[.string ⟨#[110, 111, 119]⟩, .string ⟨#[114, 97, 110, 100, 111, 109]⟩, .string ⟨#[110, 101, 120, 116, 118, 97, 108]⟩, .string ⟨#[99, 117, 114, 114, 118, 97, 108]⟩, .string ⟨#[115, 101, 116, 118, 97, 108]⟩, .string ⟨#[108, 97, 115, 116, 118, 97, 108]⟩, .string ⟨#[99, 108, 111, 99, 107, 95, 116, 105, 109, 101, 115, 116, 97, 109, 112]⟩, .string ⟨#[116, 120, 105, 100, 95, 99, 117, 114, 114, 101, 110, 116]⟩] 9)) fun e w' => e = .returned (.bool (callsL (fun s => memB s nameW) L)) ∧ Sat k w' R) := by
      intro w h
      have h8 : Sat k (w.alloc (.cells #[.string ⟨#[110, 111, 119]⟩, .string ⟨#[114, 97, 110, 100, 111, 109]⟩, .string ⟨#[110, 101, 120, 116, 118, 97, 108]⟩, .string ⟨#[99, 117, 114, 114, 118, 97, 108]⟩, .string ⟨#[115, 101, 116, 118, 97, 108]⟩, .string ⟨#[108, 97, 115, 116, 118, 97, 108]⟩, .string ⟨#[99, 108, 111, 99, 107, 95, 116, 105, 109, 101, 115, 116, 97, 109, 112]⟩, .string ⟨#[116, 120, 105, 100, 95, 99, 117, 114, 114, 101, 110, 116]⟩] 9)) (Strs (.slice (some ⟨w.heap.size, 0, none⟩) 8 8) nameW * R) := strs_lit nameW (by decide) h w.heap.size rfl
      exact (rcalls_any k _ (Strs (.slice (some ⟨w.heap.size, 0, none⟩) 8 8) nameW * R) a (some ⟨w.heap.size, 0, none⟩) cap 8 L nameW (hr.mono fun _ q => q.drop) (rd_own h8) hl (by decide) h8).mono fun _ _ ⟨p, q⟩ => ⟨p, q.drop⟩
    have CH : Hid (∀ w, Sat k w R → Calls Try.prog 58 #[.slice a L.length cap, .slice (some ⟨w.heap.size, 0, none⟩) 1 1] (w.alloc (.cells #[.string ⟨#[116, 111]⟩] 9)) fun e w' => e = .returned (.bool (memB cTo (L.map wd))) ∧ Sat k w' R) := by
      intro w h
      have h8 : Sat k (w.alloc (.cells #[.string ⟨#[116, 111]⟩] 9)) (Strs (.slice (some ⟨w.heap.size, 0, none⟩) 1 1) [cTo] * R) := strs_lit [cTo] (by decide) h w.heap.size rfl
      exact (rhas_to k _ (Strs (.slice (some ⟨w.heap.size, 0, none⟩) 1 1) [cTo] * R) a (some ⟨w.heap.size, 0, none⟩) cap 1 L (hr.mono fun _ q => q.drop) (rd_own h8) hl h8).mono fun _ _ ⟨p, q⟩ => ⟨p, q.drop⟩
    have hQ : queryC L = if writesL ⟨#[]⟩ (L.map wd) = true then 2 else if (locksL (L.map wd) || (callsL pgB L || callsL (fun s => memB s nameW) L)) = true then 7 else 1 := by
      have e : callsL chB L = (callsL pgB L || callsL (fun s => memB s nameW) L) := callsL_or pgB (fun s => memB s nameW) L
      rw [← e]; rfl
    rw [e0] at hcl
    rw [hQ] at hcl
    generalize writesL ⟨#[]⟩ (L.map wd) = b1 at *
    generalize locksL (L.map wd) = b2 at *
    generalize callsL pgB L = b3 at *
    generalize callsL (fun s => memB s nameW) L = b4 at *
    generalize memB cTo (L.map wd) = bt at *
    generalize wAt (L.map wd) 0 = w0 at *
    generalize wAt (L.map wd) 1 = w1 at *
    have HLN : (0 : Int) < L.length := by omega
    have hne : ((L.length : Int) == 0) = false := by rw [beq_eq_false_iff_ne]; omega
    have D0 := Lib.hid C0
    have D1 := Lib.hid C1
    have HCL := Lib.hid hcl
    have HE1 := Lib.hid e1
    clear C0 C1 hcl e0 hQ hL hL0 hr e1
    go_enter Try.func35, Try.ntmps35
    go_upto_region 4 with (go_at_call 53; (refine (D0.out).mono ?_); rintro e w2 ⟨rfl, rfl⟩)
    clear D0
    have f_0 := tl_const w0 ⟨#[115, 101, 108, 101, 99, 116]⟩ [115, 101, 108, 101, 99, 116] (by decide +kernel)
    have f_1 := tl_const w0 ⟨#[118, 97, 108, 117, 101, 115]⟩ [118, 97, 108, 117, 101, 115] (by decide +kernel)
    have f_2 := tl_const w0 ⟨#[116, 97, 98, 108, 101]⟩ [116, 97, 98, 108, 101] (by decide +kernel)
    have f_3 := tl_const w0 ⟨#[119, 105, 116, 104]⟩ [119, 105, 116, 104] (by decide +kernel)
    have f_4 := tl_const w0 ⟨#[105, 110, 115, 101, 114, 116]⟩ [105, 110, 115, 101, 114, 116] (by decide +kernel)
    have f_5 := tl_const w0 ⟨#[117, 112, 100, 97, 116, 101]⟩ [117, 112, 100, 97, 116, 101] (by decide +kernel)
    have f_6 := tl_const w0 ⟨#[100, 101, 108, 101, 116, 101]⟩ [100, 101, 108, 101, 116, 101] (by decide +kernel)
    have f_7 := tl_const w0 ⟨#[116, 114, 117, 110, 99, 97, 116, 101]⟩ [116, 114, 117, 110, 99, 97, 116, 101] (by decide +kernel)
    have f_8 := tl_const w0 ⟨#[109, 101, 114, 103, 101]⟩ [109, 101, 114, 103, 101] (by decide +kernel)
    have f_9 := tl_const w0 ⟨#[98, 101, 103, 105, 110]⟩ [98, 101, 103, 105, 110] (by decide +kernel)
    have f_10 := tl_const w0 ⟨#[115, 116, 97, 114, 116]⟩ [115, 116, 97, 114, 116] (by decide +kernel)
    have f_11 := tl_const w0 ⟨#[99, 111, 109, 109, 105, 116]⟩ [99, 111, 109, 109, 105, 116] (by decide +kernel)
    have f_12 := tl_const w0 ⟨#[101, 110, 100]⟩ [101, 110, 100] (by decide +kernel)
    have f_13 := tl_const w0 ⟨#[114, 111, 108, 108, 98, 97, 99, 107]⟩ [114, 111, 108, 108, 98, 97, 99, 107] (by decide +kernel)
    have f_14 := tl_const w0 ⟨#[97, 98, 111, 114, 116]⟩ [97, 98, 111, 114, 116] (by decide +kernel)
    have f_15 := tl_const w0 ⟨#[115, 101, 116]⟩ [115, 101, 116] (by decide +kernel)
    have f_16 := tl_const w0 ⟨#[114, 101, 115, 101, 116]⟩ [114, 101, 115, 101, 116] (by decide +kernel)
    have f_17 := tl_const w0 ⟨#[100, 105, 115, 99, 97, 114, 100]⟩ [100, 105, 115, 99, 97, 114, 100] (by decide +kernel)
    have f_18 := tl_const w0 ⟨#[108, 105, 115, 116, 101, 110]⟩ [108, 105, 115, 116, 101, 110] (by decide +kernel)
    have f_19 := tl_const w0 ⟨#[117, 110, 108, 105, 115, 116, 101, 110]⟩ [117, 110, 108, 105, 115, 116, 101, 110] (by decide +kernel)
    have f_20 := tl_const w0 ⟨#[112, 114, 101, 112, 97, 114, 101]⟩ [112, 114, 101, 112, 97, 114, 101] (by decide +kernel)
    have f_21 := tl_const w0 ⟨#[100, 101, 97, 108, 108, 111, 99, 97, 116, 101]⟩ [100, 101, 97, 108, 108, 111, 99, 97, 116, 101] (by decide +kernel)
    have f_22 := tl_const w0 ⟨#[100, 101, 99, 108, 97, 114, 101]⟩ [100, 101, 99, 108, 97, 114, 101] (by decide +kernel)
    have f_23 := tl_const w0 ⟨#[108, 111, 97, 100]⟩ [108, 111, 97, 100] (by decide +kernel)
    by_cases c_0 : w0 = ⟨#[115, 101, 108, 101, 99, 116]⟩
    · rw [decide_eq_true c_0] at f_0
      have hv : res = if b1 = true then 2 else if (b2 || (b3 || b4)) = true then 7 else 1 := by rw [HCL.out, if_pos (by rw [c_0]; decide +kernel)]
      clear f_1 f_2 f_3 f_4 f_5 f_6 f_7 f_8 f_9 f_10 f_11 f_12 f_13 f_14 f_15 f_16 f_17 f_18 f_19 f_20 f_21 f_22 f_23 c_0 HCL HE1 D1 CH
      have HV := Lib.hid hv
      clear hv
      go_upto_region 8 with fail
      cases b1 with
      | true =>
        have hres : res = 2 := by rw [HV.out]; rfl
        subst hres
        go_wp2_with (first | (go_at_call 54; (with_reducible refine (CW.out _ h).mono ?_); rintro e w3 ⟨rfl, h3⟩) | (go_at_call 55; (with_reducible refine (CL.out _ h3).mono ?_); rintro e w4 ⟨rfl, h4⟩) | (go_at_call 56; (with_reducible refine (CS.out _ h4).mono ?_); rintro e w5 ⟨rfl, h5⟩) | (go_at_call 57; (refine (CC.out _ h5).mono ?_); rintro e w6 ⟨rfl, h6⟩))
        go_ret
        exact ⟨rfl, h3⟩
      | false =>
        cases b2 with
        | true =>
          have hres : res = 7 := by rw [HV.out]; rfl
          subst hres
          go_wp2_with (first | (go_at_call 54; (with_reducible refine (CW.out _ h).mono ?_); rintro e w3 ⟨rfl, h3⟩) | (go_at_call 55; (with_reducible refine (CL.out _ h3).mono ?_); rintro e w4 ⟨rfl, h4⟩) | (go_at_call 56; (with_reducible refine (CS.out _ h4).mono ?_); rintro e w5 ⟨rfl, h5⟩) | (go_at_call 57; (refine (CC.out _ h5).mono ?_); rintro e w6 ⟨rfl, h6⟩))
          go_ret
          exact ⟨rfl, h4⟩
        | false =>
          cases b3 with
          | true =>
            have hres : res = 7 := by rw [HV.out]; rfl
            subst hres
            go_wp2_with (first | (go_at_call 54; (with_reducible refine (CW.out _ h).mono ?_); rintro e w3 ⟨rfl, h3⟩) | (go_at_call 55; (with_reducible refine (CL.out _ h3).mono ?_); rintro e w4 ⟨rfl, h4⟩) | (go_at_call 56; (with_reducible refine (CS.out _ h4).mono ?_); rintro e w5 ⟨rfl, h5⟩) | (go_at_call 57; (refine (CC.out _ h5).mono ?_); rintro e w6 ⟨rfl, h6⟩))
            go_ret
            exact ⟨rfl, h5⟩
          | false =>
            cases b4 with
            | true =>
              have hres : res = 7 := by rw [HV.out]; rfl
              subst hres
              go_wp2_with (first | (go_at_call 54; (with_reducible refine (CW.out _ h).mono ?_); rintro e w3 ⟨rfl, h3⟩) | (go_at_call 55; (with_reducible refine (CL.out _ h3).mono ?_); rintro e w4 ⟨rfl, h4⟩) | (go_at_call 56; (with_reducible refine (CS.out _ h4).mono ?_); rintro e w5 ⟨rfl, h5⟩) | (go_at_call 57; (refine (CC.out _ h5).mono ?_); rintro e w6 ⟨rfl, h6⟩))
              go_ret
              exact ⟨rfl, h6⟩
            | false =>
              have hres : res = 1 := by rw [HV.out]; rfl
              subst hres
              go_wp2_with (first | (go_at_call 54; (with_reducible refine (CW.out _ h).mono ?_); rintro e w3 ⟨rfl, h3⟩) | (go_at_call 55; (with_reducible refine (CL.out _ h3).mono ?_); rintro e w4 ⟨rfl, h4⟩) | (go_at_call 56; (with_reducible refine (CS.out _ h4).mono ?_); rintro e w5 ⟨rfl, h5⟩) | (go_at_call 57; (refine (CC.out _ h5).mono ?_); rintro e w6 ⟨rfl, h6⟩))
              go_ret
              exact ⟨rfl, h6⟩
    rw [decide_eq_false c_0] at f_0
    by_cases c_1 : w0 = ⟨#[118, 97, 108, 117, 101, 115]⟩
    · rw [decide_eq_true c_1] at f_1
      have hv : res = if b1 = true then 2 else if (b2 || (b3 || b4)) = true then 7 else 1 := by rw [HCL.out, if_pos (by rw [c_1]; decide +kernel)]
      clear f_2 f_3 f_4 f_5 f_6 f_7 f_8 f_9 f_10 f_11 f_12 f_13 f_14 f_15 f_16 f_17 f_18 f_19 f_20 f_21 f_22 f_23 c_0 c_1 HCL HE1 D1 CH
      have HV := Lib.hid hv
      clear hv
      go_upto_region 8 with fail
      cases b1 with
      | true =>
        have hres : res = 2 := by rw [HV.out]; rfl
        subst hres
        go_wp2_with (first | (go_at_call 54; (with_reducible refine (CW.out _ h).mono ?_); rintro e w3 ⟨rfl, h3⟩) | (go_at_call 55; (with_reducible refine (CL.out _ h3).mono ?_); rintro e w4 ⟨rfl, h4⟩) | (go_at_call 56; (with_reducible refine (CS.out _ h4).mono ?_); rintro e w5 ⟨rfl, h5⟩) | (go_at_call 57; (refine (CC.out _ h5).mono ?_); rintro e w6 ⟨rfl, h6⟩))
        go_ret
        exact ⟨rfl, h3⟩
      | false =>
        cases b2 with
        | true =>
          have hres : res = 7 := by rw [HV.out]; rfl
          subst hres
          go_wp2_with (first | (go_at_call 54; (with_reducible refine (CW.out _ h).mono ?_); rintro e w3 ⟨rfl, h3⟩) | (go_at_call 55; (with_reducible refine (CL.out _ h3).mono ?_); rintro e w4 ⟨rfl, h4⟩) | (go_at_call 56; (with_reducible refine (CS.out _ h4).mono ?_); rintro e w5 ⟨rfl, h5⟩) | (go_at_call 57; (refine (CC.out _ h5).mono ?_); rintro e w6 ⟨rfl, h6⟩))
          go_ret
          exact ⟨rfl, h4⟩
        | false =>
          cases b3 with
          | true =>
            have hres : res = 7 := by rw [HV.out]; rfl
            subst hres
            go_wp2_with (first | (go_at_call 54; (with_reducible refine (CW.out _ h).mono ?_); rintro e w3 ⟨rfl, h3⟩) | (go_at_call 55; (with_reducible refine (CL.out _ h3).mono ?_); rintro e w4 ⟨rfl, h4⟩) | (go_at_call 56; (with_reducible refine (CS.out _ h4).mono ?_); rintro e w5 ⟨rfl, h5⟩) | (go_at_call 57; (refine (CC.out _ h5).mono ?_); rintro e w6 ⟨rfl, h6⟩))
            go_ret
            exact ⟨rfl, h5⟩
          | false =>
            cases b4 with
            | true =>
              have hres : res = 7 := by rw [HV.out]; rfl
              subst hres
              go_wp2_with (first | (go_at_call 54; (with_reducible refine (CW.out _ h).mono ?_); rintro e w3 ⟨rfl, h3⟩) | (go_at_call 55; (with_reducible refine (CL.out _ h3).mono ?_); rintro e w4 ⟨rfl, h4⟩) | (go_at_call 56; (with_reducible refine (CS.out _ h4).mono ?_); rintro e w5 ⟨rfl, h5⟩) | (go_at_call 57; (refine (CC.out _ h5).mono ?_); rintro e w6 ⟨rfl, h6⟩))
              go_ret
              exact ⟨rfl, h6⟩
            | false =>
              have hres : res = 1 := by rw [HV.out]; rfl
              subst hres
              go_wp2_with (first | (go_at_call 54; (with_reducible refine (CW.out _ h).mono ?_); rintro e w3 ⟨rfl, h3⟩) | (go_at_call 55; (with_reducible refine (CL.out _ h3).mono ?_); rintro e w4 ⟨rfl, h4⟩) | (go_at_call 56; (with_reducible refine (CS.out _ h4).mono ?_); rintro e w5 ⟨rfl, h5⟩) | (go_at_call 57; (refine (CC.out _ h5).mono ?_); rintro e w6 ⟨rfl, h6⟩))
              go_ret
              exact ⟨rfl, h6⟩
    rw [decide_eq_false c_1] at f_1
    by_cases c_2 : w0 = ⟨#[116, 97, 98, 108, 101]⟩
    · rw [decide_eq_true c_2] at f_2
      have hv : res = if b1 = true then 2 else if (b2 || (b3 || b4)) = true then 7 else 1 := by rw [HCL.out, if_pos (by rw [c_2]; decide +kernel)]
      clear f_3 f_4 f_5 f_6 f_7 f_8 f_9 f_10 f_11 f_12 f_13 f_14 f_15 f_16 f_17 f_18 f_19 f_20 f_21 f_22 f_23 c_0 c_1 c_2 HCL HE1 D1 CH
      have HV := Lib.hid hv
      clear hv
      go_upto_region 8 with fail
      cases b1 with
      | true =>
        have hres : res = 2 := by rw [HV.out]; rfl
        subst hres
        go_wp2_with (first | (go_at_call 54; (with_reducible refine (CW.out _ h).mono ?_); rintro e w3 ⟨rfl, h3⟩) | (go_at_call 55; (with_reducible refine (CL.out _ h3).mono ?_); rintro e w4 ⟨rfl, h4⟩) | (go_at_call 56; (with_reducible refine (CS.out _ h4).mono ?_); rintro e w5 ⟨rfl, h5⟩) | (go_at_call 57; (refine (CC.out _ h5).mono ?_); rintro e w6 ⟨rfl, h6⟩))
        go_ret
        exact ⟨rfl, h3⟩
      | false =>
        cases b2 with
        | true =>
          have hres : res = 7 := by rw [HV.out]; rfl
          subst hres
          go_wp2_with (first | (go_at_call 54; (with_reducible refine (CW.out _ h).mono ?_); rintro e w3 ⟨rfl, h3⟩) | (go_at_call 55; (with_reducible refine (CL.out _ h3).mono ?_); rintro e w4 ⟨rfl, h4⟩) | (go_at_call 56; (with_reducible refine (CS.out _ h4).mono ?_); rintro e w5 ⟨rfl, h5⟩) | (go_at_call 57; (refine (CC.out _ h5).mono ?_); rintro e w6 ⟨rfl, h6⟩))
          go_ret
          exact ⟨rfl, h4⟩
        | false =>
          cases b3 with
          | true =>
            have hres : res = 7 := by rw [HV.out]; rfl
            subst hres
            go_wp2_with (first | (go_at_call 54; (with_reducible refine (CW.out _ h).mono ?_); rintro e w3 ⟨rfl, h3⟩) | (go_at_call 55; (with_reducible refine (CL.out _ h3).mono ?_); rintro e w4 ⟨rfl, h4⟩) | (go_at_call 56; (with_reducible refine (CS.out _ h4).mono ?_); rintro e w5 ⟨rfl, h5⟩) | (go_at_call 57; (refine (CC.out _ h5).mono ?_); rintro e w6 ⟨rfl, h6⟩))
            go_ret
            exact ⟨rfl, h5⟩
          | false =>
            cases b4 with
            | true =>
              have hres : res = 7 := by rw [HV.out]; rfl
              subst hres
              go_wp2_with (first | (go_at_call 54; (with_reducible refine (CW.out _ h).mono ?_); rintro e w3 ⟨rfl, h3⟩) | (go_at_call 55; (with_reducible refine (CL.out _ h3).mono ?_); rintro e w4 ⟨rfl, h4⟩) | (go_at_call 56; (with_reducible refine (CS.out _ h4).mono ?_); rintro e w5 ⟨rfl, h5⟩) | (go_at_call 57; (refine (CC.out _ h5).mono ?_); rintro e w6 ⟨rfl, h6⟩))
              go_ret
              exact ⟨rfl, h6⟩
            | false =>
              have hres : res = 1 := by rw [HV.out]; rfl
              subst hres
              go_wp2_with (first | (go_at_call 54; (with_reducible refine (CW.out _ h).mono ?_); rintro e w3 ⟨rfl, h3⟩) | (go_at_call 55; (with_reducible refine (CL.out _ h3).mono ?_); rintro e w4 ⟨rfl, h4⟩) | (go_at_call 56; (with_reducible refine (CS.out _ h4).mono ?_); rintro e w5 ⟨rfl, h5⟩) | (go_at_call 57; (refine (CC.out _ h5).mono ?_); rintro e w6 ⟨rfl, h6⟩))
              go_ret
              exact ⟨rfl, h6⟩
    rw [decide_eq_false c_2] at f_2
    by_cases c_3 : w0 = ⟨#[119, 105, 116, 104]⟩
    · rw [decide_eq_true c_3] at f_3
      have hv : res = if b1 = true then 2 else if (b2 || (b3 || b4)) = true then 7 else 1 := by rw [HCL.out, if_pos (by rw [c_3]; decide +kernel)]
      clear f_4 f_5 f_6 f_7 f_8 f_9 f_10 f_11 f_12 f_13 f_14 f_15 f_16 f_17 f_18 f_19 f_20 f_21 f_22 f_23 c_0 c_1 c_2 c_3 HCL HE1 D1 CH
      have HV := Lib.hid hv
      clear hv
      go_upto_region 8 with fail
      cases b1 with
      | true =>
        have hres : res = 2 := by rw [HV.out]; rfl
        subst hres
        go_wp2_with (first | (go_at_call 54; (with_reducible refine (CW.out _ h).mono ?_); rintro e w3 ⟨rfl, h3⟩) | (go_at_call 55; (with_reducible refine (CL.out _ h3).mono ?_); rintro e w4 ⟨rfl, h4⟩) | (go_at_call 56; (with_reducible refine (CS.out _ h4).mono ?_); rintro e w5 ⟨rfl, h5⟩) | (go_at_call 57; (refine (CC.out _ h5).mono ?_); rintro e w6 ⟨rfl, h6⟩))
        go_ret
        exact ⟨rfl, h3⟩
      | false =>
        cases b2 with
        | true =>
          have hres : res = 7 := by rw [HV.out]; rfl
          subst hres
          go_wp2_with (first | (go_at_call 54; (with_reducible refine (CW.out _ h).mono ?_); rintro e w3 ⟨rfl, h3⟩) | (go_at_call 55; (with_reducible refine (CL.out _ h3).mono ?_); rintro e w4 ⟨rfl, h4⟩) | (go_at_call 56; (with_reducible refine (CS.out _ h4).mono ?_); rintro e w5 ⟨rfl, h5⟩) | (go_at_call 57; (refine (CC.out _ h5).mono ?_); rintro e w6 ⟨rfl, h6⟩))
          go_ret
          exact ⟨rfl, h4⟩
        | false =>
          cases b3 with
          | true =>
            have hres : res = 7 := by rw [HV.out]; rfl
            subst hres
            go_wp2_with (first | (go_at_call 54; (with_reducible refine (CW.out _ h).mono ?_); rintro e w3 ⟨rfl, h3⟩) | (go_at_call 55; (with_reducible refine (CL.out _ h3).mono ?_); rintro e w4 ⟨rfl, h4⟩) | (go_at_call 56; (with_reducible refine (CS.out _ h4).mono ?_); rintro e w5 ⟨rfl, h5⟩) | (go_at_call 57; (refine (CC.out _ h5).mono ?_); rintro e w6 ⟨rfl, h6⟩))
            go_ret
            exact ⟨rfl, h5⟩
          | false =>
            cases b4 with
            | true =>
              have hres : res = 7 := by rw [HV.out]; rfl
              subst hres
              go_wp2_with (first | (go_at_call 54; (with_reducible refine (CW.out _ h).mono ?_); rintro e w3 ⟨rfl, h3⟩) | (go_at_call 55; (with_reducible refine (CL.out _ h3).mono ?_); rintro e w4 ⟨rfl, h4⟩) | (go_at_call 56; (with_reducible refine (CS.out _ h4).mono ?_); rintro e w5 ⟨rfl, h5⟩) | (go_at_call 57; (refine (CC.out _ h5).mono ?_); rintro e w6 ⟨rfl, h6⟩))
              go_ret
              exact ⟨rfl, h6⟩
            | false =>
              have hres : res = 1 := by rw [HV.out]; rfl
              subst hres
              go_wp2_with (first | (go_at_call 54; (with_reducible refine (CW.out _ h).mono ?_); rintro e w3 ⟨rfl, h3⟩) | (go_at_call 55; (with_reducible refine (CL.out _ h3).mono ?_); rintro e w4 ⟨rfl, h4⟩) | (go_at_call 56; (with_reducible refine (CS.out _ h4).mono ?_); rintro e w5 ⟨rfl, h5⟩) | (go_at_call 57; (refine (CC.out _ h5).mono ?_); rintro e w6 ⟨rfl, h6⟩))
              go_ret
              exact ⟨rfl, h6⟩
    rw [decide_eq_false c_3] at f_3
    by_cases c_4 : w0 = ⟨#[105, 110, 115, 101, 114, 116]⟩
    · rw [decide_eq_true c_4] at f_4
      have hv : res = 2 := by
        rw [HCL.out, if_neg (by rw [c_4]; decide +kernel), if_neg (c := w0 = cStart ∧ _) (by rw [c_4]; rintro ⟨q, _⟩; exact absurd q (by decide +kernel)), if_neg (by rw [c_4]; rintro ⟨q | q, _⟩ <;> exact absurd q (by decide +kernel)), c_4]
        decide +kernel
      clear f_5 f_6 f_7 f_8 f_9 f_10 f_11 f_12 f_13 f_14 f_15 f_16 f_17 f_18 f_19 f_20 f_21 f_22 f_23 c_0 c_1 c_2 c_3 c_4 HCL HE1 D1 CH CW CL CS CC
      subst hv
      go_wp2_with fail
      go_ret
      exact ⟨rfl, h⟩
    rw [decide_eq_false c_4] at f_4
    by_cases c_5 : w0 = ⟨#[117, 112, 100, 97, 116, 101]⟩
    · rw [decide_eq_true c_5] at f_5
      have hv : res = 2 := by
        rw [HCL.out, if_neg (by rw [c_5]; decide +kernel), if_neg (c := w0 = cStart ∧ _) (by rw [c_5]; rintro ⟨q, _⟩; exact absurd q (by decide +kernel)), if_neg (by rw [c_5]; rintro ⟨q | q, _⟩ <;> exact absurd q (by decide +kernel)), c_5]
        decide +kernel
      clear f_6 f_7 f_8 f_9 f_10 f_11 f_12 f_13 f_14 f_15 f_16 f_17 f_18 f_19 f_20 f_21 f_22 f_23 c_0 c_1 c_2 c_3 c_4 c_5 HCL HE1 D1 CH CW CL CS CC
      subst hv
      go_wp2_with fail
      go_ret
      exact ⟨rfl, h⟩
    rw [decide_eq_false c_5] at f_5
    by_cases c_6 : w0 = ⟨#[100, 101, 108, 101, 116, 101]⟩
    · rw [decide_eq_true c_6] at f_6
      have hv : res = 2 := by
        rw [HCL.out, if_neg (by rw [c_6]; decide +kernel), if_neg (c := w0 = cStart ∧ _) (by rw [c_6]; rintro ⟨q, _⟩; exact absurd q (by decide +kernel)), if_neg (by rw [c_6]; rintro ⟨q | q, _⟩ <;> exact absurd q (by decide +kernel)), c_6]
        decide +kernel
      clear f_7 f_8 f_9 f_10 f_11 f_12 f_13 f_14 f_15 f_16 f_17 f_18 f_19 f_20 f_21 f_22 f_23 c_0 c_1 c_2 c_3 c_4 c_5 c_6 HCL HE1 D1 CH CW CL CS CC
      subst hv
      go_wp2_with fail
      go_ret
      exact ⟨rfl, h⟩
    rw [decide_eq_false c_6] at f_6
    by_cases c_7 : w0 = ⟨#[116, 114, 117, 110, 99, 97, 116, 101]⟩
    · rw [decide_eq_true c_7] at f_7
      have hv : res = 2 := by
        rw [HCL.out, if_neg (by rw [c_7]; decide +kernel), if_neg (c := w0 = cStart ∧ _) (by rw [c_7]; rintro ⟨q, _⟩; exact absurd q (by decide +kernel)), if_neg (by rw [c_7]; rintro ⟨q | q, _⟩ <;> exact absurd q (by decide +kernel)), c_7]
        decide +kernel
      clear f_8 f_9 f_10 f_11 f_12 f_13 f_14 f_15 f_16 f_17 f_18 f_19 f_20 f_21 f_22 f_23 c_0 c_1 c_2 c_3 c_4 c_5 c_6 c_7 HCL HE1 D1 CH CW CL CS CC
      subst hv
      go_wp2_with fail
      go_ret
      exact ⟨rfl, h⟩
    rw [decide_eq_false c_7] at f_7
    by_cases c_8 : w0 = ⟨#[109, 101, 114, 103, 101]⟩
    · rw [decide_eq_true c_8] at f_8
      have hv : res = 2 := by
        rw [HCL.out, if_neg (by rw [c_8]; decide +kernel), if_neg (c := w0 = cStart ∧ _) (by rw [c_8]; rintro ⟨q, _⟩; exact absurd q (by decide +kernel)), if_neg (by rw [c_8]; rintro ⟨q | q, _⟩ <;> exact absurd q (by decide +kernel)), c_8]
        decide +kernel
      clear f_9 f_10 f_11 f_12 f_13 f_14 f_15 f_16 f_17 f_18 f_19 f_20 f_21 f_22 f_23 c_0 c_1 c_2 c_3 c_4 c_5 c_6 c_7 c_8 HCL HE1 D1 CH CW CL CS CC
      subst hv
      go_wp2_with fail
      go_ret
      exact ⟨rfl, h⟩
    rw [decide_eq_false c_8] at f_8
    by_cases c_9 : w0 = ⟨#[98, 101, 103, 105, 110]⟩
    · rw [decide_eq_true c_9] at f_9
      have hv : res = 3 := by
        rw [HCL.out, if_neg (by rw [c_9]; decide +kernel), if_neg (c := w0 = cStart ∧ _) (by rw [c_9]; rintro ⟨q, _⟩; exact absurd q (by decide +kernel)), if_neg (by rw [c_9]; rintro ⟨q | q, _⟩ <;> exact absurd q (by decide +kernel)), c_9]
        decide +kernel
      clear f_10 f_11 f_12 f_13 f_14 f_15 f_16 f_17 f_18 f_19 f_20 f_21 f_22 f_23 c_0 c_1 c_2 c_3 c_4 c_5 c_6 c_7 c_8 c_9 HCL HE1 D1 CH CW CL CS CC
      subst hv
      go_wp2_with fail
      go_ret
      exact ⟨rfl, h⟩
    rw [decide_eq_false c_9] at f_9
    by_cases c_10 : w0 = ⟨#[115, 116, 97, 114, 116]⟩
    · rw [decide_eq_true c_10] at f_10
      have hv : res = if w1 = cTrans then 3 else 8 := by
        rw [HCL.out, if_neg (by rw [c_10]; decide +kernel), if_neg (c := (w0 = cRoll ∨ w0 = cAbort) ∧ bt = false) (by rw [c_10]; rintro ⟨q | q, _⟩ <;> exact absurd q (by decide +kernel))]
        have hfc : firstC w0 = 8 := by rw [c_10]; decide +kernel
        rw [hfc]
        by_cases q : w1 = cTrans
        · rw [if_pos ⟨c_10, HE1.out.2 q⟩, if_pos q]
        · rw [if_neg (fun p => q (HE1.out.1 p.2)), if_neg q]
      clear f_11 f_12 f_13 f_14 f_15 f_16 f_17 f_18 f_19 f_20 f_21 f_22 f_23 c_0 c_1 c_2 c_3 c_4 c_5 c_6 c_7 c_8 c_9 c_10 HCL HE1 CH CW CL CS CC
      have g1 := tl_const w1 cTrans [116, 114, 97, 110, 115, 97, 99, 116, 105, 111, 110] (by decide +kernel)
      by_cases ct : w1 = cTrans
      · rw [if_pos ct] at hv
        subst hv
        rw [decide_eq_true ct] at g1
        clear ct
        go_wp2_with (go_at_call 53; (refine (D1.out).mono ?_); rintro e w3 ⟨rfl, rfl⟩)
        go_ret
        exact ⟨rfl, h⟩
      · rw [if_neg ct] at hv
        subst hv
        rw [decide_eq_false ct] at g1
        clear ct
        go_wp2_with (go_at_call 53; (refine (D1.out).mono ?_); rintro e w3 ⟨rfl, rfl⟩)
        go_ret
        exact ⟨rfl, h⟩
    rw [decide_eq_false c_10] at f_10
    by_cases c_11 : w0 = ⟨#[99, 111, 109, 109, 105, 116]⟩
    · rw [decide_eq_true c_11] at f_11
      have hv : res = 4 := by
        rw [HCL.out, if_neg (by rw [c_11]; decide +kernel), if_neg (c := w0 = cStart ∧ _) (by rw [c_11]; rintro ⟨q, _⟩; exact absurd q (by decide +kernel)), if_neg (by rw [c_11]; rintro ⟨q | q, _⟩ <;> exact absurd q (by decide +kernel)), c_11]
        decide +kernel
      clear f_12 f_13 f_14 f_15 f_16 f_17 f_18 f_19 f_20 f_21 f_22 f_23 c_0 c_1 c_2 c_3 c_4 c_5 c_6 c_7 c_8 c_9 c_10 c_11 HCL HE1 D1 CH CW CL CS CC
      subst hv
      go_wp2_with fail
      go_ret
      exact ⟨rfl, h⟩
    rw [decide_eq_false c_11] at f_11
    by_cases c_12 : w0 = ⟨#[101, 110, 100]⟩
    · rw [decide_eq_true c_12] at f_12
      have hv : res = 4 := by
        rw [HCL.out, if_neg (by rw [c_12]; decide +kernel), if_neg (c := w0 = cStart ∧ _) (by rw [c_12]; rintro ⟨q, _⟩; exact absurd q (by decide +kernel)), if_neg (by rw [c_12]; rintro ⟨q | q, _⟩ <;> exact absurd q (by decide +kernel)), c_12]
        decide +kernel
      clear f_13 f_14 f_15 f_16 f_17 f_18 f_19 f_20 f_21 f_22 f_23 c_0 c_1 c_2 c_3 c_4 c_5 c_6 c_7 c_8 c_9 c_10 c_11 c_12 HCL HE1 D1 CH CW CL CS CC
      subst hv
      go_wp2_with fail
      go_ret
      exact ⟨rfl, h⟩
    rw [decide_eq_false c_12] at f_12
    by_cases c_13 : w0 = ⟨#[114, 111, 108, 108, 98, 97, 99, 107]⟩
    · rw [decide_eq_true c_13] at f_13
      have hv : res = if bt = false then 5 else 8 := by
        rw [HCL.out, if_neg (by rw [c_13]; decide +kernel), if_neg (c := w0 = cStart ∧ _) (by rw [c_13]; rintro ⟨q, _⟩; exact absurd q (by decide +kernel))]
        have hfc : firstC w0 = 8 := by rw [c_13]; decide +kernel
        rw [hfc]
        by_cases q : bt = false
        · rw [if_pos ⟨.inl c_13, q⟩, if_pos q]
        · rw [if_neg (fun p => q p.2), if_neg q]
      clear f_14 f_15 f_16 f_17 f_18 f_19 f_20 f_21 f_22 f_23 c_0 c_1 c_2 c_3 c_4 c_5 c_6 c_7 c_8 c_9 c_10 c_11 c_12 c_13 HCL HE1 D1 CW CL CS CC
      cases bt with
      | false =>
        rw [if_pos rfl] at hv
        subst hv
        go_wp2_with (go_at_call 58; (refine (CH.out _ h).mono ?_); rintro e w3 ⟨rfl, h3⟩)
        go_ret
        exact ⟨rfl, h3⟩
      | true =>
        rw [if_neg (by decide)] at hv
        subst hv
        go_wp2_with (go_at_call 58; (refine (CH.out _ h).mono ?_); rintro e w3 ⟨rfl, h3⟩)
        go_ret
        exact ⟨rfl, h3⟩
    rw [decide_eq_false c_13] at f_13
    by_cases c_14 : w0 = ⟨#[97, 98, 111, 114, 116]⟩
    · rw [decide_eq_true c_14] at f_14
      have hv : res = if bt = false then 5 else 8 := by
        rw [HCL.out, if_neg (by rw [c_14]; decide +kernel), if_neg (c := w0 = cStart ∧ _) (by rw [c_14]; rintro ⟨q, _⟩; exact absurd q (by decide +kernel))]
        have hfc : firstC w0 = 8 := by rw [c_14]; decide +kernel
        rw [hfc]
        by_cases q : bt = false
        · rw [if_pos ⟨.inr c_14, q⟩, if_pos q]
        · rw [if_neg (fun p => q p.2), if_neg q]
      clear f_15 f_16 f_17 f_18 f_19 f_20 f_21 f_22 f_23 c_0 c_1 c_2 c_3 c_4 c_5 c_6 c_7 c_8 c_9 c_10 c_11 c_12 c_13 c_14 HCL HE1 D1 CW CL CS CC
      cases bt with
      | false =>
        rw [if_pos rfl] at hv
        subst hv
        go_wp2_with (go_at_call 58; (refine (CH.out _ h).mono ?_); rintro e w3 ⟨rfl, h3⟩)
        go_ret
        exact ⟨rfl, h3⟩
      | true =>
        rw [if_neg (by decide)] at hv
        subst hv
        go_wp2_with (go_at_call 58; (refine (CH.out _ h).mono ?_); rintro e w3 ⟨rfl, h3⟩)
        go_ret
        exact ⟨rfl, h3⟩
    rw [decide_eq_false c_14] at f_14
    by_cases c_15 : w0 = ⟨#[115, 101, 116]⟩
    · rw [decide_eq_true c_15] at f_15
      have hv : res = 6 := by
        rw [HCL.out, if_neg (by rw [c_15]; decide +kernel), if_neg (c := w0 = cStart ∧ _) (by rw [c_15]; rintro ⟨q, _⟩; exact absurd q (by decide +kernel)), if_neg (by rw [c_15]; rintro ⟨q | q, _⟩ <;> exact absurd q (by decide +kernel)), c_15]
        decide +kernel
      clear f_16 f_17 f_18 f_19 f_20 f_21 f_22 f_23 c_0 c_1 c_2 c_3 c_4 c_5 c_6 c_7 c_8 c_9 c_10 c_11 c_12 c_13 c_14 c_15 HCL HE1 D1 CH CW CL CS CC
      subst hv
      go_wp2_with fail
      go_ret
      exact ⟨rfl, h⟩
    rw [decide_eq_false c_15] at f_15
    by_cases c_16 : w0 = ⟨#[114, 101, 115, 101, 116]⟩
    · rw [decide_eq_true c_16] at f_16
      have hv : res = 6 := by
        rw [HCL.out, if_neg (by rw [c_16]; decide +kernel), if_neg (c := w0 = cStart ∧ _) (by rw [c_16]; rintro ⟨q, _⟩; exact absurd q (by decide +kernel)), if_neg (by rw [c_16]; rintro ⟨q | q, _⟩ <;> exact absurd q (by decide +kernel)), c_16]
        decide +kernel
      clear f_17 f_18 f_19 f_20 f_21 f_22 f_23 c_0 c_1 c_2 c_3 c_4 c_5 c_6 c_7 c_8 c_9 c_10 c_11 c_12 c_13 c_14 c_15 c_16 HCL HE1 D1 CH CW CL CS CC
      subst hv
      go_wp2_with fail
      go_ret
      exact ⟨rfl, h⟩
    rw [decide_eq_false c_16] at f_16
    by_cases c_17 : w0 = ⟨#[100, 105, 115, 99, 97, 114, 100]⟩
    · rw [decide_eq_true c_17] at f_17
      have hv : res = 6 := by
        rw [HCL.out, if_neg (by rw [c_17]; decide +kernel), if_neg (c := w0 = cStart ∧ _) (by rw [c_17]; rintro ⟨q, _⟩; exact absurd q (by decide +kernel)), if_neg (by rw [c_17]; rintro ⟨q | q, _⟩ <;> exact absurd q (by decide +kernel)), c_17]
        decide +kernel
      clear f_18 f_19 f_20 f_21 f_22 f_23 c_0 c_1 c_2 c_3 c_4 c_5 c_6 c_7 c_8 c_9 c_10 c_11 c_12 c_13 c_14 c_15 c_16 c_17 HCL HE1 D1 CH CW CL CS CC
      subst hv
      go_wp2_with fail
      go_ret
      exact ⟨rfl, h⟩
    rw [decide_eq_false c_17] at f_17
    by_cases c_18 : w0 = ⟨#[108, 105, 115, 116, 101, 110]⟩
    · rw [decide_eq_true c_18] at f_18
      have hv : res = 6 := by
        rw [HCL.out, if_neg (by rw [c_18]; decide +kernel), if_neg (c := w0 = cStart ∧ _) (by rw [c_18]; rintro ⟨q, _⟩; exact absurd q (by decide +kernel)), if_neg (by rw [c_18]; rintro ⟨q | q, _⟩ <;> exact absurd q (by decide +kernel)), c_18]
        decide +kernel
      clear f_19 f_20 f_21 f_22 f_23 c_0 c_1 c_2 c_3 c_4 c_5 c_6 c_7 c_8 c_9 c_10 c_11 c_12 c_13 c_14 c_15 c_16 c_17 c_18 HCL HE1 D1 CH CW CL CS CC
      subst hv
      go_wp2_with fail
      go_ret
      exact ⟨rfl, h⟩
    rw [decide_eq_false c_18] at f_18
    by_cases c_19 : w0 = ⟨#[117, 110, 108, 105, 115, 116, 101, 110]⟩
    · rw [decide_eq_true c_19] at f_19
      have hv : res = 6 := by
        rw [HCL.out, if_neg (by rw [c_19]; decide +kernel), if_neg (c := w0 = cStart ∧ _) (by rw [c_19]; rintro ⟨q, _⟩; exact absurd q (by decide +kernel)), if_neg (by rw [c_19]; rintro ⟨q | q, _⟩ <;> exact absurd q (by decide +kernel)), c_19]
        decide +kernel
      clear f_20 f_21 f_22 f_23 c_0 c_1 c_2 c_3 c_4 c_5 c_6 c_7 c_8 c_9 c_10 c_11 c_12 c_13 c_14 c_15 c_16 c_17 c_18 c_19 HCL HE1 D1 CH CW CL CS CC
      subst hv
      go_wp2_with fail
      go_ret
      exact ⟨rfl, h⟩
    rw [decide_eq_false c_19] at f_19
    by_cases c_20 : w0 = ⟨#[112, 114, 101, 112, 97, 114, 101]⟩
    · rw [decide_eq_true c_20] at f_20
      have hv : res = 6 := by
        rw [HCL.out, if_neg (by rw [c_20]; decide +kernel), if_neg (c := w0 = cStart ∧ _) (by rw [c_20]; rintro ⟨q, _⟩; exact absurd q (by decide +kernel)), if_neg (by rw [c_20]; rintro ⟨q | q, _⟩ <;> exact absurd q (by decide +kernel)), c_20]
        decide +kernel
      clear f_21 f_22 f_23 c_0 c_1 c_2 c_3 c_4 c_5 c_6 c_7 c_8 c_9 c_10 c_11 c_12 c_13 c_14 c_15 c_16 c_17 c_18 c_19 c_20 HCL HE1 D1 CH CW CL CS CC
      subst hv
      go_wp2_with fail
      go_ret
      exact ⟨rfl, h⟩
    rw [decide_eq_false c_20] at f_20
    by_cases c_21 : w0 = ⟨#[100, 101, 97, 108, 108, 111, 99, 97, 116, 101]⟩
    · rw [decide_eq_true c_21] at f_21
      have hv : res = 6 := by
        rw [HCL.out, if_neg (by rw [c_21]; decide +kernel), if_neg (c := w0 = cStart ∧ _) (by rw [c_21]; rintro ⟨q, _⟩; exact absurd q (by decide +kernel)), if_neg (by rw [c_21]; rintro ⟨q | q, _⟩ <;> exact absurd q (by decide +kernel)), c_21]
        decide +kernel
      clear f_22 f_23 c_0 c_1 c_2 c_3 c_4 c_5 c_6 c_7 c_8 c_9 c_10 c_11 c_12 c_13 c_14 c_15 c_16 c_17 c_18 c_19 c_20 c_21 HCL HE1 D1 CH CW CL CS CC
      subst hv
      go_wp2_with fail
      go_ret
      exact ⟨rfl, h⟩
    rw [decide_eq_false c_21] at f_21
    by_cases c_22 : w0 = ⟨#[100, 101, 99, 108, 97, 114, 101]⟩
    · rw [decide_eq_true c_22] at f_22
      have hv : res = 6 := by
        rw [HCL.out, if_neg (by rw [c_22]; decide +kernel), if_neg (c := w0 = cStart ∧ _) (by rw [c_22]; rintro ⟨q, _⟩; exact absurd q (by decide +kernel)), if_neg (by rw [c_22]; rintro ⟨q | q, _⟩ <;> exact absurd q (by decide +kernel)), c_22]
        decide +kernel
      clear f_23 c_0 c_1 c_2 c_3 c_4 c_5 c_6 c_7 c_8 c_9 c_10 c_11 c_12 c_13 c_14 c_15 c_16 c_17 c_18 c_19 c_20 c_21 c_22 HCL HE1 D1 CH CW CL CS CC
      subst hv
      go_wp2_with fail
      go_ret
      exact ⟨rfl, h⟩
    rw [decide_eq_false c_22] at f_22
    by_cases c_23 : w0 = ⟨#[108, 111, 97, 100]⟩
    · rw [decide_eq_true c_23] at f_23
      have hv : res = 6 := by
        rw [HCL.out, if_neg (by rw [c_23]; decide +kernel), if_neg (c := w0 = cStart ∧ _) (by rw [c_23]; rintro ⟨q, _⟩; exact absurd q (by decide +kernel)), if_neg (by rw [c_23]; rintro ⟨q | q, _⟩ <;> exact absurd q (by decide +kernel)), c_23]
        decide +kernel
      clear  c_0 c_1 c_2 c_3 c_4 c_5 c_6 c_7 c_8 c_9 c_10 c_11 c_12 c_13 c_14 c_15 c_16 c_17 c_18 c_19 c_20 c_21 c_22 c_23 HCL HE1 D1 CH CW CL CS CC
      subst hv
      go_wp2_with fail
      go_ret
      exact ⟨rfl, h⟩
    rw [decide_eq_false c_23] at f_23
    have hk : w0 ∉ keyW := by
      simp only [keyW, List.mem_cons, List.not_mem_nil, or_false, not_or]
      exact ⟨c_0, c_1, c_2, c_3, c_4, c_5, c_6, c_7, c_8, c_9, c_10, c_11, c_12, c_13, c_14, c_15, c_16, c_17, c_18, c_19, c_20, c_21, c_22, c_23⟩
    have hq : ¬ memB w0 qW = true := by
      intro q
      rw [memB_iff] at q
      simp only [qW, List.mem_cons, List.not_mem_nil, or_false] at q
      rcases q with q | q | q | q
      · exact c_0 q
      · exact c_1 q
      · exact c_2 q
      · exact c_3 q
    have hv : res = 8 := by
      rw [HCL.out, if_neg hq, if_neg (fun q => c_10 q.1), if_neg (fun q => q.1.elim c_13 c_14)]
      exact firstC_else w0 hk
    clear c_0 c_1 c_2 c_3 c_4 c_5 c_6 c_7 c_8 c_9 c_10 c_11 c_12 c_13 c_14 c_15 c_16 c_17 c_18 c_19 c_20 c_21 c_22 c_23 hk hq HCL HE1 D1 CH CW CL CS CC
    subst hv
    go_wp2_with fail
    go_ret
    exact ⟨rfl, h⟩

end Go.Proofs.Ytkjhfpjjcagecaa
