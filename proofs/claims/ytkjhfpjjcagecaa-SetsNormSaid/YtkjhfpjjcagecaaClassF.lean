/- Contracts of the document's class (pontoonref06): system, Locks, writes, Has of one word. -/
import Derived.Test.YtkjhfpjjcagecaaClassE
namespace Go.Proofs.Ytkjhfpjjcagecaa
set_option linter.all false
open Go Go.RowKit

set_option maxRecDepth 100000 in
set_option maxHeartbeats 4000000 in
theorem rsystem_any (k : Env) (w : World) (R : Assn) (a : Option Addr) (cap : Nat) (l : List Tok) (hr : RdT k R a l) (hl : l.length ≤ 1000000) (h : Sat k w R) :
    Calls Try.prog 56 #[.slice a l.length cap] w fun e w' => e = .returned (.bool (callsL pgB l)) ∧ Sat k w' R := by
  obtain ⟨res, HX⟩ : ∃ res, Hid (callsL pgB (l.drop 0) = res) := ⟨_, rfl⟩
  have hx0 : callsL pgB l = res := by rw [← HX.out, List.drop_zero]
  rw [hx0]
  have HRT := Lib.hid hr
  have CC := Lib.hid (fun w i hi h => rcalled_any k w R a cap l i hi hr hl h)
  clear hr hx0
  go_enter Try.func56, Try.ntmps56
  go_wp2_with fail
  go_loopw [3] (fun s3 wr => ∃ j : Nat, j ≤ l.length ∧ s3 = .int .i64 j ∧ Hid (callsL pgB (l.drop j) = res) ∧ Sat k wr R) (fun s3 _ => l.length - (intOf s3).toNat)
  case atStart => exact ⟨0, Nat.zero_le _, rfl, HX, h⟩
  case round =>
    clear h HX
    obtain ⟨j, hj, rfl, HR, hs⟩ := hrel
    by_cases hlt : j < l.length
    · have hlt' : (j : Int) < l.length := by omega
      have hst := callsL_step pgB l j hlt
      obtain ⟨g, o, rfl, c0, c1, c2⟩ := rdt_get HRT.out hs j hlt
      have C1 := CC.out wr j hlt hs
      generalize l[j].t = x at *
      generalize calledAt l j = ca at *
      cases ca with
      | false =>
        have HN : Hid (callsL pgB (l.drop (j + 1)) = res) := by unfold Hid; rw [← HR.out, hst]; simp
        have D1 := Lib.hid C1
        clear C1 hst HR c0 c2
        go_wp2_with (go_at_call 82; (with_reducible refine (D1.out).mono ?_); rintro e w5 ⟨rfl, rfl⟩)
        go_roundw
        case rel => exact ⟨j + 1, by omega, by go_num, HN, hs⟩
        case measure => simp [intOf]; omega
      | true =>
        have D1 := Lib.hid C1
        by_cases h3 : 3 ≤ x.size
        · have h3' : (3 : Int) ≤ x.size := by omega
          have hc : ((x.extract 0 3).toList == [112, 103, 95]) = pgB x := by
            have e : cPg.toList = [112, 103, 95] := by decide +kernel
            rw [← e]; exact pre_eq x cPg h3
          cases hp : pgB x with
          | true =>
            have hres : res = true := by rw [← HR.out, hst, hp]; simp
            subst hres
            rw [hp] at hc
            clear C1 hst HR c0 c2 hp
            go_wp2_with (go_at_call 82; (with_reducible refine (D1.out).mono ?_); rintro e w5 ⟨rfl, rfl⟩)
            go_ret
            exact ⟨rfl, hs⟩
          | false =>
            have HN : Hid (callsL pgB (l.drop (j + 1)) = res) := by unfold Hid; rw [← HR.out, hst, hp]; simp
            rw [hp] at hc
            clear C1 hst HR c0 c2 hp
            go_wp2_with (go_at_call 82; (with_reducible refine (D1.out).mono ?_); rintro e w5 ⟨rfl, rfl⟩)
            go_roundw
            case rel => exact ⟨j + 1, by omega, by go_num, HN, hs⟩
            case measure => simp [intOf]; omega
        · have h3' : ¬ (3 : Int) ≤ x.size := by omega
          have hp : pgB x = false := pre_short x cPg h3
          have HN : Hid (callsL pgB (l.drop (j + 1)) = res) := by unfold Hid; rw [← HR.out, hst, hp]; simp
          clear C1 hst HR c0 c2 hp h3
          go_wp2_with (go_at_call 82; (with_reducible refine (D1.out).mono ?_); rintro e w5 ⟨rfl, rfl⟩)
          go_roundw
          case rel => exact ⟨j + 1, by omega, by go_num, HN, hs⟩
          case measure => simp [intOf]; omega
    · have hres : res = false := by rw [← HR.out, List.drop_eq_nil_of_le (by omega)]; rfl
      subst hres
      have hlt' : ¬ (j : Int) < l.length := by omega
      clear HR hlt
      go_wp2_with fail
      go_ret
      exact ⟨rfl, hs⟩

theorem locksL_step (W : List ByteArray) (j : Nat) (h : j < W.length) : locksL (W.drop j) = ((decide (wAt W j = cFor) && memB (wAt W (j + 1)) lockW) || locksL (W.drop (j + 1))) := by
  have e0 : wAt W j = W[j] := by unfold wAt; rw [List.getElem?_eq_getElem h]; rfl
  rw [e0, List.drop_eq_getElem_cons h]
  by_cases h1 : j + 1 < W.length
  · have e1 : wAt W (j + 1) = W[j + 1] := by unfold wAt; rw [List.getElem?_eq_getElem h1]; rfl
    rw [e1, List.drop_eq_getElem_cons h1, locksL]
  · have e1 : wAt W (j + 1) = ⟨#[]⟩ := by unfold wAt; rw [List.getElem?_eq_none (by omega)]; rfl
    have e2 : memB ⟨#[]⟩ lockW = false := by decide +kernel
    rw [e1, e2, List.drop_eq_nil_of_le (by omega)]
    simp [locksL]

set_option maxRecDepth 100000 in
set_option maxHeartbeats 8000000 in
theorem rlocks_any (k : Env) (w : World) (R : Assn) (a : Option Addr) (cap : Nat) (l : List Tok) (hr : RdT k R a l) (hl : l.length ≤ 1000000) (h : Sat k w R) :
    Calls Try.prog 55 #[.slice a l.length cap] w fun e w' => e = .returned (.bool (locksL (l.map wd))) ∧ Sat k w' R := by
  obtain ⟨res, HX⟩ : ∃ res, Hid (locksL ((l.map wd).drop 0) = res) := ⟨_, rfl⟩
  have hx0 : locksL (l.map wd) = res := by rw [← HX.out, List.drop_zero]
  rw [hx0]
  have CW0 := fun w i h => rword_any k w R a cap l i hr hl h
  obtain ⟨W, hW⟩ : ∃ W, W = l.map wd := ⟨_, rfl⟩
  have hWl : W.length = l.length := by rw [hW, List.length_map]
  rw [← hW] at HX CW0
  have CW := Lib.hid CW0
  have HWL := Lib.hid hWl
  clear hr hx0 hW hWl CW0
  go_enter Try.func55, Try.ntmps55
  go_wp2_with fail
  go_loopw [3] (fun s3 wr => ∃ j : Nat, j ≤ l.length ∧ s3 = .int .i64 j ∧ Hid (locksL (W.drop j) = res) ∧ Sat k wr R) (fun s3 _ => l.length - (intOf s3).toNat)
  case atStart => exact ⟨0, Nat.zero_le _, rfl, HX, h⟩
  case round =>
    clear h HX
    obtain ⟨j, hj, rfl, HR, hs⟩ := hrel
    by_cases hlt : j < l.length
    · have hlt' : (j : Int) < l.length := by omega
      have HLT := Lib.hid hlt
      have hst := locksL_step W j (by have := HWL.out; omega)
      obtain ⟨n, hn⟩ : ∃ n, n = j + 1 := ⟨_, rfl⟩
      have hwn : IntKind.i64.wrap ((j : Int) + 1) = n := by rw [IntWalk.i64_in _ (by omega)]; omega
      rw [← hn] at hst
      have C1 := CW.out wr j hs
      have h4 : Sat k (wr.alloc (.cells #[.string ⟨#[117, 112, 100, 97, 116, 101]⟩, .string ⟨#[115, 104, 97, 114, 101]⟩, .string ⟨#[110, 111]⟩, .string ⟨#[107, 101, 121]⟩] 9)) (Strs (.slice (some ⟨wr.heap.size, 0, none⟩) 4 4) lockW * R) := strs_lit lockW (by decide) hs wr.heap.size rfl
      have C2 := CW.out (wr.alloc (.cells #[.string ⟨#[117, 112, 100, 97, 116, 101]⟩, .string ⟨#[115, 104, 97, 114, 101]⟩, .string ⟨#[110, 111]⟩, .string ⟨#[107, 101, 121]⟩] 9)) n h4.drop
      have C3 := rin_any k _ _ (some ⟨wr.heap.size, 0, none⟩) 4 lockW (wAt W n) (rd_own h4) (by decide) h4
      generalize wAt W j = x at *
      generalize wAt W n = y at *
      have hcf : (x.toList == [102, 111, 114]) = decide (x = cFor) := tl_const x cFor _ (by decide +kernel)
      have HN1 := Lib.hid hn
      have D1 := Lib.hid C1
      by_cases hf : x = cFor
      · rw [decide_eq_true hf] at hcf hst
        cases hmb : memB y lockW with
        | true =>
          have hres : res = true := by rw [← HR.out, hst, hmb]; rfl
          subst hres
          rw [hmb] at C3
          have D2 := Lib.hid C2
          have D3 := Lib.hid C3
          clear C1 C2 C3 hst HR hf hmb hn
          go_wp2_with (first | (go_at_call 53; (first | (with_reducible refine (D1.out).mono ?_) | (refine (D2.out).mono ?_)); rintro e w5 ⟨rfl, rfl⟩) | (go_at_call 81; (refine (D3.out).mono ?_); rintro e w6 ⟨rfl, h6⟩))
          go_ret
          exact ⟨rfl, h6.drop⟩
        | false =>
          have HN : Hid (locksL (W.drop n) = res) := by unfold Hid; rw [← HR.out, hst, hmb]; rfl
          rw [hmb] at C3
          have D2 := Lib.hid C2
          have D3 := Lib.hid C3
          clear C1 C2 C3 hst HR hf hmb hn
          go_wp2_with (first | (go_at_call 53; (first | (with_reducible refine (D1.out).mono ?_) | (refine (D2.out).mono ?_)); rintro e w5 ⟨rfl, rfl⟩) | (go_at_call 81; (refine (D3.out).mono ?_); rintro e w6 ⟨rfl, h6⟩))
          go_roundw
          case rel => exact ⟨n, by have := HLT.out; have := HN1.out; omega, rfl, HN, h6.drop⟩
          case measure => have := HLT.out; have := HN1.out; simp [intOf]; omega
      · rw [decide_eq_false hf] at hcf hst
        have HN : Hid (locksL (W.drop n) = res) := by unfold Hid; rw [← HR.out, hst]; rfl
        clear C1 C2 C3 hst HR hf hn
        go_wp2_with (go_at_call 53; (with_reducible refine (D1.out).mono ?_); rintro e w5 ⟨rfl, rfl⟩)
        go_roundw
        case rel => first | exact ⟨n, by have := HLT.out; have := HN1.out; omega, rfl, HN, h4.drop⟩ | exact ⟨n, by have := HLT.out; have := HN1.out; omega, rfl, HN, hs⟩
        case measure => have := HLT.out; have := HN1.out; simp [intOf]; omega
    · have hres : res = false := by rw [← HR.out, List.drop_eq_nil_of_le (by have := HWL.out; omega)]; rfl
      subst hres
      have hlt' : ¬ (j : Int) < l.length := by omega
      clear HR hlt
      go_wp2_with fail
      go_ret
      exact ⟨rfl, hs⟩

set_option maxRecDepth 100000 in
set_option maxHeartbeats 8000000 in
theorem rwrites_any (k : Env) (w : World) (R : Assn) (a : Option Addr) (cap : Nat) (l : List Tok) (hr : RdT k R a l) (hl : l.length ≤ 1000000) (h : Sat k w R) :
    Calls Try.prog 54 #[.slice a l.length cap] w fun e w' => e = .returned (.bool (writesL ⟨#[]⟩ (l.map wd))) ∧ Sat k w' R := by
  obtain ⟨res, HX⟩ : ∃ res, Hid (writesL ⟨#[]⟩ (l.map wd) = res) := ⟨_, rfl⟩
  rw [HX.out]
  have CW0 := fun w i h => rword_any k w R a cap l i hr hl h
  obtain ⟨W, hW⟩ : ∃ W, W = l.map wd := ⟨_, rfl⟩
  have hWl : W.length = l.length := by rw [hW, List.length_map]
  rw [← hW] at HX CW0
  have CP0 : ∀ (w : World) (j : Nat) (m : Int), m = (j : Int) - 1 → j ≤ l.length → Sat k w R → Calls Try.prog 53 #[.slice a l.length cap, .int .i64 m] w fun e w' => e = .returned (.string (pvW W j)) ∧ w = w' := by
    intro w j m hm hj h
    subst hm
    by_cases h0 : j = 0
    · subst h0
      exact rword_neg w a cap l.length
    · have e1 : ((j : Int) - 1) = ((j - 1 : Nat) : Int) := by omega
      have e2 : pvW W j = wAt W (j - 1) := by unfold pvW wAt; rw [if_neg h0]
      rw [e1, e2]
      exact CW0 w (j - 1) h
  have CW := Lib.hid CW0
  have CP := Lib.hid CP0
  have HWL := Lib.hid hWl
  clear hr hW hWl CW0 CP0
  go_enter Try.func54, Try.ntmps54
  go_wp2_with fail
  go_loopw [3] (fun s3 wr => ∃ j : Nat, j ≤ l.length ∧ s3 = .int .i64 j ∧ Hid (writesL (pvW W j) (W.drop j) = res) ∧ Sat k wr R) (fun s3 _ => l.length - (intOf s3).toNat)
  case atStart => exact ⟨0, Nat.zero_le _, rfl, HX, h⟩
  case round =>
    clear h HX
    obtain ⟨j, hj, rfl, HR, hs⟩ := hrel
    by_cases hlt : j < l.length
    · have hlt' : (j : Int) < l.length := by omega
      have HLT := Lib.hid hlt
      have hjW : j < W.length := by have := HWL.out; omega
      have hst := writesL_drop W j hjW
      obtain ⟨m, hm⟩ : ∃ m, m = (j : Int) - 1 := ⟨_, rfl⟩
      have hwm : IntKind.i64.wrap ((j : Int) - 1) = m := by rw [IntWalk.i64_in _ (by omega)]; omega
      have C1 := CW.out wr j hs
      have C0 := CP.out wr j m hm (by omega) hs
      have h4 : Sat k (wr.alloc (.cells #[.string ⟨#[105, 110, 115, 101, 114, 116]⟩, .string ⟨#[100, 101, 108, 101, 116, 101]⟩, .string ⟨#[109, 101, 114, 103, 101]⟩, .string ⟨#[105, 110, 116, 111]⟩] 9)) (Strs (.slice (some ⟨wr.heap.size, 0, none⟩) 4 4) writeW * R) := strs_lit writeW (by decide) hs wr.heap.size rfl
      have C2 := CW.out (wr.alloc (.cells #[.string ⟨#[105, 110, 115, 101, 114, 116]⟩, .string ⟨#[100, 101, 108, 101, 116, 101]⟩, .string ⟨#[109, 101, 114, 103, 101]⟩, .string ⟨#[105, 110, 116, 111]⟩] 9)) j h4.drop
      have C3 := rin_any k _ _ (some ⟨wr.heap.size, 0, none⟩) 4 writeW (wAt W j) (rd_own h4) (by decide) h4
      have ew : W[j] = wAt W j := by unfold wAt; rw [List.getElem?_eq_getElem hjW]; rfl
      rw [ew] at hst
      generalize wAt W j = x at *
      obtain ⟨p, hp⟩ : ∃ p, pvW W j = p := ⟨_, rfl⟩
      rw [hp] at C0 hst HR
      clear hp hm ew hjW
      have hcu : (x.toList == [117, 112, 100, 97, 116, 101]) = decide (x = cUpdate) := tl_const x cUpdate _ (by decide +kernel)
      have hcf : (p.toList == [102, 111, 114]) = decide (p = cFor) := tl_const p cFor _ (by decide +kernel)
      by_cases hA : x = cUpdate ∧ p ≠ cFor
      · rw [decide_eq_true hA.1] at hcu hst
        rw [decide_eq_false hA.2] at hcf hst
        have hres : res = true := by rw [← HR.out, hst]; rfl
        subst hres
        have D1 := Lib.hid C1
        have D2 := Lib.hid C0
        clear C0 C1 C2 C3 hst HR hA hlt
        go_wp2_with (go_at_call 53; (first | (with_reducible refine (D1.out).mono ?_) | (with_reducible refine (D2.out).mono ?_)); rintro e w5 ⟨rfl, rfl⟩)
        go_ret
        exact ⟨rfl, hs⟩
      · have hfirst : (decide (x = cUpdate) && !decide (p = cFor)) = false := by
          rw [Bool.eq_false_iff]
          intro q
          simp only [Bool.and_eq_true, Bool.not_eq_true', decide_eq_true_eq, decide_eq_false_iff_not] at q
          exact hA ⟨q.1, q.2⟩
        rw [hfirst] at hst
        have hB : (decide (x = cUpdate) = true ∧ decide (p = cFor) = true) ∨ decide (x = cUpdate) = false := by
          by_cases hx : x = cUpdate
          · left
            exact ⟨decide_eq_true hx, decide_eq_true (Classical.byContradiction fun q => hA ⟨hx, q⟩)⟩
          · right; exact decide_eq_false hx
        cases hmb : memB x writeW with
        | true =>
          have hres : res = true := by rw [← HR.out, hst, hmb]; rfl
          subst hres
          rw [hmb] at C3
          have D1 := Lib.hid C1
          have D0 := Lib.hid C0
          have D2 := Lib.hid C2
          have D3 := Lib.hid C3
          clear C0 C1 C2 C3 hst HR hmb hA hfirst hlt
          rcases hB with ⟨b1, b2⟩ | b1
          · rw [b1] at hcu
            rw [b2] at hcf
            clear b1 b2
            go_wp2_with (first | (go_at_call 53; (first | (with_reducible refine (D1.out).mono ?_) | (with_reducible refine (D0.out).mono ?_) | (refine (D2.out).mono ?_)); rintro e w5 ⟨rfl, rfl⟩) | (go_at_call 81; (refine (D3.out).mono ?_); rintro e w6 ⟨rfl, h6⟩))
            go_ret
            exact ⟨rfl, h6.drop⟩
          · rw [b1] at hcu
            clear b1
            go_wp2_with (first | (go_at_call 53; (first | (with_reducible refine (D1.out).mono ?_) | (refine (D2.out).mono ?_)); rintro e w5 ⟨rfl, rfl⟩) | (go_at_call 81; (refine (D3.out).mono ?_); rintro e w6 ⟨rfl, h6⟩))
            go_ret
            exact ⟨rfl, h6.drop⟩
        | false =>
          have HN : Hid (writesL (pvW W (j + 1)) (W.drop (j + 1)) = res) := by unfold Hid; rw [← HR.out, hst, hmb]; rfl
          rw [hmb] at C3
          have D1 := Lib.hid C1
          have D0 := Lib.hid C0
          have D2 := Lib.hid C2
          have D3 := Lib.hid C3
          clear C0 C1 C2 C3 hst HR hmb hA hfirst hlt
          rcases hB with ⟨b1, b2⟩ | b1
          · rw [b1] at hcu
            rw [b2] at hcf
            clear b1 b2
            go_wp2_with (first | (go_at_call 53; (first | (with_reducible refine (D1.out).mono ?_) | (with_reducible refine (D0.out).mono ?_) | (refine (D2.out).mono ?_)); rintro e w5 ⟨rfl, rfl⟩) | (go_at_call 81; (refine (D3.out).mono ?_); rintro e w6 ⟨rfl, h6⟩))
            go_roundw
            case rel => exact ⟨j + 1, by have := HLT.out; omega, by go_num, HN, h6.drop⟩
            case measure => have := HLT.out; simp [intOf]; omega
          · rw [b1] at hcu
            clear b1
            go_wp2_with (first | (go_at_call 53; (first | (with_reducible refine (D1.out).mono ?_) | (refine (D2.out).mono ?_)); rintro e w5 ⟨rfl, rfl⟩) | (go_at_call 81; (refine (D3.out).mono ?_); rintro e w6 ⟨rfl, h6⟩))
            go_roundw
            case rel => exact ⟨j + 1, by have := HLT.out; omega, by go_num, HN, h6.drop⟩
            case measure => have := HLT.out; simp [intOf]; omega
    · have hres : res = false := by rw [← HR.out, List.drop_eq_nil_of_le (by have := HWL.out; omega)]; rfl
      subst hres
      have hlt' : ¬ (j : Int) < l.length := by omega
      clear HR hlt
      go_wp2_with fail
      go_ret
      exact ⟨rfl, hs⟩

theorem memB_drop (s : ByteArray) (W : List ByteArray) (j : Nat) (h : j < W.length) : memB s (W.drop j) = (decide (W[j] = s) || memB s (W.drop (j + 1))) := by
  rw [List.drop_eq_getElem_cons h]
  unfold memB
  rw [List.any_cons]

set_option maxRecDepth 100000 in
set_option maxHeartbeats 8000000 in
theorem rhas_to (k : Env) (w : World) (R : Assn) (a b : Option Addr) (cap cb : Nat) (l : List Tok) (hr : RdT k R a l) (hb : Rd k R b [cTo]) (hl : l.length ≤ 1000000) (h : Sat k w R) :
    Calls Try.prog 58 #[.slice a l.length cap, .slice b 1 cb] w fun e w' => e = .returned (.bool (memB cTo (l.map wd))) ∧ Sat k w' R := by
  obtain ⟨res, HX⟩ : ∃ res, Hid (memB cTo ((l.map wd).drop 0) = res) := ⟨_, rfl⟩
  have hx0 : memB cTo (l.map wd) = res := by rw [← HX.out, List.drop_zero]
  rw [hx0]
  have HRT := Lib.hid hr
  have CI := Lib.hid (fun w s h => rin_any k w R b cb [cTo] s hb (by decide) h)
  have hLW : Hid ((l.map wd).length = l.length) := List.length_map _
  clear hr hb hx0
  go_enter Try.func58, Try.ntmps58
  go_wp2_with fail
  go_loopw [5] (fun s5 wr => ∃ j : Nat, j ≤ l.length ∧ s5 = .int .i64 j ∧ Hid (memB cTo ((l.map wd).drop j) = res) ∧ Sat k wr R) (fun s5 _ => l.length - (intOf s5).toNat)
  case atStart => exact ⟨0, Nat.zero_le _, rfl, HX, h⟩
  case round =>
    clear h HX
    obtain ⟨j, hj, rfl, HR, hs⟩ := hrel
    by_cases hlt : j < l.length
    · have hlt' : (j : Int) < l.length := by omega
      have hst := memB_drop cTo (l.map wd) j (by have := hLW.out; omega)
      rw [List.getElem_map] at hst
      obtain ⟨g, o, rfl, c0, c1, c2⟩ := rdt_get HRT.out hs j hlt
      have C1 := CI.out wr l[j].t hs
      generalize l[j] = x at *
      obtain ⟨xk, xt, xa⟩ := x
      simp only at c0 c1 c2 C1
      have hwd : wd ⟨xk, xt, xa⟩ = if xk = 1 then xt else ⟨#[]⟩ := rfl
      rw [hwd] at hst
      have hm1 : memB xt [cTo] = decide (xt = cTo) := by
        unfold memB
        simp only [List.any_cons, List.any_nil, Bool.or_false]
        rw [Bool.eq_iff_iff, decide_eq_true_eq, decide_eq_true_eq, eq_comm]
      rw [hm1] at C1
      have HLT := Lib.hid hlt
      by_cases hk : xk = 1
      · have b1 : (xk == 1) = true := by simp [hk]
        rw [if_pos hk] at hst
        cases hd : decide (xt = cTo) with
        | true =>
          have hres : res = true := by rw [← HR.out, hst, hd]; rfl
          subst hres
          rw [hd] at C1
          have D1 := Lib.hid C1
          clear C1 hst HR hm1 hd hk hwd hlt
          go_wp2_with (go_at_call 81; (refine (D1.out).mono ?_); rintro e w6 ⟨rfl, h6⟩)
          go_ret
          exact ⟨rfl, h6⟩
        | false =>
          have HN : Hid (memB cTo ((l.map wd).drop (j + 1)) = res) := by unfold Hid; rw [← HR.out, hst, hd]; rfl
          rw [hd] at C1
          have D1 := Lib.hid C1
          clear C1 hst HR hm1 hd hk hwd hlt
          go_wp2_with (go_at_call 81; (refine (D1.out).mono ?_); rintro e w6 ⟨rfl, h6⟩)
          go_roundw
          case rel => exact ⟨j + 1, by have := HLT.out; omega, by go_num, HN, h6⟩
          case measure => have := HLT.out; simp [intOf]; omega
      · have b1 : (xk == 1) = false := by simpa using hk
        rw [if_neg hk] at hst
        have hne : decide ((⟨#[]⟩ : ByteArray) = cTo) = false := by decide +kernel
        have HN : Hid (memB cTo ((l.map wd).drop (j + 1)) = res) := by unfold Hid; rw [← HR.out, hst, hne]; rfl
        clear C1 hst HR hm1 hk hwd hlt hne
        go_wp2_with fail
        go_roundw
        case rel => exact ⟨j + 1, by have := HLT.out; omega, by go_num, HN, hs⟩
        case measure => have := HLT.out; simp [intOf]; omega
    · have hres : res = false := by rw [← HR.out, List.drop_eq_nil_of_le (by have := hLW.out; omega)]; rfl
      subst hres
      have hlt' : ¬ (j : Int) < l.length := by omega
      clear HR hlt
      go_wp2_with fail
      go_ret
      exact ⟨rfl, hs⟩

end Go.Proofs.Ytkjhfpjjcagecaa
