/- Contracts of package class: query, Of. -/
import Derived.Test.YtkjhfpjjcagecaaClassC
import Derived.Deep.RegionHeld3
namespace Go.Proofs.Ytkjhfpjjcagecaa
set_option linter.all false
open Go Go.RowKit

abbrev cSelect : ByteArray := ⟨#[115, 101, 108, 101, 99, 116]⟩
abbrev cValues : ByteArray := ⟨#[118, 97, 108, 117, 101, 115]⟩
abbrev cTable : ByteArray := ⟨#[116, 97, 98, 108, 101]⟩
abbrev cWith : ByteArray := ⟨#[119, 105, 116, 104]⟩
abbrev cStart : ByteArray := ⟨#[115, 116, 97, 114, 116]⟩
abbrev cTrans : ByteArray := ⟨#[116, 114, 97, 110, 115, 97, 99, 116, 105, 111, 110]⟩
abbrev cRoll : ByteArray := ⟨#[114, 111, 108, 108, 98, 97, 99, 107]⟩
abbrev cAbort : ByteArray := ⟨#[97, 98, 111, 114, 116]⟩

def queryC (l : List Tok) : Int := if writesL ⟨#[]⟩ (l.map wd) = true then 2 else if (locksL (l.map wd) || callsL chB l) = true then 7 else 1
def firstC (s : ByteArray) : Int := (mget s firstL).getD 8
def qW : List ByteArray := [cSelect, cValues, cTable, cWith]
def classL (l : List Tok) : Int := match l with
  | [] => 0
  | x :: r =>
    if memB (wd x) qW = true then queryC (x :: r)
    else if wd x = cStart ∧ (r.map wd).head? = some cTrans then 3
    else if (wd x = cRoll ∨ wd x = cAbort) ∧ memB cTo ((x :: r).map wd) = false then 5
    else firstC (wd x)

set_option maxHeartbeats 2000000 in
theorem query_any (k : Env) (w : World) (R : Assn) (a : Option Addr) (cap : Nat) (l : List Tok) (hr : RdT k R a l) (hl : l.length ≤ 1000000) (hT : ∀ x ∈ l, x.t.size ≤ 1000000) (h : Sat k w R) :
    Calls Try.prog 48 #[.slice a l.length cap] w fun e w' => e = .returned (.int .i64 (queryC l)) ∧ Sat k w' R := by
  have C1 := Lib.hid (fun w h => writes_any k w R a cap l hr hl h)
  have C2 := Lib.hid (fun w h => locks_any k w R a cap l hr hl h)
  have C3 := Lib.hid (fun w h => calls_any k w R a cap l hr hl hT h)
  have HQ : queryC l = if writesL ⟨#[]⟩ (l.map wd) = true then 2 else if (locksL (l.map wd) || callsL chB l) = true then 7 else 1 := rfl
  rw [HQ]
  generalize writesL ⟨#[]⟩ (l.map wd) = b1 at *
  generalize locksL (l.map wd) = b2 at *
  generalize callsL chB l = b3 at *
  clear hr hT HQ
  cases b1
  · cases b2
    · cases b3
      all_goals
        go_enter Try.func48, Try.ntmps48
        go_wp2_with (first | (go_at_call 71; (with_reducible refine (C1.out _ h).mono ?_); rintro e w1 ⟨rfl, h1⟩) | (go_at_call 72; (with_reducible refine (C2.out _ h1).mono ?_); rintro e w2 ⟨rfl, h2⟩) | (go_at_call 73; (with_reducible refine (C3.out _ h2).mono ?_); rintro e w3 ⟨rfl, h3⟩))
        go_ret
        exact ⟨rfl, h3⟩
    · go_enter Try.func48, Try.ntmps48
      go_wp2_with (first | (go_at_call 71; (with_reducible refine (C1.out _ h).mono ?_); rintro e w1 ⟨rfl, h1⟩) | (go_at_call 72; (with_reducible refine (C2.out _ h1).mono ?_); rintro e w2 ⟨rfl, h2⟩))
      go_ret
      exact ⟨rfl, h2⟩
  · go_enter Try.func48, Try.ntmps48
    go_wp2_with (go_at_call 71; (with_reducible refine (C1.out _ h).mono ?_); rintro e w1 ⟨rfl, h1⟩)
    go_ret
    exact ⟨rfl, h1⟩

set_option maxRecDepth 100000 in
set_option maxHeartbeats 8000000 in
theorem of_any (k : Env) (w : World) (R : Assn) (a : Option Addr) (cap : Nat) (l : List Tok) (hr : RdT k R a l) (hl : l.length ≤ 1000000) (hT : ∀ x ∈ l, x.t.size ≤ 1000000) (h : Sat k w R) :
    Calls Try.prog 33 #[.slice a l.length cap] w fun e w' => e = .returned (.int .i64 (classL l)) ∧ Sat k w' R := by
  obtain ⟨res, hres⟩ : ∃ res, classL l = res := ⟨_, rfl⟩
  rw [hres]
  cases l with
  | nil =>
    have : res = 0 := hres.symm
    subst this
    go_enter Try.func33, Try.ntmps33
    go_wp2_with fail
    go_ret
    exact ⟨rfl, h⟩
  | cons x r =>
    have hcl : res = if memB (wd x) qW = true then queryC (x :: r) else if wd x = cStart ∧ (r.map wd).head? = some cTrans then 3 else if (wd x = cRoll ∨ wd x = cAbort) ∧ memB cTo ((x :: r).map wd) = false then 5 else firstC (wd x) := hres.symm
    clear hres
    generalize hL : x :: r = L at *
    have hL0 : 0 < L.length := by rw [← hL]; simp
    have CW := Lib.hid (words_any k w R a cap L hr hl h)
    have CQ := Lib.hid (fun w' b => query_any k w' (Strs b (L.map wd) * R) a cap L (hr.mono fun _ q => q.drop) hl hT)
    obtain ⟨W, hW⟩ : ∃ W, W = L.map wd := ⟨_, rfl⟩
    have hWl : W.length = L.length := by rw [hW, List.length_map]
    have hW0 : 0 < W.length := by omega
    have e0 : wd x = W[0] := by subst hW; subst hL; rfl
    have e1 : (r.map wd).head? = W[1]? := by subst hW; subst hL; simp [List.head?_eq_getElem?]
    rw [e0, e1, ← hW] at hcl
    rw [← hW] at CW CQ
    have HLN : (0 : Int) < L.length := by omega
    have hne : ((L.length : Int) == 0) = false := by rw [beq_eq_false_iff_ne]; omega
    clear hW hL e0 e1 h hr hT x r
    have HCL := Lib.hid hcl
    go_enter Try.func33, Try.ntmps33
    go_upto_region 4 with (go_at_call 47; (with_reducible refine (CW.out).mono ?_); rintro e w2 ⟨b, rfl, h2⟩)
    rw [← hWl] at h2 CQ ⊢
    have hWb : W.length ≤ 1000000 := by omega
    have HRW := Lib.hid (rd_own h2)
    obtain ⟨g, o, hg, d0⟩ := rd_get HRW.out h2 0 hW0
    obtain rfl : b = some ⟨g, o, none⟩ := hg
    simp only [Nat.add_zero] at d0
    have HD1 : Hid (∀ (h1 : 1 < W.length), w2.cell? ⟨g, o + 1, none⟩ = some (.string W[1])) := by
      intro h1
      obtain ⟨g', o', hg', d1⟩ := rd_get HRW.out h2 1 h1
      obtain ⟨rfl, rfl⟩ : g = g' ∧ o = o' := by simpa using hg'
      exact d1
    have hW0I : (0 : Int) < W.length := by omega
    obtain ⟨w0, hw0⟩ : ∃ w0, W[0] = w0 := ⟨_, rfl⟩
    rw [hw0] at d0 HCL
    have HD0 : Hid (∀ w', Sat k w' (Strs (.slice (some ⟨g, o, none⟩) W.length W.length) W * R) → w'.cell? ⟨g, o, none⟩ = some (.string w0)) := by
      intro w' h'
      obtain ⟨g', o', hg', d'⟩ := rd_get HRW.out h' 0 hW0
      obtain ⟨rfl, rfl⟩ : g = g' ∧ o = o' := by simpa using hg'
      rw [← hw0]
      simpa using d'
    clear hWl hL0 hl CW HLN hne hw0 hcl
    go_upto_block 0 with fail
    go_cut [] (fun wx => Hid (res = firstC w0) ∧ Sat k wx (Strs (.slice (some ⟨g, o, none⟩) W.length W.length) W * R))
    case first =>
      have f_cSelect := tl_const w0 cSelect [115, 101, 108, 101, 99, 116] (by decide +kernel)
      have f_cValues := tl_const w0 cValues [118, 97, 108, 117, 101, 115] (by decide +kernel)
      have f_cTable := tl_const w0 cTable [116, 97, 98, 108, 101] (by decide +kernel)
      have f_cWith := tl_const w0 cWith [119, 105, 116, 104] (by decide +kernel)
      have f_cStart := tl_const w0 cStart [115, 116, 97, 114, 116] (by decide +kernel)
      have f_cRoll := tl_const w0 cRoll [114, 111, 108, 108, 98, 97, 99, 107] (by decide +kernel)
      have f_cAbort := tl_const w0 cAbort [97, 98, 111, 114, 116] (by decide +kernel)
      by_cases c_cSelect : w0 = cSelect
      · have hres : res = queryC L := by rw [HCL.out, if_pos (by rw [c_cSelect]; decide +kernel)]
        subst hres
        rw [decide_eq_true c_cSelect] at f_cSelect
        clear f_cValues f_cTable f_cWith f_cStart f_cRoll f_cAbort c_cSelect HD1 HD0 HCL
        go_wp2_with (go_at_call 48; (refine (CQ.out _ _ h2).mono ?_); rintro e w3 ⟨rfl, h3⟩)
        go_ret
        exact ⟨rfl, h3.drop⟩
      by_cases c_cValues : w0 = cValues
      · have hres : res = queryC L := by rw [HCL.out, if_pos (by rw [c_cValues]; decide +kernel)]
        subst hres
        rw [decide_eq_true c_cValues] at f_cValues
        rw [decide_eq_false c_cSelect] at f_cSelect
        clear f_cTable f_cWith f_cStart f_cRoll f_cAbort c_cSelect c_cValues HD1 HD0 HCL
        go_wp2_with (go_at_call 48; (refine (CQ.out _ _ h2).mono ?_); rintro e w3 ⟨rfl, h3⟩)
        go_ret
        exact ⟨rfl, h3.drop⟩
      by_cases c_cTable : w0 = cTable
      · have hres : res = queryC L := by rw [HCL.out, if_pos (by rw [c_cTable]; decide +kernel)]
        subst hres
        rw [decide_eq_true c_cTable] at f_cTable
        rw [decide_eq_false c_cSelect] at f_cSelect
        rw [decide_eq_false c_cValues] at f_cValues
        clear f_cWith f_cStart f_cRoll f_cAbort c_cSelect c_cValues c_cTable HD1 HD0 HCL
        go_wp2_with (go_at_call 48; (refine (CQ.out _ _ h2).mono ?_); rintro e w3 ⟨rfl, h3⟩)
        go_ret
        exact ⟨rfl, h3.drop⟩
      by_cases c_cWith : w0 = cWith
      · have hres : res = queryC L := by rw [HCL.out, if_pos (by rw [c_cWith]; decide +kernel)]
        subst hres
        rw [decide_eq_true c_cWith] at f_cWith
        rw [decide_eq_false c_cSelect] at f_cSelect
        rw [decide_eq_false c_cValues] at f_cValues
        rw [decide_eq_false c_cTable] at f_cTable
        clear f_cStart f_cRoll f_cAbort c_cSelect c_cValues c_cTable c_cWith HD1 HD0 HCL
        go_wp2_with (go_at_call 48; (refine (CQ.out _ _ h2).mono ?_); rintro e w3 ⟨rfl, h3⟩)
        go_ret
        exact ⟨rfl, h3.drop⟩
      have hq : ¬ memB w0 qW = true := by
        intro q
        rw [memB_iff] at q
        simp only [qW, List.mem_cons, List.not_mem_nil, or_false] at q
        rcases q with q | q | q | q
        · exact c_cSelect q
        · exact c_cValues q
        · exact c_cTable q
        · exact c_cWith q
      have hcl := HCL.out
      rw [if_neg hq] at hcl
      rw [decide_eq_false c_cSelect] at f_cSelect
      rw [decide_eq_false c_cValues] at f_cValues
      rw [decide_eq_false c_cTable] at f_cTable
      rw [decide_eq_false c_cWith] at f_cWith
      clear c_cSelect c_cValues c_cTable c_cWith hq HCL CQ
      by_cases c_cStart : w0 = cStart
      · rw [decide_eq_true c_cStart] at f_cStart
        have hnr : ¬ ((w0 = cRoll ∨ w0 = cAbort) ∧ memB cTo W = false) := by
          rintro ⟨q | q, _⟩
          · rw [c_cStart] at q; exact absurd q (by decide +kernel)
          · rw [c_cStart] at q; exact absurd q (by decide +kernel)
        by_cases h1 : 1 < W.length
        · have h1I : (1 : Int) < W.length := by omega
          have d1 := HD1.out h1
          have e1 : W[1]? = some W[1] := List.getElem?_eq_getElem h1
          rw [e1] at hcl
          have f1 := tl_const W[1] cTrans [116, 114, 97, 110, 115, 97, 99, 116, 105, 111, 110] (by decide +kernel)
          generalize W[1] = x1 at *
          by_cases ct : x1 = cTrans
          · have hres : res = 3 := by rw [hcl, if_pos ⟨c_cStart, by rw [ct]⟩]
            subst hres
            rw [decide_eq_true ct] at f1
            clear hcl c_cStart ct hnr f_cRoll f_cAbort HD1 HD0 e1
            go_wp2_with fail
            go_ret
            exact ⟨rfl, h2.drop⟩
          · have HF : Hid (res = firstC w0) := by unfold Hid; rw [hcl, if_neg (fun q => ct (Option.some.inj q.2)), if_neg hnr]
            rw [decide_eq_false ct] at f1
            clear hcl c_cStart ct hnr f_cRoll f_cAbort HD1 HD0 e1
            go_wp2_with fail
            go_meet
            case rel => exact ⟨HF, h2⟩
        · have h1I : ¬ (1 : Int) < W.length := by omega
          have HF : Hid (res = firstC w0) := by
            unfold Hid
            rw [hcl, if_neg, if_neg hnr]
            rintro ⟨_, q⟩
            rw [List.getElem?_eq_none (by omega)] at q
            cases q
          clear hcl c_cStart hnr f_cRoll f_cAbort HD1 HD0 h1
          go_wp2_with fail
          go_meet
          case rel => exact ⟨HF, h2⟩
      rw [decide_eq_false c_cStart] at f_cStart
      rw [if_neg (fun q => c_cStart q.1)] at hcl
      have CI := cin_any k w2 _ (some ⟨g, o, none⟩) W.length W cTo HRW.out (by omega) h2
      by_cases cra : w0 = cRoll ∨ w0 = cAbort
      · have fra : ((w0.toList == [114, 111, 108, 108, 98, 97, 99, 107]) = true) ∨ ((w0.toList == [114, 111, 108, 108, 98, 97, 99, 107]) = false ∧ (w0.toList == [97, 98, 111, 114, 116]) = true) := by
          rcases cra with q | q
          · left; rw [f_cRoll, decide_eq_true q]
          · right; rw [f_cRoll, f_cAbort, decide_eq_true q]; exact ⟨by rw [q]; decide +kernel, rfl⟩
        cases hmb : memB cTo W with
        | true =>
          have HF : Hid (res = firstC w0) := by unfold Hid; rw [hcl, if_neg (fun q => by rw [hmb] at q; cases q.2)]
          rw [hmb] at CI
          have D := Lib.hid CI
          clear CI hmb hcl cra f_cRoll f_cAbort HD1 HD0 c_cStart
          rcases fra with f1 | ⟨f1, f2⟩
          all_goals
            go_wp2_with (go_at_call 49; (refine (D.out).mono ?_); rintro e w3 ⟨rfl, h3⟩)
            go_meet
            case rel => exact ⟨HF, h3⟩
        | false =>
          have hres : res = 5 := by rw [hcl, if_pos ⟨cra, hmb⟩]
          subst hres
          rw [hmb] at CI
          have D := Lib.hid CI
          clear CI hmb hcl cra f_cRoll f_cAbort HD1 HD0 c_cStart
          rcases fra with f1 | ⟨f1, f2⟩
          all_goals
            go_wp2_with (go_at_call 49; (refine (D.out).mono ?_); rintro e w3 ⟨rfl, h3⟩)
            go_ret
            exact ⟨rfl, h3.drop⟩
      · have HF : Hid (res = firstC w0) := by unfold Hid; rw [hcl, if_neg (fun q => cra q.1)]
        rw [decide_eq_false (fun q => cra (.inl q))] at f_cRoll
        rw [decide_eq_false (fun q => cra (.inr q))] at f_cAbort
        clear CI hcl cra HD1 HD0 c_cStart
        go_wp2_with fail
        go_meet
        case rel => exact ⟨HF, h2⟩
    case rest => as_aux_lemma =>
      clear h2 HCL HD1 d0 CQ
      obtain ⟨HF, h3⟩ := hcut
      have d0 := HD0.out _ h3
      have CF := Lib.hid (fun w' h => firsts_any k w' (Strs (.slice (some ⟨g, o, none⟩) W.length W.length) W * R) h)
      have HG : Hid (∀ w' m, Sat k w' (MapK Value.string m (hents firstL) * (Strs (.slice (some ⟨g, o, none⟩) W.length W.length) W * R)) → (Instr.lookup 43 (.map (some m)) (.string w0) true).run Try.prog w' = .ok (.tuple #[.int .i64 ((mget w0 firstL).getD 0), .bool (mget w0 firstL).isSome]) w') := by
        intro w' m h'
        have hl := run_lookup_ok_sat KStrT mapHa zeroInt h' w0
        rw [hents_get] at hl
        rw [hl]
        cases mget w0 firstL <;> rfl
      have hfc : firstC w0 = (mget w0 firstL).getD 8 := rfl
      cases hmg : mget w0 firstL with
      | none =>
        rw [hmg] at hfc HG
        have hres : res = 8 := HF.out.trans hfc
        subst hres
        clear hfc hmg HF
        go_wp2_with fail
        go_region_held3 (fun w' => w'.cell? ⟨g, o, none⟩ = some (.string w0)) (first | exact d0 | exact HD0.out _ h4.drop | fail) (first | (go_at_call 50; (with_reducible refine (CF.out _ h3.drew).mono ?_); rintro e w4 ⟨m, rfl, h4⟩; have hlk := HG.out _ _ h4) | fail)
        go_wp2_with fail
        go_ret
        exact ⟨rfl, h4.drop.drop⟩
      | some v =>
        rw [hmg] at hfc HG
        have hres : res = v := HF.out.trans hfc
        subst hres
        clear hfc hmg HF
        go_wp2_with fail
        go_region_held3 (fun w' => w'.cell? ⟨g, o, none⟩ = some (.string w0)) (first | exact d0 | exact HD0.out _ h4.drop | fail) (first | (go_at_call 50; (with_reducible refine (CF.out _ h3.drew).mono ?_); rintro e w4 ⟨m, rfl, h4⟩; have hlk := HG.out _ _ h4) | fail)
        go_wp2_with fail
        go_ret
        exact ⟨rfl, h4.drop.drop⟩

end Go.Proofs.Ytkjhfpjjcagecaa
