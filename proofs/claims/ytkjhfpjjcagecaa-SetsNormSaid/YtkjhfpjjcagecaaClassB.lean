/- Contracts of package class: changing, Locks, calls, writes. -/
import Derived.Test.YtkjhfpjjcagecaaClassA
namespace Go.Proofs.Ytkjhfpjjcagecaa
set_option linter.all false
open Go Go.RowKit

abbrev nameW : List ByteArray := [⟨#[110, 111, 119]⟩, ⟨#[114, 97, 110, 100, 111, 109]⟩, ⟨#[110, 101, 120, 116, 118, 97, 108]⟩, ⟨#[99, 117, 114, 114, 118, 97, 108]⟩, ⟨#[115, 101, 116, 118, 97, 108]⟩, ⟨#[108, 97, 115, 116, 118, 97, 108]⟩, ⟨#[99, 108, 111, 99, 107, 95, 116, 105, 109, 101, 115, 116, 97, 109, 112]⟩, ⟨#[116, 120, 105, 100, 95, 99, 117, 114, 114, 101, 110, 116]⟩]
def pgB (s : ByteArray) : Bool := (bl cPg).isPrefixOf (bl s)
def chB (s : ByteArray) : Bool := pgB s || memB s nameW

set_option maxHeartbeats 2000000 in
theorem changing_any (k : Env) (w : World) (R : Assn) (s : ByteArray) (hs : s.size ≤ 1000000000) (h : Sat k w R) :
    Calls Try.prog 74 #[.string s] w fun e w' => e = .returned (.bool (chB s)) ∧ Sat k w' R := by
  have h2 : Sat k (w.alloc (.cells #[.string ⟨#[110, 111, 119]⟩, .string ⟨#[114, 97, 110, 100, 111, 109]⟩, .string ⟨#[110, 101, 120, 116, 118, 97, 108]⟩, .string ⟨#[99, 117, 114, 114, 118, 97, 108]⟩, .string ⟨#[115, 101, 116, 118, 97, 108]⟩, .string ⟨#[108, 97, 115, 116, 118, 97, 108]⟩, .string ⟨#[99, 108, 111, 99, 107, 95, 116, 105, 109, 101, 115, 116, 97, 109, 112]⟩, .string ⟨#[116, 120, 105, 100, 95, 99, 117, 114, 114, 101, 110, 116]⟩] 9)) (Strs (.slice (some ⟨w.heap.size, 0, none⟩) 8 8) nameW * R) := strs_lit nameW (by decide) h w.heap.size rfl
  have C := cin_any k _ _ (some ⟨w.heap.size, 0, none⟩) 8 nameW s (rd_own h2) (by decide) h2
  have hch : chB s = (pgB s || memB s nameW) := rfl
  rw [hch]
  generalize memB s nameW = m at *
  by_cases h3 : 3 ≤ s.size
  · have h3' : (3 : Int) ≤ s.size := by omega
    have hp := pre_eq s cPg h3
    have hc : ((s.extract 0 3).toList == [112, 103, 95]) = pgB s := by
      have e : cPg.toList = [112, 103, 95] := by decide +kernel
      rw [← e]; exact hp
    generalize pgB s = p at *
    clear hp hch
    cases p with
    | true =>
      go_enter Try.func74, Try.ntmps74
      go_wp2_with fail
      go_ret
      exact ⟨rfl, h⟩
    | false =>
      have D := Lib.hid C
      clear C
      go_enter Try.func74, Try.ntmps74
      go_wp2_with (go_at_call 49; (refine (D.out).mono ?_); rintro e w2 ⟨rfl, h4⟩)
      go_ret
      exact ⟨rfl, h4.drop⟩
  · have h3' : ¬ (3 : Int) ≤ s.size := by omega
    have hp : pgB s = false := pre_short s cPg h3
    rw [hp]
    have D := Lib.hid C
    clear C h3 hp hch
    go_enter Try.func74, Try.ntmps74
    go_wp2_with (go_at_call 49; (refine (D.out).mono ?_); rintro e w2 ⟨rfl, h4⟩)
    go_ret
    exact ⟨rfl, h4.drop⟩

theorem locksL_drop (l : List ByteArray) (j : Nat) (h1 : 1 ≤ j) (h : j < l.length) : locksL (l.drop (j - 1)) = ((decide (l[j - 1]'(by omega) = cFor) && memB l[j] lockW) || locksL (l.drop j)) := by
  rw [List.drop_eq_getElem_cons (by omega : j - 1 < l.length)]
  rw [show j - 1 + 1 = j by omega, List.drop_eq_getElem_cons h, locksL]
theorem locksL_end (l : List ByteArray) (j : Nat) (h1 : 1 ≤ j) (h : l.length ≤ j) : locksL (l.drop (j - 1)) = false := by
  have : (l.drop (j - 1)).length ≤ 1 := by rw [List.length_drop]; omega
  match hq : l.drop (j - 1), this with
  | [], _ => rfl
  | [a], _ => rfl

set_option maxRecDepth 100000 in
set_option maxHeartbeats 8000000 in
theorem locks_any (k : Env) (w : World) (R : Assn) (a : Option Addr) (cap : Nat) (l : List Tok) (hr : RdT k R a l) (hl : l.length ≤ 1000000) (h : Sat k w R) :
    Calls Try.prog 72 #[.slice a l.length cap] w fun e w' => e = .returned (.bool (locksL (l.map wd))) ∧ Sat k w' R := by
  have CW := Lib.hid (words_any k w R a cap l hr hl h)
  obtain ⟨res, HX⟩ : ∃ res, Hid (locksL (l.map wd) = res) := ⟨_, rfl⟩
  rw [HX.out]
  clear hr h
  go_enter Try.func72, Try.ntmps72
  go_wp2_with (go_at_call 47; (with_reducible refine (CW.out).mono ?_); rintro e w2 ⟨b, rfl, h2⟩)
  obtain ⟨W, hW⟩ : ∃ W, W = l.map wd := ⟨_, rfl⟩
  have hWl : W.length = l.length := by rw [hW, List.length_map]
  rw [← hW] at h2 HX
  rw [← hWl] at h2 ⊢
  have hWb : W.length ≤ 1000000 := by omega
  clear hW hWl hl CW
  have HRW := Lib.hid (rd_own h2)
  go_loopw [4] (fun s4 wr => ∃ j : Nat, 1 ≤ j ∧ j ≤ W.length + 1 ∧ s4 = .int .i64 j ∧ Hid (locksL (W.drop (j - 1)) = res) ∧ Sat k wr (Strs (.slice b W.length W.length) W * R)) (fun s4 _ => W.length + 1 - (intOf s4).toNat)
  case atStart => exact ⟨1, Nat.le_refl _, by omega, rfl, HX, h2⟩
  case round =>
    clear h2 HX
    obtain ⟨j, hj, hj2, rfl, HR, hs⟩ := hrel
    by_cases hlt : j < W.length
    · have hlt' : (j : Int) < W.length := by omega
      have hst := locksL_drop W j hj hlt
      obtain ⟨m, hm⟩ : ∃ m, m = j - 1 := ⟨_, rfl⟩
      have hml : m < W.length := by omega
      have hmI : (m : Int) < W.length := by omega
      have hwm : IntKind.i64.wrap ((j : Int) - 1) = m := by rw [IntWalk.i64_in _ (by omega)]; omega
      simp only [← hm] at hst
      obtain ⟨g, o, hg, d0⟩ := rd_get HRW.out hs m hml
      obtain ⟨g', o', hg', d1⟩ := rd_get HRW.out hs j hlt
      obtain rfl : b = some ⟨g, o, none⟩ := hg
      obtain ⟨rfl, rfl⟩ : g = g' ∧ o = o' := by simpa using hg'
      clear hg'
      have hcf : (W[m].toList == [102, 111, 114]) = decide (W[m] = cFor) := tl_const _ cFor _ (by decide +kernel)
      have h4 : Sat k (wr.alloc (.cells #[.string ⟨#[117, 112, 100, 97, 116, 101]⟩, .string ⟨#[115, 104, 97, 114, 101]⟩, .string ⟨#[110, 111]⟩, .string ⟨#[107, 101, 121]⟩] 9)) (Strs (.slice (some ⟨wr.heap.size, 0, none⟩) 4 4) lockW * (Strs (.slice (some ⟨g, o, none⟩) W.length W.length) W * R)) := strs_lit lockW (by decide) hs wr.heap.size rfl
      have C := cin_any k _ _ (some ⟨wr.heap.size, 0, none⟩) 4 lockW W[j] (rd_own h4) (by decide) h4
      generalize W[m] = x at *
      generalize W[j] = y at *
      have HM := Lib.hid hm
      by_cases hf : x = cFor
      · rw [decide_eq_true hf] at hcf hst
        cases hmb : memB y lockW with
        | true =>
          have hres : res = true := by rw [← HR.out, hm.symm] ; rw [hst, hmb]; rfl
          subst hres
          rw [hmb] at C
          have D := Lib.hid C
          clear C hst HR hf hm hmb
          go_wp2_with (go_at_call 49; (refine (D.out).mono ?_); rintro e w5 ⟨rfl, h5⟩)
          go_ret
          exact ⟨rfl, h5.drop.drop⟩
        | false =>
          have HN : Hid (locksL (W.drop j) = res) := by unfold Hid; rw [← HR.out, hm.symm, hst, hmb]; rfl
          rw [hmb] at C
          have D := Lib.hid C
          clear C hst HR hf hm hmb
          go_wp2_with (go_at_call 49; (refine (D.out).mono ?_); rintro e w5 ⟨rfl, h5⟩)
          go_roundw
          case rel => exact ⟨j + 1, by omega, by omega, by go_num, HN, h5.drop⟩
          case measure => simp [intOf]; omega
      · rw [decide_eq_false hf] at hcf hst
        have HN : Hid (locksL (W.drop j) = res) := by unfold Hid; rw [← HR.out, hm.symm, hst]; rfl
        clear C hst HR hf hm h4
        go_wp2_with fail
        go_roundw
        case rel => exact ⟨j + 1, by omega, by omega, by go_num, HN, hs⟩
        case measure => simp [intOf]; omega
    · have hres : res = false := by rw [← HR.out]; exact locksL_end W j hj (by omega)
      subst hres
      have hlt' : ¬ (j : Int) < W.length := by omega
      clear HR hlt
      go_wp2_with fail
      go_ret
      exact ⟨rfl, hs.drop⟩

theorem callsL_drop (so : ByteArray → Bool) (l : List Tok) (j : Nat) (h1 : 1 ≤ j) (h : j < l.length) : callsL so (l.drop (j - 1)) = ((isOpen l[j] && decide ((l[j - 1]'(by omega)).k = 1) && so (l[j - 1]'(by omega)).t) || callsL so (l.drop j)) := by
  rw [List.drop_eq_getElem_cons (by omega : j - 1 < l.length)]
  rw [show j - 1 + 1 = j by omega, List.drop_eq_getElem_cons h, callsL]
theorem callsL_end (so : ByteArray → Bool) (l : List Tok) (j : Nat) (h1 : 1 ≤ j) (h : l.length ≤ j) : callsL so (l.drop (j - 1)) = false := by
  have : (l.drop (j - 1)).length ≤ 1 := by rw [List.length_drop]; omega
  match hq : l.drop (j - 1), this with
  | [], _ => rfl
  | [a], _ => rfl

set_option maxRecDepth 100000 in
set_option maxHeartbeats 8000000 in
theorem calls_any (k : Env) (w : World) (R : Assn) (a : Option Addr) (cap : Nat) (l : List Tok) (hr : RdT k R a l) (hl : l.length ≤ 1000000) (hT : ∀ x ∈ l, x.t.size ≤ 1000000) (h : Sat k w R) :
    Calls Try.prog 73 #[.slice a l.length cap, .func (.func 74) #[] #[]] w fun e w' => e = .returned (.bool (callsL chB l)) ∧ Sat k w' R := by
  obtain ⟨res, HX⟩ : ∃ res, Hid (callsL chB l = res) := ⟨_, rfl⟩
  rw [HX.out]
  have HRT := Lib.hid hr
  have HT := Lib.hid hT
  have CC := Lib.hid (fun w' s hs h' => changing_any k w' R s hs h')
  clear hr hT
  go_enter Try.func73, Try.ntmps73
  go_wp2_with fail
  go_loopw [5] (fun s5 wr => ∃ j : Nat, 1 ≤ j ∧ j ≤ l.length + 1 ∧ s5 = .int .i64 j ∧ Hid (callsL chB (l.drop (j - 1)) = res) ∧ Sat k wr R) (fun s5 _ => l.length + 1 - (intOf s5).toNat)
  case atStart => exact ⟨1, Nat.le_refl _, by omega, rfl, HX, h⟩
  case round =>
    clear h HX
    obtain ⟨j, hj, hj2, rfl, HR, hs⟩ := hrel
    by_cases hlt : j < l.length
    · have hlt' : (j : Int) < l.length := by omega
      have hst := callsL_drop chB l j hj hlt
      obtain ⟨m, hm⟩ : ∃ m, m = j - 1 := ⟨_, rfl⟩
      have hml : m < l.length := by omega
      have hmI : (m : Int) < l.length := by omega
      have hwm : IntKind.i64.wrap ((j : Int) - 1) = m := by rw [IntWalk.i64_in _ (by omega)]; omega
      simp only [← hm] at hst
      have hne : l ≠ [] := by rintro rfl; simp at hlt
      obtain ⟨g, o, rfl, hat⟩ := rdt_at HRT.out hne
      obtain ⟨c0, c1, c2⟩ := hat wr hs j hlt
      obtain ⟨e0, e1, e2⟩ := hat wr hs m hml
      have hts := HT.out l[m] (List.getElem_mem hml)
      clear hat
      generalize l[m] = x at *
      generalize l[j] = y at *
      obtain ⟨xk, xt, xa⟩ := x
      obtain ⟨yk, yt, ya⟩ := y
      simp only at c0 c1 c2 e0 e1 e2 hst hts
      have hopen : isOpen ⟨yk, yt, ya⟩ = ((yk == 5) && (yt.toList == [40])) := by
        unfold isOpen
        rw [tl_const yt (mk [40]) [40] (by decide +kernel)]
        congr 1
      rw [hopen] at hst
      have HM := Lib.hid hm
      have C := CC.out wr xt (by omega) hs
      cases b1 : (yk == 5) with
      | false =>
        rw [b1] at hst
        have HN : Hid (callsL chB (l.drop j) = res) := by unfold Hid; rw [← HR.out, hm.symm, hst]; simp
        clear hst HR hm C hopen
        go_wp2_with fail
        go_roundw
        case rel => exact ⟨j + 1, by omega, by omega, by go_num, HN, hs⟩
        case measure => simp [intOf]; omega
      | true =>
        cases b2 : (yt.toList == [40]) with
        | false =>
          rw [b1, b2] at hst
          have HN : Hid (callsL chB (l.drop j) = res) := by unfold Hid; rw [← HR.out, hm.symm, hst]; simp
          clear hst HR hm C hopen
          go_wp2_with fail
          go_roundw
          case rel => exact ⟨j + 1, by omega, by omega, by go_num, HN, hs⟩
          case measure => simp [intOf]; omega
        | true =>
          by_cases k1 : xk = 1
          · have b3 : (xk == 1) = true := by simp [k1]
            rw [b1, b2, decide_eq_true k1] at hst
            cases hch : chB xt with
            | true =>
              have hres : res = true := by rw [← HR.out, hm.symm, hst, hch]; simp
              subst hres
              rw [hch] at C
              have D := Lib.hid C
              clear C hst HR hm hopen hch k1
              go_wp2_with (go_at_call 74; (with_reducible refine (D.out).mono ?_); rintro e w5 ⟨rfl, h5⟩)
              go_ret
              exact ⟨rfl, h5⟩
            | false =>
              have HN : Hid (callsL chB (l.drop j) = res) := by unfold Hid; rw [← HR.out, hm.symm, hst, hch]; simp
              rw [hch] at C
              have D := Lib.hid C
              clear C hst HR hm hopen hch k1
              go_wp2_with (go_at_call 74; (with_reducible refine (D.out).mono ?_); rintro e w5 ⟨rfl, h5⟩)
              go_roundw
              case rel => exact ⟨j + 1, by omega, by omega, by go_num, HN, h5⟩
              case measure => simp [intOf]; omega
          · have b3 : (xk == 1) = false := by simpa using k1
            rw [decide_eq_false k1] at hst
            have HN : Hid (callsL chB (l.drop j) = res) := by unfold Hid; rw [← HR.out, hm.symm, hst]; simp
            clear hst HR hm C hopen k1
            go_wp2_with fail
            go_roundw
            case rel => exact ⟨j + 1, by omega, by omega, by go_num, HN, hs⟩
            case measure => simp [intOf]; omega
    · have hres : res = false := by rw [← HR.out]; exact callsL_end chB l j hj (by omega)
      subst hres
      have hlt' : ¬ (j : Int) < l.length := by omega
      clear HR hlt
      go_wp2_with fail
      go_ret
      exact ⟨rfl, hs⟩

end Go.Proofs.Ytkjhfpjjcagecaa
