/- Contracts of the document's class (pontoonref06): in, word, Has, called, Calls, system. -/
import Derived.Test.YtkjhfpjjcagecaaClassD
namespace Go.Proofs.Ytkjhfpjjcagecaa
set_option linter.all false
open Go Go.RowKit

set_option maxHeartbeats 2000000 in
theorem rin_any (k : Env) (w : World) (R : Assn) (a : Option Addr) (cap : Nat) (l : List ByteArray) (s : ByteArray) (hr : Rd k R a l) (hn : l.length ≤ 1000000000) (h : Sat k w R) :
    Calls Try.prog 81 #[.slice a l.length cap, .string s] w fun e w' => e = .returned (.bool (memB s l)) ∧ Sat k w' R := by
  have HR := Lib.hid hr
  clear hr
  go_enter Try.func81, Try.ntmps81
  go_wp2_with fail
  go_loopw [5] (fun i wr => ∃ j : Nat, j ≤ l.length ∧ i = .int .i64 j ∧ Hid (memB s (l.take j) = false) ∧ Sat k wr R) (fun i _ => l.length - (intOf i).toNat)
  case atStart => exact ⟨0, Nat.zero_le _, rfl, rfl, h⟩
  case round =>
    clear h
    obtain ⟨j, hj, rfl, HB, hs⟩ := hrel
    by_cases hlt : j < l.length
    · have hlt' : (j : Int) < l.length := by omega
      obtain ⟨g, o, rfl, d⟩ := rd_get HR.out hs j hlt
      have HSN : Hid (memB s (l.take (j + 1)) = (memB s (l.take j) || decide (l[j] = s))) := by
        have hsn : l.take (j + 1) = l.take j ++ [l[j]] := by rw [List.take_succ]; simp [hlt]
        unfold Hid; rw [hsn, memB_snoc]
      have HM : Hid (l[j] ∈ l) := List.getElem_mem hlt
      generalize l[j] = x at *
      have hcmp : (x.toList == s.toList) = decide (x = s) := tl_beq _ _
      by_cases hx : x = s
      · rw [decide_eq_true hx] at hcmp
        have HX := Lib.hid hx
        clear hx
        have HT : Hid (memB s l = true) := by
          have h1 := HM.out
          have h2 := HX.out
          rw [h2] at h1
          exact memB_iff.2 h1
        go_wp2_with fail
        go_ret
        exact ⟨by rw [HT.out]; rfl, hs⟩
      · rw [decide_eq_false hx] at hcmp
        rw [decide_eq_false hx] at HSN
        have HX := Lib.hid hx
        clear hx
        go_wp2_with fail
        go_roundw
        case rel => exact ⟨j + 1, by omega, by go_num, by unfold Hid; rw [HSN.out, HB.out]; rfl, hs⟩
        case measure => simp [intOf]; omega
    · have hjl : j = l.length := by omega
      subst hjl
      rw [List.take_length] at HB
      go_wp2_with fail
      go_ret
      exact ⟨by rw [HB.out]; rfl, hs⟩

def wAt (W : List ByteArray) (i : Nat) : ByteArray := (W[i]?).getD ⟨#[]⟩
theorem wAt_lt (l : List Tok) (i : Nat) (h : i < l.length) : wAt (l.map wd) i = wd l[i] := by
  unfold wAt; rw [List.getElem?_map, List.getElem?_eq_getElem h]; rfl
theorem wAt_ge (l : List Tok) (i : Nat) (h : ¬ i < l.length) : wAt (l.map wd) i = ⟨#[]⟩ := by
  unfold wAt; rw [List.getElem?_map, List.getElem?_eq_none (by omega)]; rfl

set_option maxHeartbeats 2000000 in
theorem rword_any (k : Env) (w : World) (R : Assn) (a : Option Addr) (cap : Nat) (l : List Tok) (i : Nat) (hr : RdT k R a l) (hl : l.length ≤ 1000000) (h : Sat k w R) :
    Calls Try.prog 53 #[.slice a l.length cap, .int .i64 i] w fun e w' => e = .returned (.string (wAt (l.map wd) i)) ∧ w = w' := by
  by_cases hlt : i < l.length
  · have hlt' : (i : Int) < l.length := by omega
    have hge : ¬ (l.length : Int) ≤ i := by omega
    have hi0 : ¬ (i : Int) < 0 := by omega
    rw [wAt_lt l i hlt]
    obtain ⟨g, o, rfl, c0, c1, c2⟩ := rdt_get hr h i hlt
    generalize l[i] = x at *
    obtain ⟨xk, xt, xa⟩ := x
    simp only at c0 c1 c2
    have hw : wd ⟨xk, xt, xa⟩ = if xk = 1 then xt else ⟨#[]⟩ := rfl
    rw [hw]
    by_cases hk : xk = 1
    · have b1 : (xk == 1) = true := by simp [hk]
      have b2 : (xk != 1) = false := by simp [hk]
      rw [if_pos hk]
      clear hk hw hr h
      go_enter Try.func53, Try.ntmps53
      go_wp2
      go_ret
      exact ⟨rfl, rfl⟩
    · have b1 : (xk == 1) = false := by simpa using hk
      have b2 : (xk != 1) = true := by simpa using hk
      rw [if_neg hk]
      clear hk hw hr h
      go_enter Try.func53, Try.ntmps53
      go_wp2
      go_ret
      exact ⟨rfl, rfl⟩
  · have hlt' : ¬ (i : Int) < l.length := by omega
    have hge : (l.length : Int) ≤ i := by omega
    rw [wAt_ge l i hlt]
    clear hr h hlt
    go_enter Try.func53, Try.ntmps53
    go_wp2
    go_ret
    exact ⟨rfl, rfl⟩
theorem rword_neg (w : World) (a : Option Addr) (cap n : Nat) : Calls Try.prog 53 #[.slice a n cap, .int .i64 (-1)] w fun e w' => e = .returned (.string ⟨#[]⟩) ∧ w = w' := by
  go_enter Try.func53, Try.ntmps53
  go_wp2
  go_ret
  exact ⟨rfl, rfl⟩

def calledAt (l : List Tok) (j : Nat) : Bool := match l.drop j with
  | a :: b :: _ => decide (a.k = 1) && isOpen b
  | _ => false
theorem callsL_step (so : ByteArray → Bool) (l : List Tok) (j : Nat) (h : j < l.length) : callsL so (l.drop j) = ((calledAt l j && so l[j].t) || callsL so (l.drop (j + 1))) := by
  unfold calledAt
  rw [List.drop_eq_getElem_cons h]
  match hq : l.drop (j + 1) with
  | [] => simp [callsL]
  | b :: r =>
    rw [callsL]
    simp only
    congr 1
    rw [Bool.eq_iff_iff]
    simp only [Bool.and_eq_true]
    constructor
    · rintro ⟨⟨h1, h2⟩, h3⟩; exact ⟨⟨h2, h1⟩, h3⟩
    · rintro ⟨⟨h1, h2⟩, h3⟩; exact ⟨⟨h2, h1⟩, h3⟩
theorem open_eq (k : Int) (t : ByteArray) (p : Int) : isOpen ⟨k, t, p⟩ = ((k == 5) && (t.toList == [40])) := by
  unfold isOpen
  rw [tl_const t (mk [40]) [40] (by decide +kernel)]
  congr 1

set_option maxRecDepth 100000 in
set_option maxHeartbeats 4000000 in
theorem rcalled_any (k : Env) (w : World) (R : Assn) (a : Option Addr) (cap : Nat) (l : List Tok) (i : Nat) (hi : i < l.length) (hr : RdT k R a l) (hl : l.length ≤ 1000000) (h : Sat k w R) :
    Calls Try.prog 82 #[.slice a l.length cap, .int .i64 i] w fun e w' => e = .returned (.bool (calledAt l i)) ∧ w = w' := by
  have hi' : (i : Int) < l.length := by omega
  obtain ⟨n, hn⟩ : ∃ n, n = i + 1 := ⟨_, rfl⟩
  have hwn : IntKind.i64.wrap ((i : Int) + 1) = n := by rw [IntWalk.i64_in _ (by omega)]; omega
  obtain ⟨g, o, rfl, hat⟩ := rdt_at hr (by rintro rfl; simp at hi)
  obtain ⟨c0, c1, c2⟩ := hat w h i hi
  by_cases hlt : n < l.length
  · have hlt' : (n : Int) < l.length := by omega
    obtain ⟨e0, e1, e2⟩ := hat w h n hlt
    have hca : calledAt l i = (decide (l[i].k = 1) && isOpen l[n]) := by
      unfold calledAt
      subst hn
      rw [List.drop_eq_getElem_cons hi, List.drop_eq_getElem_cons hlt]
    rw [hca]
    generalize l[i] = x at *
    generalize l[n] = y at *
    obtain ⟨xk, xt, xa⟩ := x
    obtain ⟨yk, yt, ya⟩ := y
    simp only at c0 c1 c2 e0 e1 e2
    rw [open_eq]
    clear hn hat hr h hca
    by_cases hk : xk = 1
    · have b1 : (xk == 1) = true := by simp [hk]
      rw [decide_eq_true hk]
      clear hk
      cases b2 : (yk == 5) with
      | false =>
        go_enter Try.func82, Try.ntmps82
        go_wp2
        go_ret
        exact ⟨rfl, rfl⟩
      | true =>
        go_enter Try.func82, Try.ntmps82
        go_wp2
        go_ret
        exact ⟨rfl, rfl⟩
    · have b1 : (xk == 1) = false := by simpa using hk
      rw [decide_eq_false hk]
      clear hk
      go_enter Try.func82, Try.ntmps82
      go_wp2
      go_ret
      exact ⟨rfl, rfl⟩
  · have hlt' : ¬ (n : Int) < l.length := by omega
    have hca : calledAt l i = false := by
      unfold calledAt
      rw [List.drop_eq_getElem_cons hi, List.drop_eq_nil_of_le (by omega)]
    rw [hca]
    generalize l[i] = x at *
    obtain ⟨xk, xt, xa⟩ := x
    simp only at c0 c1 c2
    clear hn hat hr h hca hlt
    cases b1 : (xk == 1) with
    | true =>
      go_enter Try.func82, Try.ntmps82
      go_wp2
      go_ret
      exact ⟨rfl, rfl⟩
    | false =>
      go_enter Try.func82, Try.ntmps82
      go_wp2
      go_ret
      exact ⟨rfl, rfl⟩

set_option maxRecDepth 100000 in
set_option maxHeartbeats 4000000 in
theorem rcalls_any (k : Env) (w : World) (R : Assn) (a b : Option Addr) (cap cb : Nat) (l : List Tok) (names : List ByteArray) (hr : RdT k R a l) (hb : Rd k R b names) (hl : l.length ≤ 1000000) (hn : names.length ≤ 1000000) (h : Sat k w R) :
    Calls Try.prog 57 #[.slice a l.length cap, .slice b names.length cb] w fun e w' => e = .returned (.bool (callsL (fun s => memB s names) l)) ∧ Sat k w' R := by
  obtain ⟨res, HX⟩ : ∃ res, Hid (callsL (fun s => memB s names) (l.drop 0) = res) := ⟨_, rfl⟩
  have hx0 : callsL (fun s => memB s names) l = res := by rw [← HX.out, List.drop_zero]
  rw [hx0]
  have HRT := Lib.hid hr
  have CI := Lib.hid (fun w s h => rin_any k w R b cb names s hb (by omega) h)
  have CC := Lib.hid (fun w i hi h => rcalled_any k w R a cap l i hi hr hl h)
  clear hr hb hx0
  go_enter Try.func57, Try.ntmps57
  go_wp2_with fail
  go_loopw [5] (fun s5 wr => ∃ j : Nat, j ≤ l.length ∧ s5 = .int .i64 j ∧ Hid (callsL (fun s => memB s names) (l.drop j) = res) ∧ Sat k wr R) (fun s5 _ => l.length - (intOf s5).toNat)
  case atStart => exact ⟨0, Nat.zero_le _, rfl, HX, h⟩
  case round =>
    clear h HX
    obtain ⟨j, hj, rfl, HR, hs⟩ := hrel
    by_cases hlt : j < l.length
    · have hlt' : (j : Int) < l.length := by omega
      have hst := callsL_step (fun s => memB s names) l j hlt
      obtain ⟨g, o, rfl, c0, c1, c2⟩ := rdt_get HRT.out hs j hlt
      have C1 := CC.out wr j hlt hs
      have C2 := CI.out wr l[j].t hs
      generalize l[j].t = x at *
      generalize calledAt l j = ca at *
      cases ca with
      | false =>
        have HN : Hid (callsL (fun s => memB s names) (l.drop (j + 1)) = res) := by unfold Hid; rw [← HR.out, hst]; simp
        have D1 := Lib.hid C1
        clear C1 C2 hst HR c0 c2
        go_wp2_with (go_at_call 82; (with_reducible refine (D1.out).mono ?_); rintro e w5 ⟨rfl, rfl⟩)
        go_roundw
        case rel => exact ⟨j + 1, by omega, by go_num, HN, hs⟩
        case measure => simp [intOf]; omega
      | true =>
        cases hm : memB x names with
        | true =>
          have hres : res = true := by rw [← HR.out, hst, hm]; simp
          subst hres
          rw [hm] at C2
          have D1 := Lib.hid C1
          have D2 := Lib.hid C2
          clear C1 C2 hst HR c0 c2 hm
          go_wp2_with (first | (go_at_call 82; (with_reducible refine (D1.out).mono ?_); rintro e w5 ⟨rfl, rfl⟩) | (go_at_call 81; (with_reducible refine (D2.out).mono ?_); rintro e w6 ⟨rfl, h6⟩))
          go_ret
          exact ⟨rfl, h6⟩
        | false =>
          have HN : Hid (callsL (fun s => memB s names) (l.drop (j + 1)) = res) := by unfold Hid; rw [← HR.out, hst, hm]; simp
          rw [hm] at C2
          have D1 := Lib.hid C1
          have D2 := Lib.hid C2
          clear C1 C2 hst HR c0 c2 hm
          go_wp2_with (first | (go_at_call 82; (with_reducible refine (D1.out).mono ?_); rintro e w5 ⟨rfl, rfl⟩) | (go_at_call 81; (with_reducible refine (D2.out).mono ?_); rintro e w6 ⟨rfl, h6⟩))
          go_roundw
          case rel => exact ⟨j + 1, by omega, by go_num, HN, h6⟩
          case measure => simp [intOf]; omega
    · have hres : res = false := by rw [← HR.out, List.drop_eq_nil_of_le (by omega)]; rfl
      subst hres
      have hlt' : ¬ (j : Int) < l.length := by omega
      clear HR hlt
      go_wp2_with fail
      go_ret
      exact ⟨rfl, hs⟩

end Go.Proofs.Ytkjhfpjjcagecaa
