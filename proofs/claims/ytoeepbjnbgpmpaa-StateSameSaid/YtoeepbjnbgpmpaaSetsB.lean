/- Contracts: sets.text.word, part; pontoonref07.part, name. -/
import Derived.Test.YtoeepbjnbgpmpaaSetsA
import Derived.Deep.RegionHeld3
namespace Go.Proofs.Ytoeepbjnbgpmpaa
set_option linter.all false
open Go Go.RowKit

def anyW (l : List Tok) (i : Int) (W : List ByteArray) : Bool := W.any fun s => wdAt l i s
theorem anyW_drop (l : List Tok) (i : Int) (W : List ByteArray) (j : Nat) (h : j < W.length) : anyW l i (W.drop j) = (wdAt l i W[j] || anyW l i (W.drop (j + 1))) := by
  rw [List.drop_eq_getElem_cons h]
  unfold anyW
  rw [List.any_cons]

set_option maxRecDepth 100000 in
set_option maxHeartbeats 4000000 in
theorem wordn_any (k : Env) (w : World) (R : Assn) (a b : Option Addr) (cap cb : Nat) (l : List Tok) (i : Int) (W : List ByteArray) (hr : RdT k R a l) (hb : Rd k R b W) (hW : W.length ≤ 1000000) (h : Sat k w R) :
    Calls Try.prog 76 #[.slice a l.length cap, .int .i64 i, .slice b W.length cb] w fun e w' => e = .returned (.bool (anyW l i W)) ∧ Sat k w' R := by
  obtain ⟨res, HX⟩ : ∃ res, Hid (anyW l i (W.drop 0) = res) := ⟨_, rfl⟩
  have hx0 : anyW l i W = res := by rw [← HX.out, List.drop_zero]
  rw [hx0]
  have HRB := Lib.hid hb
  have CI := Lib.hid (fun w s h => is_any k w R a cap l i 1 s hr h)
  clear hr hb hx0
  go_enter Try.func76, Try.ntmps76
  go_wp2_with fail
  go_loopw [8, 11] (fun _ s11 wr => ∃ j : Nat, j ≤ W.length ∧ s11 = .int .i64 j ∧ Hid (anyW l i (W.drop j) = res) ∧ Sat k wr R) (fun _ s11 _ => W.length - (intOf s11).toNat)
  case atStart => exact ⟨0, Nat.zero_le _, rfl, HX, h⟩
  case round =>
    clear h HX
    obtain ⟨j, hj, rfl, HR, hs⟩ := hrel
    by_cases hlt : j < W.length
    · have hlt' : (j : Int) < W.length := by omega
      have hst : anyW l i (W.drop j) = (isAt l i 1 W[j] || anyW l i (W.drop (j + 1))) := anyW_drop l i W j hlt
      obtain ⟨g, o, rfl, d⟩ := rd_get HRB.out hs j hlt
      have C1 := CI.out wr W[j] hs
      have HLT := Lib.hid hlt
      generalize W[j] = x at *
      generalize isAt l i 1 x = bx at *
      cases bx with
      | true =>
        have hres : res = true := by rw [← HR.out, hst]; rfl
        subst hres
        have D1 := Lib.hid C1
        clear C1 hst HR hlt
        go_wp2_with (go_at_call 91; (with_reducible refine (D1.out).mono ?_); rintro e w5 ⟨rfl, rfl⟩)
        go_ret
        exact ⟨rfl, hs⟩
      | false =>
        have HN : Hid (anyW l i (W.drop (j + 1)) = res) := by unfold Hid; rw [← HR.out, hst]; rfl
        have D1 := Lib.hid C1
        clear C1 hst HR hlt
        go_wp2_with (go_at_call 91; (with_reducible refine (D1.out).mono ?_); rintro e w5 ⟨rfl, rfl⟩)
        go_roundw
        case rel => exact ⟨j + 1, by have := HLT.out; omega, by go_num, HN, hs⟩
        case measure => have := HLT.out; simp [intOf]; omega
    · have hres : res = false := by rw [← HR.out, List.drop_eq_nil_of_le (by omega)]; rfl
      subst hres
      have hlt' : ¬ (j : Int) < W.length := by omega
      clear HR hlt
      go_wp2_with fail
      go_ret
      exact ⟨rfl, hs⟩

theorem word1_any (k : Env) (w : World) (R : Assn) (a : Option Addr) (cap : Nat) (l : List Tok) (i : Int) (s : ByteArray) (hr : RdT k R a l) (h : Sat k w R) :
    Calls Try.prog 76 #[.slice a l.length cap, .int .i64 i, .slice (some ⟨w.heap.size, 0, none⟩) 1 1] (w.alloc (.cells #[.string s] 9)) fun e w' => e = .returned (.bool (wdAt l i s)) ∧ Sat k w' R := by
  have h8 : Sat k (w.alloc (.cells #[.string s] 9)) (Strs (.slice (some ⟨w.heap.size, 0, none⟩) 1 1) [s] * R) := strs_lit [s] (by simp [maxLen]) h w.heap.size rfl
  refine (wordn_any k _ (Strs (.slice (some ⟨w.heap.size, 0, none⟩) 1 1) [s] * R) a _ cap 1 l i [s] (hr.mono fun _ q => q.drop) (rd_own h8) (by simp) h8).mono fun _ _ ⟨p, q⟩ => ⟨?_, q.drop⟩
  rw [p]
  simp [anyW]
theorem word2_any (k : Env) (w : World) (R : Assn) (a : Option Addr) (cap : Nat) (l : List Tok) (i : Int) (s t : ByteArray) (hr : RdT k R a l) (h : Sat k w R) :
    Calls Try.prog 76 #[.slice a l.length cap, .int .i64 i, .slice (some ⟨w.heap.size, 0, none⟩) 2 2] (w.alloc (.cells #[.string s, .string t] 9)) fun e w' => e = .returned (.bool (wdAt l i s || wdAt l i t)) ∧ Sat k w' R := by
  have h8 : Sat k (w.alloc (.cells #[.string s, .string t] 9)) (Strs (.slice (some ⟨w.heap.size, 0, none⟩) 2 2) [s, t] * R) := strs_lit [s, t] (by simp [maxLen]) h w.heap.size rfl
  refine (wordn_any k _ (Strs (.slice (some ⟨w.heap.size, 0, none⟩) 2 2) [s, t] * R) a _ cap 2 l i [s, t] (hr.mono fun _ q => q.drop) (rd_own h8) (by simp) h8).mono fun _ _ ⟨p, q⟩ => ⟨?_, q.drop⟩
  rw [p]
  simp [anyW]
theorem word3_any (k : Env) (w : World) (R : Assn) (a : Option Addr) (cap : Nat) (l : List Tok) (i : Int) (s t u : ByteArray) (hr : RdT k R a l) (h : Sat k w R) :
    Calls Try.prog 76 #[.slice a l.length cap, .int .i64 i, .slice (some ⟨w.heap.size, 0, none⟩) 3 3] (w.alloc (.cells #[.string s, .string t, .string u] 9)) fun e w' => e = .returned (.bool (wdAt l i s || wdAt l i t || wdAt l i u)) ∧ Sat k w' R := by
  have h8 : Sat k (w.alloc (.cells #[.string s, .string t, .string u] 9)) (Strs (.slice (some ⟨w.heap.size, 0, none⟩) 3 3) [s, t, u] * R) := strs_lit [s, t, u] (by simp [maxLen]) h w.heap.size rfl
  refine (wordn_any k _ (Strs (.slice (some ⟨w.heap.size, 0, none⟩) 3 3) [s, t, u] * R) a _ cap 3 l i [s, t, u] (hr.mono fun _ q => q.drop) (rd_own h8) (by simp) h8).mono fun _ _ ⟨p, q⟩ => ⟨?_, q.drop⟩
  rw [p]
  simp [anyW, Bool.or_assoc]

set_option maxRecDepth 100000 in
set_option maxHeartbeats 4000000 in
theorem part_any (k : Env) (w : World) (R : Assn) (a : Option Addr) (cap : Nat) (l : List Tok) (i : Nat) (hr : RdT k R a l) (h : Sat k w R) :
    Calls Try.prog 92 #[.slice a l.length cap, .int .i64 i] w fun e w' => e = .returned (.bool (partAt l i)) ∧ w = w' := by
  by_cases hlt : i < l.length
  · have hlt' : (i : Int) < l.length := by omega
    obtain ⟨g, o, rfl, c0, c1, c2⟩ := rdt_get hr h i hlt
    rw [partAt_lt l i hlt]
    generalize l[i] = x at *
    obtain ⟨xk, xt, xa⟩ := x
    simp only at c0 c1 c2
    have hp : partB ⟨xk, xt, xa⟩ = (decide (xk = 2) || (decide (xk = 1) && !keyB xt)) := rfl
    rw [hp]
    have b1 : (xk == 1) = decide (xk = 1) := by rw [Bool.eq_iff_iff]; simp
    have b2 : (xk == 2) = decide (xk = 2) := by rw [Bool.eq_iff_iff]; simp
    have C1 := key_any w xt
    clear hr h hp
    generalize keyB xt = kb at *
    cases h2 : decide (xk = 2) with
    | true =>
      rw [h2] at b2
      clear h2 C1 b1
      go_enter Try.func92, Try.ntmps92
      go_wp2
      go_ret
      exact ⟨rfl, rfl⟩
    | false =>
      rw [h2] at b2
      clear h2
      cases h1 : decide (xk = 1) with
      | true =>
        rw [h1] at b1
        clear h1
        have D1 := Lib.hid C1
        clear C1
        cases kb with
        | true =>
          go_enter Try.func92, Try.ntmps92
          go_wp2_with (go_at_call 98; (with_reducible refine (D1.out).mono ?_); rintro e w5 ⟨rfl, rfl⟩)
          go_ret
          exact ⟨rfl, rfl⟩
        | false =>
          go_enter Try.func92, Try.ntmps92
          go_wp2_with (go_at_call 98; (with_reducible refine (D1.out).mono ?_); rintro e w5 ⟨rfl, rfl⟩)
          go_ret
          exact ⟨rfl, rfl⟩
      | false =>
        rw [h1] at b1
        clear h1 C1
        go_enter Try.func92, Try.ntmps92
        go_wp2
        go_ret
        exact ⟨rfl, rfl⟩
  · have hlt' : ¬ (i : Int) < l.length := by omega
    rw [partAt_ge l i hlt]
    clear hr h hlt
    go_enter Try.func92, Try.ntmps92
    go_wp2
    go_ret
    exact ⟨rfl, rfl⟩

set_option maxRecDepth 100000 in
set_option maxHeartbeats 4000000 in
theorem rpart_any (k : Env) (w : World) (R : Assn) (a : Option Addr) (cap : Nat) (l : List Tok) (i : Nat) (hr : RdT k R a l) (h : Sat k w R) :
    Calls Try.prog 95 #[.slice a l.length cap, .int .i64 i] w fun e w' => e = .returned (.bool (partAt l i)) ∧ Sat k w' R := by
  by_cases hlt : i < l.length
  · have hlt' : (i : Int) < l.length := by omega
    obtain ⟨g, o, rfl, hat⟩ := rdt_at hr (by rintro rfl; simp at hlt)
    obtain ⟨c0, c1, c2⟩ := hat w h i hlt
    have HD : Hid (∀ w', Sat k w' R → w'.cell? ⟨g, o + i * 3, none⟩ = some (.int .i64 l[i].k) ∧ w'.cell? ⟨g, o + i * 3 + 1, none⟩ = some (.string l[i].t)) := fun w' h' => ⟨(hat w' h' i hlt).1, (hat w' h' i hlt).2.1⟩
    rw [partAt_lt l i hlt]
    generalize l[i] = x at *
    obtain ⟨xk, xt, xa⟩ := x
    simp only at c0 c1 c2 HD
    have hp : partB ⟨xk, xt, xa⟩ = (decide (xk = 2) || (decide (xk = 1) && !keyB xt)) := rfl
    rw [hp]
    have b1 : (xk == 1) = decide (xk = 1) := by rw [Bool.eq_iff_iff]; simp
    have b2 : (xk == 2) = decide (xk = 2) := by rw [Bool.eq_iff_iff]; simp
    have CK := Lib.hid (fun w' h' => keys_any k w' R h')
    have CN := Lib.hid (fun w' b (h' : Sat k w' (Strs (.slice b 41 41) keyL * R)) => in7_any k w' _ b 41 keyL xt (rd_own h') (by decide) h')
    have hkb : memB xt keyL = keyB xt := rfl
    rw [hkb] at CN
    clear hr hp hat hkb
    generalize keyB xt = kb at *
    cases h2 : decide (xk = 2) with
    | true =>
      rw [h2] at b2
      clear h2 CK CN b1 HD
      go_enter Try.func95, Try.ntmps95
      go_wp2_with fail
      go_quiet (fail)
      go_wp2_with fail
      go_ret
      exact ⟨rfl, h.drewN _⟩
    | false =>
      rw [h2] at b2
      clear h2
      cases h1 : decide (xk = 1) with
      | true =>
        rw [h1] at b1
        clear h1
        cases kb with
        | true =>
          go_enter Try.func95, Try.ntmps95
          go_wp2_with fail
          go_region_held3 (fun w' => w'.cell? ⟨g, o + i * 3, none⟩ = some (.int .i64 xk) ∧ w'.cell? ⟨g, o + i * 3 + 1, none⟩ = some (.string xt)) (first | exact HD.out _ (by assumption) | fail) (first | (go_at_call 99; (with_reducible refine (CK.out _ (by first | assumption | exact Sat.drew (by assumption))).mono ?_); rintro e w4 ⟨b, rfl, h4⟩; have h5 := h4.drop) | (go_at_call 93; (refine (CN.out _ _ (by first | assumption | exact Sat.drew (by assumption))).mono ?_); rintro e w5 ⟨rfl, h6⟩; have h7 := h6.drop) | fail)
          all_goals
            go_wp2_with fail
            go_ret
            exact ⟨rfl, h7⟩
        | false =>
          go_enter Try.func95, Try.ntmps95
          go_wp2_with fail
          go_region_held3 (fun w' => w'.cell? ⟨g, o + i * 3, none⟩ = some (.int .i64 xk) ∧ w'.cell? ⟨g, o + i * 3 + 1, none⟩ = some (.string xt)) (first | exact HD.out _ (by assumption) | fail) (first | (go_at_call 99; (with_reducible refine (CK.out _ (by first | assumption | exact Sat.drew (by assumption))).mono ?_); rintro e w4 ⟨b, rfl, h4⟩; have h5 := h4.drop) | (go_at_call 93; (refine (CN.out _ _ (by first | assumption | exact Sat.drew (by assumption))).mono ?_); rintro e w5 ⟨rfl, h6⟩; have h7 := h6.drop) | fail)
          all_goals
            go_wp2_with fail
            go_ret
            exact ⟨rfl, h7⟩
      | false =>
        rw [h1] at b1
        clear h1 CK CN HD
        go_enter Try.func95, Try.ntmps95
        go_wp2_with fail
        go_quiet (fail)
        go_wp2_with fail
        go_ret
        exact ⟨rfl, h.drewN _⟩
  · have hlt' : ¬ (i : Int) < l.length := by omega
    rw [partAt_ge l i hlt]
    clear hr
    go_enter Try.func95, Try.ntmps95
    go_wp2_with fail
    go_quiet (fail)
    go_wp2_with fail
    go_ret
    exact ⟨rfl, h.drewN _⟩

theorem nm_text (x y : ByteArray) : (x ++ cDot) ++ y = x ++ (cDot ++ y) := ByteArray.append_assoc

set_option maxRecDepth 100000 in
set_option maxHeartbeats 4000000 in
theorem rname_any (k : Env) (w : World) (R : Assn) (a : Option Addr) (cap : Nat) (l : List Tok) (i : Nat) (hl : l.length ≤ 1000000) (hT : ∀ x ∈ l, x.t.size ≤ 1000000) (hr : RdT k R a l) (h : Sat k w R) :
    Calls Try.prog 94 #[.slice a l.length cap, .int .i64 i] w fun e w' => e = .returned (if partAt l i = true then .tuple #[.string (nmName l i), .int .i64 (nmTo l i)] else .tuple #[.string ⟨#[]⟩, .int .i64 i]) ∧ Sat k w' R := by
  have CP := Lib.hid (fun w i h => rpart_any k w R a cap l i hr h)
  have CS := Lib.hid (fun w i s h => rsg_any k w R a cap l i s hr h)
  cases hp : partAt l i with
  | false =>
    have C1 := CP.out w i h
    rw [hp] at C1
    have D1 := Lib.hid C1
    clear C1 CP CS hr hp
    go_enter Try.func94, Try.ntmps94
    go_wp2_with (go_at_call 95; (with_reducible refine (D1.out).mono ?_); rintro e w5 ⟨rfl, h5⟩)
    go_ret2
    exact ⟨rfl, h5⟩
  | true =>
    have hlt := partAt_len hp
    obtain ⟨g, o, rfl, hat⟩ := rdt_at hr (by rintro rfl; simp at hlt)
    obtain ⟨n1, hn1⟩ : ∃ n1, n1 = i + 1 := ⟨_, rfl⟩
    obtain ⟨n2, hn2⟩ : ∃ n2, n2 = i + 2 := ⟨_, rfl⟩
    obtain ⟨n3, hn3⟩ : ∃ n3, n3 = i + 3 := ⟨_, rfl⟩
    have hw1 : IntKind.i64.wrap ((i : Int) + 1) = n1 := by rw [IntWalk.i64_in _ (by omega)]; omega
    have hw2 : IntKind.i64.wrap ((i : Int) + 2) = n2 := by rw [IntWalk.i64_in _ (by omega)]; omega
    have hw3 : IntKind.i64.wrap ((i : Int) + 3) = n3 := by rw [IntWalk.i64_in _ (by omega)]; omega
    have D1 : Hid (∀ w', Sat k w' R → Calls Try.prog 95 #[.slice (some ⟨g, o, none⟩) l.length cap, .int .i64 i] w' fun e w2 => e = .returned (.bool true) ∧ Sat k w2 R) := fun w' h' => by have := CP.out w' i h'; rw [hp] at this; exact this
    have D2 := Lib.hid (fun w' h' => CS.out w' n1 cDot h')
    have D3 := Lib.hid (fun w' h' => CP.out w' n2 h')
    have hdot : dotAt l i = (isAt l n1 5 cDot && partAt l n2) := by rw [hn1, hn2]; rfl
    have HX : Hid (∀ w', Sat k w' R → w'.cell? ⟨g, o + i * 3 + 1, none⟩ = some (.string l[i].t)) := fun w' h' => (hat w' h' i hlt).2.1
    have hx0 : txAt l i = l[i].t := txAt_lt l i hlt
    have hnm : nmName l i = if dotAt l i = true then txAt l i ++ (cDot ++ txAt l (i + 2)) else txAt l i := rfl
    have hto : nmTo l i = if dotAt l i = true then i + 3 else i + 1 := rfl
    have hsz : l[i].t.size ≤ 1000000 := hT _ (List.getElem_mem hlt)
    have hlt' : (i : Int) < l.length := by omega
    rw [if_pos rfl]
    rw [← hn3, ← hn1] at hto
    cases hq : isAt l n1 5 cDot with
    | false =>
      rw [hq] at hdot D2
      rw [hdot] at hnm hto
      rw [hnm, hto, hx0]
      generalize l[i].t = x at *
      clear hnm hto hdot hp hat hr CP CS D3 hn1 hn2 hn3 hx0 hq hT
      go_enter Try.func94, Try.ntmps94
      go_wp2_with (first | (go_at_call 95; (with_reducible refine (D1.out _ h).mono ?_); rintro e w5 ⟨rfl, h5⟩) | (go_at_call 96; (with_reducible refine (D2.out _ h5).mono ?_); rintro e w6 ⟨rfl, rfl⟩; have c0 := HX.out _ h5))
      go_ret2
      exact ⟨rfl, h5⟩
    | true =>
      rw [hq] at hdot D2
      cases hq2 : partAt l n2 with
      | false =>
        rw [hq2] at hdot D3
        rw [hdot] at hnm hto
        rw [hnm, hto, hx0]
        generalize l[i].t = x at *
        clear hnm hto hdot hp hat hr CP CS hn1 hn2 hn3 hx0 hq hq2 hT
        go_enter Try.func94, Try.ntmps94
        go_wp2_with (first | (go_at_call 95; (first | (with_reducible refine (D1.out _ h).mono ?_; rintro e w5 ⟨rfl, h5⟩) | (with_reducible refine (D3.out _ h5).mono ?_; rintro e w7 ⟨rfl, h7⟩; have c0 := HX.out _ h7))) | (go_at_call 96; (with_reducible refine (D2.out _ h5).mono ?_); rintro e w6 ⟨rfl, rfl⟩))
        go_ret2
        exact ⟨rfl, h7⟩
      | true =>
        rw [hq2] at hdot D3
        rw [hdot] at hnm hto
        have hl2 := partAt_len hq2
        have hx2 : txAt l (i + 2) = l[n2].t := by rw [← hn2]; exact txAt_lt l n2 hl2
        have HY : Hid (∀ w', Sat k w' R → w'.cell? ⟨g, o + n2 * 3 + 1, none⟩ = some (.string l[n2].t)) := fun w' h' => (hat w' h' n2 hl2).2.1
        have hsz2 : l[n2].t.size ≤ 1000000 := hT _ (List.getElem_mem hl2)
        have hl2' : (n2 : Int) < l.length := by omega
        rw [hnm, hto, hx0, hx2]
        generalize l[i].t = x at *
        generalize l[n2].t = y at *
        have hres : (if (true && true) = true then x ++ (cDot ++ y) else x) = (x ++ cDot) ++ y := by rw [if_pos (by decide), nm_text]
        have hsz3 : (x ++ cDot).size = x.size + 1 := by rw [ByteArray.size_append]; rfl
        rw [hres]
        have HSZ := Lib.hid hsz3
        clear hnm hto hdot hp hat hr CP CS hn1 hn2 hn3 hx0 hx2 hq hq2 hT hres hsz3
        go_enter Try.func94, Try.ntmps94
        go_upto_region 4 with (first | (go_at_call 95; (first | (with_reducible refine (D1.out _ h).mono ?_; rintro e w5 ⟨rfl, h5⟩) | (with_reducible refine (D3.out _ h5).mono ?_; rintro e w7 ⟨rfl, h7⟩; have c0 := HX.out _ h7; have d0 := HY.out _ h7))) | (go_at_call 96; (with_reducible refine (D2.out _ h5).mono ?_); rintro e w6 ⟨rfl, rfl⟩))
        have hcap : ¬ ((x.size + 1 : Nat) : Int) > IntKind.i64.max := by simp [IntKind.i64]; omega
        have hcap2 : ¬ (((x ++ cDot).size + y.size : Nat) : Int) > IntKind.i64.max := by rw [HSZ.out]; simp [IntKind.i64]; omega
        go_quiet (fail)
        go_wp2_with fail
        go_ret2
        exact ⟨rfl, h7.drewN _⟩

end Go.Proofs.Ytoeepbjnbgpmpaa
