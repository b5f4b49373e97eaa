/- Contracts of package lexer: one. -/
import Derived.Test.YtoeepbjnbgpmpaaLexD
namespace Go.Proofs.Ytoeepbjnbgpmpaa
set_option linter.all false
open Go Go.RowKit

def oK : One → Int
  | .tok k _ _ => k
  | .opn k => k
  | .bad => 5
def oT : One → ByteArray
  | .tok _ t _ => mk t
  | .opn _ => ⟨#[]⟩
  | .bad => ⟨#[]⟩
def oN : One → Int
  | .tok _ _ n => n
  | .opn _ => -1
  | .bad => 0
theorem ofQ_parts (k : Int) (x : Option (List UInt8 × Nat)) : oK (ofQ k x) = k ∧ oT (ofQ k x) = qT x ∧ oN (ofQ k x) = qN x := by cases x <;> exact ⟨rfl, rfl, rfl⟩

def dT (l : List UInt8) (m : Nat) : Option Nat → ByteArray
  | some i => mk ((l.take i).drop m)
  | none => ⟨#[]⟩
def dN (m : Nat) : Option Nat → Int
  | some i => i + m
  | none => -1
theorem dollar_any2 (k : Env) (w : World) (R : Assn) (s : ByteArray) (n : Nat) (hn : 1 ≤ n) (hm : n ≤ s.size) (hs : s.size ≤ 1000000000) (h : Sat k w R) :
    Calls Try.prog 89 #[.string s, .int .i64 n] w fun e w' => e = .returned (.tuple #[.string (dT (bl s) n (dolF ((bl s).take n) ((bl s).drop n) n)), .int .i64 (dN n (dolF ((bl s).take n) ((bl s).drop n) n))]) ∧ Sat k w' R := by
  have := dollar_any k w R s n hn hm hs h
  cases hq : dolF ((bl s).take n) ((bl s).drop n) n with
  | some i => rw [hq] at this; exact this
  | none => rw [hq] at this; exact this


set_option maxRecDepth 100000 in
set_option maxHeartbeats 8000000 in
theorem one_any (k : Env) (w : World) (R : Assn) (s : ByteArray) (c : UInt8) (r : List UInt8) (hsr : bl s = c :: r) (hs : s.size ≤ 1000000000) (h : Sat k w R) :
    Calls Try.prog 74 #[.string s] w fun e w' => e = .returned (.tuple #[.agg #[.int .i64 (oK (oneL (c :: r))), .string (oT (oneL (c :: r))), .int .i64 0], .int .i64 (oN (oneL (c :: r)))]) ∧ Sat k w' R := by
  have hsz : s.size = r.length + 1 := by rw [← bl_len, hsr]; rfl
  have h0 : 0 < s.size := by omega
  have hs0 : (0 : Int) < s.size := by omega
  have hc0 : s[0] = c := by
    rw [← bl_get s 0 h0]
    simp only [hsr]
    rfl
  have hw : wrap32 (c.toNat : Int) = c.toNat := by have := c.toNat_lt; unfold wrap32; omega
  have h1 := h.alloc (.cells #[.int .i64 0, .string ⟨#[]⟩, .int .i64 0] 27)
  have hex : ∀ n, s.extract 0 n = mk ((c :: r).take n) := fun n => by rw [ex_eq, hsr]; simp
  have HL := fun w => letter_any w c
  have HG := fun w => digit_any w c
  cases hL : isLet c with
  | true =>
    rw [hL] at HL
    have CL := Lib.hid HL
    have hx : oneL (c :: r) = .tok 1 (((c :: r).take (runL pWord (c :: r))).map low) (runL pWord (c :: r)) := by rw [oneL, if_pos hL]
    have hn := runL_le pWord (c :: r)
    have CR := fun w => run_word w s hs
    rw [hsr] at CR
    have hT : lowS (s.extract 0 (runL pWord (c :: r))) = mk (((c :: r).take (runL pWord (c :: r))).map low) := by rw [hex]; rfl
    rw [hx]
    simp only [oK, oT, oN]
    rw [← hT]
    generalize runL pWord (c :: r) = n at *
    have hn' : n ≤ s.size := by rw [hsz]; exact hn
    have hnI : (n : Int) ≤ s.size := by omega
    have CS := Lib.hid (fun w' R' h => small_any k w' R' (s.extract 0 n) (by simp; omega) h)
    have CR' := Lib.hid CR
    generalize lowS (s.extract 0 n) = t at *
    clear hx hT hn hL HL HG CR hsr hsz hex h
    (
      go_enter Try.func74, Try.ntmps74
      go_upto_region 1 with fail
      generalize w.alloc (.cells #[.int .i64 0, .string ⟨#[]⟩, .int .i64 0] 27) = w1 at *
      generalize w.heap.size = o at *
      have d0 : w1.cell? ⟨o, 0, none⟩ = some (.int .i64 0) := h1.cell 0
      have d1 : w1.cell? ⟨o, 1, none⟩ = some (.string ⟨#[]⟩) := h1.cell 1
      have d2 : w1.cell? ⟨o, 2, none⟩ = some (.int .i64 0) := h1.cell 2
      have rf := h1.frozen)
    go_wp2_with (first | (go_at_call 82; (with_reducible refine (CL.out _).mono ?_); rintro e w9 ⟨rfl, rfl⟩) | (go_at_call 71; (with_reducible refine (CR'.out _).mono ?_); rintro e w9 ⟨rfl, rfl⟩) | (go_at_call 85; (with_reducible refine (CS.out _ _ h1).mono ?_); rintro e w2 ⟨rfl, h2⟩; have d0 : w2.cell? ⟨o, 0, none⟩ = some (.int .i64 0) := h2.cell 0; have d1 : w2.cell? ⟨o, 1, none⟩ = some (.string ⟨#[]⟩) := h2.cell 1; have d2 : w2.cell? ⟨o, 2, none⟩ = some (.int .i64 0) := h2.cell 2; have rf := h2.frozen))
    refine bodyPost_ret (v := .tuple #[.agg #[.int .i64 1, .string t, .int .i64 0], .int .i64 n]) (by simp [results, Try.results74, go_sem, d0, d1, d2]) rfl ?_
    exact ⟨rfl, (((h2.set 0 _).set 1 _).set 2 _).drop⟩
  | false =>
    rw [hL] at HL
    have CL := Lib.hid HL
    have e1 : ¬ isLet c = true := by rw [hL]; decide
    clear HL
    cases hD : isDig c with
    | true =>
      rw [hD] at HG
      have CD := Lib.hid HG
      have hx : oneL (c :: r) = .tok 4 ((c :: r).take (runL pNum (c :: r))) (runL pNum (c :: r)) := by rw [oneL, if_neg e1, if_pos hD]
      have hn := runL_le pNum (c :: r)
      have CR := fun w => run_num w s hs
      rw [hsr] at CR
      have hT : s.extract 0 (runL pNum (c :: r)) = mk ((c :: r).take (runL pNum (c :: r))) := hex _
      rw [hx]
      simp only [oK, oT, oN]
      rw [← hT]
      generalize runL pNum (c :: r) = n at *
      have hn' : n ≤ s.size := by rw [hsz]; exact hn
      have hnI : (n : Int) ≤ s.size := by omega
      have CR' := Lib.hid CR
      clear hx hT hn hL hD e1 HG CR hsr hsz hex h
      (
        go_enter Try.func74, Try.ntmps74
        go_upto_region 1 with fail
        generalize w.alloc (.cells #[.int .i64 0, .string ⟨#[]⟩, .int .i64 0] 27) = w1 at *
        generalize w.heap.size = o at *
        have d0 : w1.cell? ⟨o, 0, none⟩ = some (.int .i64 0) := h1.cell 0
        have d1 : w1.cell? ⟨o, 1, none⟩ = some (.string ⟨#[]⟩) := h1.cell 1
        have d2 : w1.cell? ⟨o, 2, none⟩ = some (.int .i64 0) := h1.cell 2
        have rf := h1.frozen)
      go_wp2_with (first | (go_at_call 82; (with_reducible refine (CL.out _).mono ?_); rintro e w9 ⟨rfl, rfl⟩) | (go_at_call 84; (with_reducible refine (CD.out _).mono ?_); rintro e w9 ⟨rfl, rfl⟩) | (go_at_call 71; (with_reducible refine (CR'.out _).mono ?_); rintro e w9 ⟨rfl, rfl⟩))
      refine bodyPost_ret (v := .tuple #[.agg #[.int .i64 4, .string (s.extract 0 n), .int .i64 0], .int .i64 n]) (by simp [results, Try.results74, go_sem, d0, d1, d2]) rfl ?_
      exact ⟨rfl, (((h1.set 0 _).set 1 _).set 2 _).drop⟩
    | false =>
      rw [hD] at HG
      have CD := Lib.hid HG
      have e2 : ¬ isDig c = true := by rw [hD]; decide
      clear HG
      by_cases h34 : c.toNat = 34
      · have hx : oneL (c :: r) = ofQ 2 (quotL c r [] 1) := by rw [oneL, if_neg e1, if_neg e2, if_pos h34]
        obtain ⟨p1, p2, p3⟩ := ofQ_parts 2 (quotL c r [] 1)
        rw [hx, p1, p2, p3]
        have CQ := Lib.hid (fun w' R' h => quoted_any k w' R' s c r hsr hs h)
        generalize qT (quotL c r [] 1) = t at *
        generalize qN (quotL c r [] 1) = n at *
        have hb : ((c.toNat : Int) == 34) = true := by simp [h34]
        clear hx p1 p2 p3 hL hD e1 e2 hsr hsz hex h h34
        (
          go_enter Try.func74, Try.ntmps74
          go_upto_region 1 with fail
          generalize w.alloc (.cells #[.int .i64 0, .string ⟨#[]⟩, .int .i64 0] 27) = w1 at *
          generalize w.heap.size = o at *
          have d0 : w1.cell? ⟨o, 0, none⟩ = some (.int .i64 0) := h1.cell 0
          have d1 : w1.cell? ⟨o, 1, none⟩ = some (.string ⟨#[]⟩) := h1.cell 1
          have d2 : w1.cell? ⟨o, 2, none⟩ = some (.int .i64 0) := h1.cell 2
          have rf := h1.frozen)
        go_wp2_with (first | (go_at_call 82; (with_reducible refine (CL.out _).mono ?_); rintro e w9 ⟨rfl, rfl⟩) | (go_at_call 84; (with_reducible refine (CD.out _).mono ?_); rintro e w9 ⟨rfl, rfl⟩) | (go_at_call 87; (with_reducible refine (CQ.out _ _ h1).mono ?_); rintro e w2 ⟨rfl, h2⟩; have d0 : w2.cell? ⟨o, 0, none⟩ = some (.int .i64 0) := h2.cell 0; have d1 : w2.cell? ⟨o, 1, none⟩ = some (.string ⟨#[]⟩) := h2.cell 1; have d2 : w2.cell? ⟨o, 2, none⟩ = some (.int .i64 0) := h2.cell 2; have rf := h2.frozen))
        refine bodyPost_ret (v := .tuple #[.agg #[.int .i64 2, .string t, .int .i64 0], .int .i64 n]) (by simp [results, Try.results74, go_sem, d0, d1, d2]) rfl ?_
        exact ⟨rfl, (((h2.set 0 _).set 1 _).set 2 _).drop⟩
      have hb34 : ((c.toNat : Int) == 34) = false := by simp; omega
      by_cases h39 : c.toNat = 39
      · have hx : oneL (c :: r) = ofQ 3 (quotL c r [] 1) := by rw [oneL, if_neg e1, if_neg e2, if_neg h34, if_pos h39]
        obtain ⟨p1, p2, p3⟩ := ofQ_parts 3 (quotL c r [] 1)
        rw [hx, p1, p2, p3]
        have CQ := Lib.hid (fun w' R' h => quoted_any k w' R' s c r hsr hs h)
        generalize qT (quotL c r [] 1) = t at *
        generalize qN (quotL c r [] 1) = n at *
        have hb : ((c.toNat : Int) == 39) = true := by simp [h39]
        clear hx p1 p2 p3 hL hD e1 e2 hsr hsz hex h h39 h34
        (
          go_enter Try.func74, Try.ntmps74
          go_upto_region 1 with fail
          generalize w.alloc (.cells #[.int .i64 0, .string ⟨#[]⟩, .int .i64 0] 27) = w1 at *
          generalize w.heap.size = o at *
          have d0 : w1.cell? ⟨o, 0, none⟩ = some (.int .i64 0) := h1.cell 0
          have d1 : w1.cell? ⟨o, 1, none⟩ = some (.string ⟨#[]⟩) := h1.cell 1
          have d2 : w1.cell? ⟨o, 2, none⟩ = some (.int .i64 0) := h1.cell 2
          have rf := h1.frozen)
        go_wp2_with (first | (go_at_call 82; (with_reducible refine (CL.out _).mono ?_); rintro e w9 ⟨rfl, rfl⟩) | (go_at_call 84; (with_reducible refine (CD.out _).mono ?_); rintro e w9 ⟨rfl, rfl⟩) | (go_at_call 87; (with_reducible refine (CQ.out _ _ h1).mono ?_); rintro e w2 ⟨rfl, h2⟩; have d0 : w2.cell? ⟨o, 0, none⟩ = some (.int .i64 0) := h2.cell 0; have d1 : w2.cell? ⟨o, 1, none⟩ = some (.string ⟨#[]⟩) := h2.cell 1; have d2 : w2.cell? ⟨o, 2, none⟩ = some (.int .i64 0) := h2.cell 2; have rf := h2.frozen))
        refine bodyPost_ret (v := .tuple #[.agg #[.int .i64 3, .string t, .int .i64 0], .int .i64 n]) (by simp [results, Try.results74, go_sem, d0, d1, d2]) rfl ?_
        exact ⟨rfl, (((h2.set 0 _).set 1 _).set 2 _).drop⟩
      have hb39 : ((c.toNat : Int) == 39) = false := by simp; omega
      by_cases h36 : c.toNat = 36
      · have hb36 : ((c.toNat : Int) == 36) = true := by simp [h36]
        have hx0 := (show oneL (c :: r) = _ from by rw [oneL, if_neg e1, if_neg e2, if_neg h34, if_neg h39, if_pos h36])
        have CT0 := fun w => tag_any w s c r hsr hs
        cases hm : tagL r with
        | some m =>
          rw [hm] at hx0 CT0
          simp only at hx0
          have ht := tagL_range hm
          have CT := Lib.hid CT0
          have CO := Lib.hid (fun w' R' h => dollar_any2 k w' R' s m (by omega) (by omega) hs h)
          rw [hsr] at CO
          have HX : oK (oneL (c :: r)) = 3 ∧ oT (oneL (c :: r)) = dT (c :: r) m (dolF ((c :: r).take m) ((c :: r).drop m) m) ∧ oN (oneL (c :: r)) = dN m (dolF ((c :: r).take m) ((c :: r).drop m) m) := by
            rw [hx0]
            cases dolF ((c :: r).take m) ((c :: r).drop m) m with
            | some i => exact ⟨rfl, rfl, rfl⟩
            | none => exact ⟨rfl, rfl, rfl⟩
          obtain ⟨p1, p2, p3⟩ := HX
          rw [p1, p2, p3]
          generalize dT (c :: r) m (dolF ((c :: r).take m) ((c :: r).drop m) m) = t at *
          generalize dN m (dolF ((c :: r).take m) ((c :: r).drop m) m) = n at *
          have hne : ((m : Int) == -1) = false := by simp
          simp only [optI] at CT
          clear hx0 CT0 p1 p2 p3 hL hD e1 e2 hsr hsz hex h h39 h34 hm ht h36
          (
            go_enter Try.func74, Try.ntmps74
            go_upto_region 1 with fail
            generalize w.alloc (.cells #[.int .i64 0, .string ⟨#[]⟩, .int .i64 0] 27) = w1 at *
            generalize w.heap.size = o at *
            have d0 : w1.cell? ⟨o, 0, none⟩ = some (.int .i64 0) := h1.cell 0
            have d1 : w1.cell? ⟨o, 1, none⟩ = some (.string ⟨#[]⟩) := h1.cell 1
            have d2 : w1.cell? ⟨o, 2, none⟩ = some (.int .i64 0) := h1.cell 2
            have rf := h1.frozen)
          go_wp2_with (first | (go_at_call 82; (with_reducible refine (CL.out _).mono ?_); rintro e w9 ⟨rfl, rfl⟩) | (go_at_call 84; (with_reducible refine (CD.out _).mono ?_); rintro e w9 ⟨rfl, rfl⟩) | (go_at_call 88; (with_reducible refine (CT.out _).mono ?_); rintro e w9 ⟨rfl, rfl⟩) | (go_at_call 89; (with_reducible refine (CO.out _ _ h1).mono ?_); rintro e w2 ⟨rfl, h2⟩; have d0 : w2.cell? ⟨o, 0, none⟩ = some (.int .i64 0) := h2.cell 0; have d1 : w2.cell? ⟨o, 1, none⟩ = some (.string ⟨#[]⟩) := h2.cell 1; have d2 : w2.cell? ⟨o, 2, none⟩ = some (.int .i64 0) := h2.cell 2; have rf := h2.frozen))
          refine bodyPost_ret (v := .tuple #[.agg #[.int .i64 3, .string t, .int .i64 0], .int .i64 n]) (by simp [results, Try.results74, go_sem, d0, d1, d2]) rfl ?_
          exact ⟨rfl, (((h2.set 0 _).set 1 _).set 2 _).drop⟩
        | none =>
          rw [hm] at hx0 CT0
          simp only at hx0
          have CT := Lib.hid CT0
          have CO := Lib.hid (fun w' R' h => sign_any k w' R' s c r hsr hs h)
          have hle := runL_le isDig r
          have HS : oK (oneL (c :: r)) = 5 ∧ oT (oneL (c :: r)) = mk ((c :: r).take (signN c r)) ∧ oN (oneL (c :: r)) = (signN c r : Nat) ∧ signN c r ≤ s.size := by
            rw [hx0]
            have : signN c r = if 0 < runL isDig r then runL isDig r + 1 else 0 := if_pos h36
            rw [this]
            by_cases hp : 0 < runL isDig r
            · rw [if_pos hp, if_pos hp]; exact ⟨rfl, rfl, rfl, by omega⟩
            · rw [if_neg hp, if_neg hp]; exact ⟨rfl, rfl, rfl, by omega⟩
          obtain ⟨p1, p2, p3, p4⟩ := HS
          rw [p1, p2, p3, ← hex]
          generalize signN c r = n at *
          have hnI : (n : Int) ≤ s.size := by omega
          simp only [optI] at CT
          clear hx0 CT0 p1 p2 p3 hL hD e1 e2 hsr hsz hex h h39 h34 hm h36 hle
          (
            go_enter Try.func74, Try.ntmps74
            go_upto_region 1 with fail
            generalize w.alloc (.cells #[.int .i64 0, .string ⟨#[]⟩, .int .i64 0] 27) = w1 at *
            generalize w.heap.size = o at *
            have d0 : w1.cell? ⟨o, 0, none⟩ = some (.int .i64 0) := h1.cell 0
            have d1 : w1.cell? ⟨o, 1, none⟩ = some (.string ⟨#[]⟩) := h1.cell 1
            have d2 : w1.cell? ⟨o, 2, none⟩ = some (.int .i64 0) := h1.cell 2
            have rf := h1.frozen)
          go_wp2_with (first | (go_at_call 82; (with_reducible refine (CL.out _).mono ?_); rintro e w9 ⟨rfl, rfl⟩) | (go_at_call 84; (with_reducible refine (CD.out _).mono ?_); rintro e w9 ⟨rfl, rfl⟩) | (go_at_call 88; (with_reducible refine (CT.out _).mono ?_); rintro e w9 ⟨rfl, rfl⟩) | (go_at_call 90; (with_reducible refine (CO.out _ _ h1).mono ?_); rintro e w2 ⟨rfl, h2⟩; have d0 : w2.cell? ⟨o, 0, none⟩ = some (.int .i64 0) := h2.cell 0; have d1 : w2.cell? ⟨o, 1, none⟩ = some (.string ⟨#[]⟩) := h2.cell 1; have d2 : w2.cell? ⟨o, 2, none⟩ = some (.int .i64 0) := h2.cell 2; have rf := h2.frozen))
          refine bodyPost_ret (v := .tuple #[.agg #[.int .i64 5, .string (s.extract 0 n), .int .i64 0], .int .i64 n]) (by simp [results, Try.results74, go_sem, d0, d1, d2]) rfl ?_
          exact ⟨rfl, (((h2.set 0 _).set 1 _).set 2 _).drop⟩
      · have hb36 : ((c.toNat : Int) == 36) = false := by simp; omega
        have hx0 := (show oneL (c :: r) = _ from by rw [oneL, if_neg e1, if_neg e2, if_neg h34, if_neg h39, if_neg h36])
        have CO := Lib.hid (fun w' R' h => sign_any k w' R' s c r hsr hs h)
        have HS : oK (oneL (c :: r)) = 5 ∧ oT (oneL (c :: r)) = mk ((c :: r).take (signN c r)) ∧ oN (oneL (c :: r)) = (signN c r : Nat) ∧ signN c r ≤ s.size := by
          rw [hx0]
          have : signN c r = if c ∈ signSet then 1 else 0 := if_neg h36
          rw [this]
          by_cases hp : c ∈ signSet
          · rw [if_pos hp, if_pos hp]; exact ⟨rfl, rfl, rfl, by omega⟩
          · rw [if_neg hp, if_neg hp]; exact ⟨rfl, rfl, rfl, by omega⟩
        obtain ⟨p1, p2, p3, p4⟩ := HS
        rw [p1, p2, p3, ← hex]
        generalize signN c r = n at *
        have hnI : (n : Int) ≤ s.size := by omega
        clear hx0 p1 p2 p3 hL hD e1 e2 hsr hsz hex h h39 h34 h36
        (
          go_enter Try.func74, Try.ntmps74
          go_upto_region 1 with fail
          generalize w.alloc (.cells #[.int .i64 0, .string ⟨#[]⟩, .int .i64 0] 27) = w1 at *
          generalize w.heap.size = o at *
          have d0 : w1.cell? ⟨o, 0, none⟩ = some (.int .i64 0) := h1.cell 0
          have d1 : w1.cell? ⟨o, 1, none⟩ = some (.string ⟨#[]⟩) := h1.cell 1
          have d2 : w1.cell? ⟨o, 2, none⟩ = some (.int .i64 0) := h1.cell 2
          have rf := h1.frozen)
        go_wp2_with (first | (go_at_call 82; (with_reducible refine (CL.out _).mono ?_); rintro e w9 ⟨rfl, rfl⟩) | (go_at_call 84; (with_reducible refine (CD.out _).mono ?_); rintro e w9 ⟨rfl, rfl⟩) | (go_at_call 90; (with_reducible refine (CO.out _ _ h1).mono ?_); rintro e w2 ⟨rfl, h2⟩; have d0 : w2.cell? ⟨o, 0, none⟩ = some (.int .i64 0) := h2.cell 0; have d1 : w2.cell? ⟨o, 1, none⟩ = some (.string ⟨#[]⟩) := h2.cell 1; have d2 : w2.cell? ⟨o, 2, none⟩ = some (.int .i64 0) := h2.cell 2; have rf := h2.frozen))
        refine bodyPost_ret (v := .tuple #[.agg #[.int .i64 5, .string (s.extract 0 n), .int .i64 0], .int .i64 n]) (by simp [results, Try.results74, go_sem, d0, d1, d2]) rfl ?_
        exact ⟨rfl, (((h2.set 0 _).set 1 _).set 2 _).drop⟩

end Go.Proofs.Ytoeepbjnbgpmpaa
