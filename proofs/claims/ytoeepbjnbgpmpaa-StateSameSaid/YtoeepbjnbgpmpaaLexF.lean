/- Contracts of package lexer: Scan. -/
import Derived.Test.YtoeepbjnbgpmpaaLexE
import Derived.Test.YtoeepbjnbgpmpaaMA
import Derived.WalkMore
namespace Go.Proofs.Ytoeepbjnbgpmpaa
set_option linter.all false
open Go Go.RowKit

def tokc (x : Tok) : List Value := [.int .i64 x.k, .string x.t, .int .i64 x.at']
def ETok : Enc Tok := ⟨tokc, 3, fun _ => rfl, fun x u hu => by simp [tokc] at hu; rcases hu with rfl | rfl | rfl <;> rfl⟩
theorem TTok : SliceT Try.prog 22 27 (.agg #[.int .i64 0, .string ByteArray.empty, .int .i64 0]) 3 32 := ⟨Try.underlying22, by kernel_rfl, rfl, by decide⟩
def Toks (v : Value) (l : List Tok) : Assn := RecS ETok 27 v l
def rE : Res → Int
  | .ok _ => 0
  | .err e _ => e
def rA : Res → Int
  | .ok _ => 0
  | .err _ a => a
def rL : Res → List Tok
  | .ok l => l
  | .err _ _ => []

theorem one_n {l : List UInt8} {x : One} (h : oneL l = x) : (∃ k t n, x = .tok k t n ∧ 0 < n ∧ n ≤ l.length) ∨ (∃ k, x = .opn k) ∨ x = .bad := by
  cases x with
  | tok k t n => left; have := oneL_range h; exact ⟨k, t, n, rfl, this.1, this.2.1⟩
  | opn k => right; left; exact ⟨k, rfl⟩
  | bad => right; right; rfl

set_option maxRecDepth 100000 in
set_option maxHeartbeats 16000000 in
theorem scan_any (k : Env) (w : World) (R : Assn) (s : ByteArray) (hs : s.size ≤ 1000000000) (h : Sat k w R) :
    Calls Try.prog 52 #[.string s] w fun e w' => ∃ v, e = .returned (.tuple #[v, .int .i64 (rE (scanB s)), .int .i64 (rA (scanB s))]) ∧ Sat k w' (Toks v (rL (scanB s)) * R) := by
  by_cases hbig : 2000 < s.size
  · have hx : scanB s = .err 2 2000 := if_pos hbig
    have hbig' : (2000 : Int) < s.size := by omega
    rw [hx]
    go_enter Try.func52, Try.ntmps52
    go_wp2_with fail
    go_step3
    go_wp2_with fail
    rw [Exit.noGoto_ret]
    go_ret3
    exact ⟨_, rfl, rec_nil h⟩
  have hx : scanB s = scanF (s.size + 1) (bl s) 0 [] := if_neg hbig
  have hbig' : ¬ (2000 : Int) < s.size := by omega
  generalize scanB s = res at *
  have HX := Lib.hid hx.symm
  have hsm : s.size ≤ 2000 := by omega
  have h1 := rec_nil (E := ETok) (t := 27) h
  clear hbig hx h
  go_enter Try.func52, Try.ntmps52
  go_wp2_with fail
  go_step3
  go_wp2_with fail
  go_step3
  go_wp2_with fail
  go_loopw [5, 6] (fun s5 s6 wr => ∃ (j f : Nat) (acc : List Tok), j ≤ s.size ∧ s.size - j < f ∧ s6 = .int .i64 j ∧ acc.length ≤ j ∧ Hid (scanF f ((bl s).drop j) j acc = res) ∧ Sat k wr (Toks s5 acc * R)) (fun _ s6 _ => s.size - (intOf s6).toNat)
  case atStart => exact ⟨0, s.size + 1, [], Nat.zero_le _, by omega, rfl, by simp, HX, h1⟩
  case round =>
    clear h1 HX
    obtain ⟨j, f, acc, hj, hf, rfl, hal, HR, hr⟩ := hrel
    obtain ⟨va, vc, rfl⟩ := rec_val hr
    obtain ⟨f, rfl⟩ : ∃ g, f = g + 1 := ⟨f - 1, by omega⟩
    by_cases hlt : j < s.size
    · have hlt' : (j : Int) < s.size := by omega
      have hjI : (j : Int) ≤ s.size := by omega
      have hsx : (s.extract j s.size).size ≤ 1000000000 := by simp; omega
      have hrest : bl (s.extract j s.size) = s[j] :: (bl s).drop (j + 1) := by rw [bl_ex_end, bl_drop s j hlt]
      have hlen : (s[j] :: (bl s).drop (j + 1)).length = s.size - j := by rw [List.length_cons, List.length_drop, bl_len]; omega
      have hdr : ∀ n, (s[j] :: (bl s).drop (j + 1)).drop n = (bl s).drop (j + n) := fun n => by rw [← bl_drop s j hlt, List.drop_drop]
      have HS : Hid (scanF (f + 1) ((bl s).drop j) j acc = scanF (f + 1) (s[j] :: (bl s).drop (j + 1)) j acc) := by unfold Hid; rw [bl_drop s j hlt]
      have hstep := (show scanF (f + 1) (s[j] :: (bl s).drop (j + 1)) j acc = _ from by rw [scanF])
      have HC1 := fun w => begins_any w (s.extract j s.size) ⟨#[45, 45]⟩ hsx (by decide)
      have HC2 := fun w => begins_any w (s.extract j s.size) ⟨#[47, 42]⟩ hsx (by decide)
      have HC3 := fun w => run_line w (s.extract j s.size) hsx
      have HC4 := fun w => remark_any w (s.extract j s.size) hsx
      have HC5 := fun w' R' h => one_any k w' R' (s.extract j s.size) _ _ hrest hsx h
      rw [hrest] at HC1 HC2 HC3 HC4
      rw [show bl ⟨#[45, 45]⟩ = [45, 45] from rfl] at HC1
      rw [show bl ⟨#[47, 42]⟩ = [47, 42] from rfl] at HC2
      have hblank : isBlank s[j] = (((s[j].toNat : Int) == 32) || ((s[j].toNat : Int) == 9) || ((s[j].toNat : Int) == 10) || ((s[j].toNat : Int) == 12) || ((s[j].toNat : Int) == 13)) := by
        rw [Bool.eq_iff_iff]; simp [isBlank]; omega
      cases hbk : isBlank s[j] with
      | true =>
        have HN : Hid (scanF f ((bl s).drop (j + 1)) (j + 1) acc = res) := by
          unfold Hid
          rw [← HR.out, HS.out, hstep, if_pos hbk]
        rw [hbk] at hblank
        have hb := hblank.symm
        clear HC1 HC2 HC3 HC4 HC5 hstep HS HR hrest hlen hdr hblank hbk hsx
        go_wp2_with fail
        all_goals
          go_roundw
          case rel => exact ⟨j + 1, f, acc, by omega, by omega, by go_num, by omega, HN, hr⟩
          case measure => simp [intOf]; omega
      | false =>
        have eb : ¬ isBlank s[j] = true := by rw [hbk]; decide
        have hq : s[j].toNat ≠ 32 ∧ s[j].toNat ≠ 9 ∧ s[j].toNat ≠ 10 ∧ s[j].toNat ≠ 12 ∧ s[j].toNat ≠ 13 := by simp [isBlank] at hbk; omega
        obtain ⟨q1, q2, q3, q4, q5⟩ := hq
        have b1 : ((s[j].toNat : Int) == 32) = false := by simp; omega
        have b2 : ((s[j].toNat : Int) == 9) = false := by simp; omega
        have b3 : ((s[j].toNat : Int) == 10) = false := by simp; omega
        have b4 : ((s[j].toNat : Int) == 12) = false := by simp; omega
        have b5 : ((s[j].toNat : Int) == 13) = false := by simp; omega
        clear hblank hbk q1 q2 q3 q4 q5
        cases h1 : [45, 45].isPrefixOf (s[j] :: (bl s).drop (j + 1)) with
        | true =>
          rw [h1] at HC1
          have hle := runL_le pLine (s[j] :: (bl s).drop (j + 1))
          have hpos : 0 < runL pLine (s[j] :: (bl s).drop (j + 1)) := by
            rw [runL_cons, if_pos]
            · omega
            · have : s[j] = 45 := by simp [List.isPrefixOf] at h1; exact h1.1.symm
              rw [this]; decide
          have HN : Hid (scanF f ((bl s).drop (j + runL pLine (s[j] :: (bl s).drop (j + 1)))) (j + runL pLine (s[j] :: (bl s).drop (j + 1))) acc = res) := by
            unfold Hid
            rw [← HR.out, HS.out, hstep, if_neg eb, if_pos h1, hdr]
          generalize runL pLine (s[j] :: (bl s).drop (j + 1)) = n at *
          have D1 := Lib.hid HC1
          have D3 := Lib.hid HC3
          have hn2 : j + n ≤ s.size := by omega
          clear HC1 HC2 HC3 HC4 HC5 hstep HS HR hrest hlen hdr hsx h1 hle eb
          go_wp2_with (first | (go_at_call 70; (with_reducible refine (D1.out _).mono ?_); rintro e w9 ⟨rfl, rfl⟩) | (go_at_call 71; (with_reducible refine (D3.out _).mono ?_); rintro e w9 ⟨rfl, rfl⟩))
          go_roundw
          case rel => exact ⟨j + n, f, acc, hn2, by omega, by go_num, by omega, HN, hr⟩
          case measure => simp [intOf]; omega
        | false =>
          have ec : ¬ [45, 45].isPrefixOf (s[j] :: (bl s).drop (j + 1)) = true := by rw [h1]; decide
          rw [h1] at HC1
          have D1 := Lib.hid HC1
          clear HC1 h1
          cases h2 : [47, 42].isPrefixOf (s[j] :: (bl s).drop (j + 1)) with
          | true =>
            rw [h2] at HC2
            have D2 := Lib.hid HC2
            cases hm : remL (s[j] :: (bl s).drop (j + 1)) 0 0 with
            | none =>
              have hres : res = .err 6 j := by
                rw [← HR.out, HS.out, hstep, if_neg eb, if_neg ec, if_pos h2, hm]
              subst hres
              rw [hm] at HC4
              simp only [optI] at HC4
              have D4 := Lib.hid HC4
              clear HC2 HC3 HC4 HC5 hstep HS HR hrest hlen hdr hsx h2 hm eb ec
              go_wp2_with (first | (go_at_call 70; (first | (with_reducible refine (D1.out _).mono ?_) | (with_reducible refine (D2.out _).mono ?_)); rintro e w9 ⟨rfl, rfl⟩) | (go_at_call 73; (with_reducible refine (D4.out _).mono ?_); rintro e w9 ⟨rfl, rfl⟩))
              rw [Exit.noGoto_ret]
              go_ret3
              exact ⟨_, rfl, rec_nil hr.drop⟩
            | some n =>
              have hrg := remL_range _ _ _ _ hm
              have HN : Hid (scanF f ((bl s).drop (j + n)) (j + n) acc = res) := by
                unfold Hid
                rw [← HR.out, HS.out, hstep, if_neg eb, if_neg ec, if_pos h2, hm]
                simp only
                rw [hdr]
              rw [hm] at HC4
              simp only [optI] at HC4
              have D4 := Lib.hid HC4
              have hn2 : j + n ≤ s.size := by omega
              have hn0 : 0 < n := by omega
              have hne : ((n : Int) == -1) = false := by simp
              clear HC2 HC3 HC4 HC5 hstep HS HR hrest hlen hdr hsx h2 hm eb ec hrg
              go_wp2_with (first | (go_at_call 70; (first | (with_reducible refine (D1.out _).mono ?_) | (with_reducible refine (D2.out _).mono ?_)); rintro e w9 ⟨rfl, rfl⟩) | (go_at_call 73; (with_reducible refine (D4.out _).mono ?_); rintro e w9 ⟨rfl, rfl⟩))
              go_roundw
              case rel => exact ⟨j + n, f, acc, hn2, by omega, by go_num, by omega, HN, hr⟩
              case measure => simp [intOf]; omega
          | false =>
            have ed : ¬ [47, 42].isPrefixOf (s[j] :: (bl s).drop (j + 1)) = true := by rw [h2]; decide
            rw [h2] at HC2
            have D2 := Lib.hid HC2
            rw [if_neg eb, if_neg ec, if_neg ed] at hstep
            obtain ⟨x, hx⟩ : ∃ x, oneL (s[j] :: (bl s).drop (j + 1)) = x := ⟨_, rfl⟩
            have hxn := one_n hx
            rw [hx] at HC5 hstep
            rw [hlen] at hxn
            rcases hxn with ⟨kk, t, n, rfl, hn0, hn1⟩ | ⟨kk, rfl⟩ | rfl
            · have HN : Hid (scanF f ((bl s).drop (j + n)) (j + n) (acc ++ [⟨kk, mk t, j⟩]) = res) := by
                unfold Hid
                rw [← HR.out, HS.out, hstep]
                simp only
                rw [hdr]
              simp only [oK, oT, oN] at HC5
              have D5 := Lib.hid HC5
              have hne1 : ((n : Int) == -1) = false := by simp
              have hne0 : ((n : Int) == 0) = false := by simp; omega
              have hn2 : j + n ≤ s.size := by omega
              clear HC2 HC3 HC4 HC5 hstep HS HR hrest hsx h2 hx eb ec ed hlen hdr hn1
              go_upto_region 18 with (first | (go_at_call 70; (first | (with_reducible refine (D1.out _).mono ?_) | (with_reducible refine (D2.out _).mono ?_)); rintro e w9 ⟨rfl, rfl⟩) | (go_at_call 74; (with_reducible refine (D5.out _ _ hr).mono ?_); rintro e w2 ⟨rfl, h2⟩))
              have h3 := h2.alloc (.cells #[.int .i64 kk, .string (mk t), .int .i64 0] 27)
              generalize w2.alloc (.cells #[.int .i64 kk, .string (mk t), .int .i64 0] 27) = w3 at *
              generalize w2.heap.size = o at *
              have d0 : w3.cell? ⟨o, 0, none⟩ = some (.int .i64 kk) := h3.cell 0
              have d1 : w3.cell? ⟨o, 1, none⟩ = some (.string (mk t)) := h3.cell 1
              have d2 : w3.cell? ⟨o, 2, none⟩ = some (.int .i64 0) := h3.cell 2
              have rf := h3.frozen
              have h4 := h3.set 2 (.int .i64 j)
              clear h2
              go_upto_region 24 with fail
              generalize w3.setCell ⟨o, 2, none⟩ (.int .i64 j) = w4 at *
              clear d0 d1 d2 rf h3
              have d0 : w4.cell? ⟨o, 0, none⟩ = some (.int .i64 kk) := h4.cell 0
              have d1 : w4.cell? ⟨o, 1, none⟩ = some (.string (mk t)) := h4.cell 1
              have d2 : w4.cell? ⟨o, 2, none⟩ = some (.int .i64 j) := h4.cell 2
              replace h4 := h4.drop
              go_wp2_with (at_builtin; refine wpList_append_sat TTok (h4.alloc' _) (.tmp 78) (.tmp 80) _ 1 1 (tokc ⟨kk, mk t, j⟩) rfl rfl rfl rfl rfl (fun _ => ⟨_, rfl, new_cells_at _ _ _ _ (by first | rfl | simp)⟩) (ETok.one ⟨kk, mk t, j⟩) (by simp [maxLen]; omega) (by omega) ?_; intro a7 c7 w7 h7)
              go_roundw
              case rel => exact ⟨j + n, f, acc ++ [⟨kk, mk t, j⟩], hn2, by omega, by go_num, by simp; omega, HN, (rec_push (E := ETok) h7).of_eq (by simp [Toks])⟩
              case measure => simp [intOf]; omega
            · have hres : res = .err 6 j := by
                rw [← HR.out, HS.out, hstep]
              subst hres
              simp only [oK, oT, oN] at HC5
              have D5 := Lib.hid HC5
              clear HC2 HC3 HC4 HC5 hstep HS HR hrest hsx h2 hx eb ec ed hlen hdr
              go_upto_region 18 with (first | (go_at_call 70; (first | (with_reducible refine (D1.out _).mono ?_) | (with_reducible refine (D2.out _).mono ?_)); rintro e w9 ⟨rfl, rfl⟩) | (go_at_call 74; (with_reducible refine (D5.out _ _ hr).mono ?_); rintro e w2 ⟨rfl, h2⟩))
              replace h2 := h2.alloc' (.cells #[.int .i64 kk, .string ⟨#[]⟩, .int .i64 0] 27)
              go_wp2_with fail
              rw [Exit.noGoto_ret]
              go_ret3
              exact ⟨_, rfl, rec_nil h2.drop⟩
            · have hres : res = .err 7 j := by
                rw [← HR.out, HS.out, hstep]
              subst hres
              simp only [oK, oT, oN] at HC5
              have D5 := Lib.hid HC5
              clear HC2 HC3 HC4 HC5 hstep HS HR hrest hsx h2 hx eb ec ed hlen hdr
              go_upto_region 18 with (first | (go_at_call 70; (first | (with_reducible refine (D1.out _).mono ?_) | (with_reducible refine (D2.out _).mono ?_)); rintro e w9 ⟨rfl, rfl⟩) | (go_at_call 74; (with_reducible refine (D5.out _ _ hr).mono ?_); rintro e w2 ⟨rfl, h2⟩))
              replace h2 := h2.alloc' (.cells #[.int .i64 5, .string ⟨#[]⟩, .int .i64 0] 27)
              go_wp2_with fail
              rw [Exit.noGoto_ret]
              go_ret3
              exact ⟨_, rfl, rec_nil h2.drop⟩
    · have hjs : j = s.size := by omega
      have he : scanF (f + 1) ((bl s).drop j) j acc = .ok acc := by
        rw [List.drop_eq_nil_of_le (by rw [bl_len]; omega)]; rfl
      have hres : res = .ok acc := by rw [← HR.out, he]
      subst hres
      have hlt' : ¬ (j : Int) < s.size := by omega
      clear HR hlt he
      go_wp2_with fail
      try rw [Exit.noGoto_ret]
      go_ret3
      exact ⟨_, rfl, hr⟩

end Go.Proofs.Ytoeepbjnbgpmpaa
