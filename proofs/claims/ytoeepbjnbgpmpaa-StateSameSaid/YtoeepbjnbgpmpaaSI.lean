/- Several texts in one: StNm, StRn, StDe, StDi. -/
import Derived.Test.YtoeepbjnbgpmpaaSH
namespace Go.Proofs.Ytoeepbjnbgpmpaa
set_option linter.all false
open Go Go.RowKit

theorem reads_from (s : ByteArray) : readsL [⟨1, cFrom, 0⟩, ⟨1, s, 0⟩] = if keyB s = true then [] else [s] := by
  obtain ⟨l, hl⟩ : ∃ l : List Tok, l = [⟨1, cFrom, 0⟩, ⟨1, s, 0⟩] := ⟨_, rfl⟩
  have hlen : l.length = 2 := by rw [hl]; rfl
  have h2 : namesAt l 2 = [] := by
    rw [namesAt_step, partAt_ge l _ (by have := nmI_le l 2; omega), if_neg (by decide)]
  have hp1 : partAt l 1 = !keyB s := by
    rw [partAt_lt l 1 (by omega)]
    subst hl
    simp [partB]
  have h1 : namesAt l 1 = if keyB s = true then [] else [s] := by
    rw [namesAt_step]
    by_cases hk : keyB s = true
    · rw [if_pos hk]
      have hpf : partAt l (nmI l 1) = false := by
        unfold nmI
        split
        · exact partAt_ge l _ (by omega)
        · rw [hp1, hk]; rfl
      rw [hpf, if_neg (by decide)]
    · rw [if_neg hk]
      have hne : ∀ c, keyB c = true → wdAt l ((1 : Nat) : Int) c = false := by
        intro c hc
        show isAt l ((1 : Nat) : Int) 1 c = false
        rw [isAt_lt l 1 1 c (by omega)]
        subst hl
        simp only [List.getElem_cons_succ, List.getElem_cons_zero, Bool.and_eq_false_iff, decide_eq_false_iff_not]
        right
        intro e
        rw [← e] at hc
        exact hk hc
      have hn : nmI l 1 = 1 := by
        unfold nmI
        rw [hne cOnly (by decide +kernel), hne cTable (by decide +kernel), if_neg (by decide)]
      rw [hn, hp1]
      have hkf : keyB s = false := by simpa using hk
      rw [hkf, if_pos (by decide)]
      have hd : dotAt l 1 = false := by
        unfold dotAt
        have : sgAt l ((1 + 1 : Nat) : Int) cDot = false := isAt_ge l 2 _ _ (by omega)
        rw [this]; rfl
      have ht : txAt l 1 = s := by rw [txAt_lt l 1 (by omega)]; subst hl; rfl
      have hnm : nmName l 1 = s := by unfold nmName; rw [hd, if_neg (by decide), ht]
      have he : sgAt l ((nmEnd l 1 : Nat) : Int) cComma = false := isAt_ge l _ _ _ (by have := nmEnd_lt l 1; omega)
      rw [hnm, he, if_neg (by decide)]
  show readsL _ = _
  rw [← hl]
  unfold readsL
  rw [hlen, rAll, rAll, rAll, h1, h2]
  have hc : readC l 0 = true := by subst hl; rfl
  rw [hc, if_pos rfl, ite_self, List.append_nil, List.nil_append]
  by_cases hk : keyB s = true
  · rw [if_pos hk]; rfl
  · rw [if_neg hk]; rfl

def oneW (s : ByteArray) (l : List Tok) : Bool := match l with
  | [x] => decide (x.k = 1) && decide (x.t = s)
  | _ => false
def badW (s : ByteArray) : Bool := decide (s = cInsert) || decide (s = cUpdate) || decide (s = cDelete) || decide (s = cMerge)
/-- A text that names a table. -/
def nameB (s : ByteArray) : Bool := !badW s && (decide (s.size ≤ 30) && (decide (rE (scanB s) = 0) && (oneW s (rL (scanB s)) && !keyB s)))

theorem tl_ins (s : ByteArray) : (s.toList == [105, 110, 115, 101, 114, 116]) = decide (s = cInsert) := tl_const s cInsert _ (by decide +kernel)
theorem tl_upd (s : ByteArray) : (s.toList == [117, 112, 100, 97, 116, 101]) = decide (s = cUpdate) := tl_const s cUpdate _ (by decide +kernel)
theorem tl_del (s : ByteArray) : (s.toList == [100, 101, 108, 101, 116, 101]) = decide (s = cDelete) := tl_const s cDelete _ (by decide +kernel)
theorem tl_mer (s : ByteArray) : (s.toList == [109, 101, 114, 103, 101]) = decide (s = cMerge) := tl_const s cMerge _ (by decide +kernel)

theorem wreads_lit (k : Env) (w : World) (R : Assn) (s : ByteArray) (hs : s.size ≤ 1000000) (h : Sat k w R) (g : Nat) (hg : w.heap.size = g) :
    Calls Try.prog 53 #[.slice (some ⟨g, 0, none⟩) 2 2] (w.alloc (.cells #[.int .i64 1, .string ⟨#[102, 114, 111, 109]⟩, .int .i64 0, .int .i64 1, .string s, .int .i64 0] 27)) fun e w' => ∃ v c, e = .returned (.slice v (if keyB s = true then [] else [s]).length c) ∧ Sat k w' (Strs (.slice v (if keyB s = true then [] else [s]).length c) (if keyB s = true then [] else [s]) * R) := by
  have hT : ∀ x ∈ ([⟨1, cFrom, 0⟩, ⟨1, s, 0⟩] : List Tok), x.t.size ≤ 1000000 := by
    intro x hx
    simp only [List.mem_cons, List.not_mem_nil, or_false] at hx
    rcases hx with rfl | rfl
    · decide
    · exact hs
  have h1 : Sat k (w.alloc (.cells #[.int .i64 1, .string ⟨#[102, 114, 111, 109]⟩, .int .i64 0, .int .i64 1, .string s, .int .i64 0] 27)) (Toks (.slice (some ⟨g, 0, none⟩) 2 2) [⟨1, cFrom, 0⟩, ⟨1, s, 0⟩] * R) := by
    subst hg
    exact own_mk (h.alloc _) (Nat.le_refl _) (by decide) (show 6 ≤ 6 from Nat.le_refl _) rfl rfl
  have C := reads_any k _ _ _ 2 [⟨1, cFrom, 0⟩, ⟨1, s, 0⟩] (rdt_own h1) (by simp) hT h1
  rw [reads_from] at C
  refine C.mono ?_
  rintro e w1 ⟨v, c, rfl, h2⟩
  exact ⟨v, c, rfl, h2.swap.drop⟩
theorem wrreads_lit (k : Env) (w : World) (R : Assn) (s : ByteArray) (hs : s.size ≤ 1000000) (h : Sat k w R) (g : Nat) (hg : w.heap.size = g) :
    Calls Try.prog 54 #[.slice (some ⟨g, 0, none⟩) 2 2] (w.alloc (.cells #[.int .i64 1, .string ⟨#[102, 114, 111, 109]⟩, .int .i64 0, .int .i64 1, .string s, .int .i64 0] 27)) fun e w' => ∃ v c, e = .returned (.slice v (if keyB s = true then [] else [s]).length c) ∧ Sat k w' (Strs (.slice v (if keyB s = true then [] else [s]).length c) (if keyB s = true then [] else [s]) * R) := by
  have hT : ∀ x ∈ ([⟨1, cFrom, 0⟩, ⟨1, s, 0⟩] : List Tok), x.t.size ≤ 1000000 := by
    intro x hx
    simp only [List.mem_cons, List.not_mem_nil, or_false] at hx
    rcases hx with rfl | rfl
    · decide
    · exact hs
  have h1 : Sat k (w.alloc (.cells #[.int .i64 1, .string ⟨#[102, 114, 111, 109]⟩, .int .i64 0, .int .i64 1, .string s, .int .i64 0] 27)) (Toks (.slice (some ⟨g, 0, none⟩) 2 2) [⟨1, cFrom, 0⟩, ⟨1, s, 0⟩] * R) := by
    subst hg
    exact own_mk (h.alloc _) (Nat.le_refl _) (by decide) (show 6 ≤ 6 from Nat.le_refl _) rfl rfl
  have C := rreads_any k _ _ _ 2 [⟨1, cFrom, 0⟩, ⟨1, s, 0⟩] (rdt_own h1) (by simp) hT h1
  rw [reads_from] at C
  refine C.mono ?_
  rintro e w1 ⟨v, c, rfl, h2⟩
  exact ⟨v, c, rfl, h2.swap.drop⟩


set_option maxRecDepth 100000 in
set_option maxHeartbeats 8000000 in
theorem word8_any (k : Env) (w : World) (R : Assn) (s : ByteArray) (hs : s.size ≤ 100000) (h : Sat k w R) :
    Calls Try.prog 31 #[.string s] w fun e w' => e = .returned (.bool (nameB s)) ∧ Sat k w' R := by
  obtain ⟨res, hres⟩ : ∃ res, nameB s = res := ⟨_, rfl⟩
  rw [hres]
  have C1 := scan_any k w R s (by omega) h
  have C2 := Lib.hid (fun w R h => wreads_lit k w R s (by omega) h _ rfl)
  have hres2 : (!badW s && (decide (s.size ≤ 30) && (decide (rE (scanB s) = 0) && (oneW s (rL (scanB s)) && !keyB s)))) = res := hres
  unfold badW at hres2
  have q1 := tl_ins s
  have q2 := tl_upd s
  have q3 := tl_del s
  have q4 := tl_mer s
  generalize rE (scanB s) = er at *
  generalize rA (scanB s) = ar at *
  generalize rL (scanB s) = L at *
  generalize decide (s = cInsert) = b1 at *
  generalize decide (s = cUpdate) = b2 at *
  generalize decide (s = cDelete) = b3 at *
  generalize decide (s = cMerge) = b4 at *
  have HRES := Lib.hid hres2
  have D1 := Lib.hid C1
  clear hres hres2 h C1
  go_enter Try.func31, Try.ntmps31
  go_upto_region 2 with (go_at_call 52; (refine (D1.out).mono ?_); rintro e w1 ⟨v, rfl, h1⟩)
  clear D1
  obtain ⟨av, cv, rfl⟩ := rec_val h1
  cases b1 with
  | true =>
    obtain rfl : res = false := HRES.out.symm
    clear HRES C2
    go_wp2_with fail
    go_ret
    exact ⟨rfl, h1.drop⟩
  | false =>
    cases b2 with
    | true =>
      obtain rfl : res = false := HRES.out.symm
      clear HRES C2
      go_wp2_with fail
      go_ret
      exact ⟨rfl, h1.drop⟩
    | false =>
      cases b3 with
      | true =>
        obtain rfl : res = false := HRES.out.symm
        clear HRES C2
        go_wp2_with fail
        go_ret
        exact ⟨rfl, h1.drop⟩
      | false =>
        cases b4 with
        | true =>
          obtain rfl : res = false := HRES.out.symm
          clear HRES C2
          go_wp2_with fail
          go_ret
          exact ⟨rfl, h1.drop⟩
        | false =>
          have hr3 : (decide (s.size ≤ 30) && (decide (er = 0) && (oneW s L && !keyB s))) = res := HRES.out
          have HR3 := Lib.hid hr3
          clear HRES hr3
          have HK : Hid (∀ b, keyB s = b → (decide (s.size ≤ 30) && (decide (er = 0) && (oneW s L && !b))) = res) := by intro b hb; rw [← hb]; exact HR3.out
          clear HR3
          have C3 := C2.out w1 _ h1
          clear C2
          obtain ⟨N, hN, hNl⟩ : ∃ N : List ByteArray, (if keyB s = true then [] else [s]) = N ∧ (((N.length : Int) == 1) = !keyB s) := by
            cases keyB s
            · exact ⟨_, rfl, rfl⟩
            · exact ⟨_, rfl, rfl⟩
          rw [hN] at C3
          have D3 := Lib.hid C3
          generalize hkk : keyB s = kb at *
          have HR3 := Lib.hid (HK.out kb rfl)
          clear C3 hN HK hkk
          go_upto_region 9 with (go_at_call 53; (refine (D3.out).mono ?_); rintro e w2 ⟨v2, c2, rfl, h2⟩)
          clear D3 h1
          by_cases hsz : s.size ≤ 30
          · have hsz' : (s.size : Int) ≤ 30 := by omega
            by_cases he : er = 0
            · have he' : ((er : Int) == 0) = true := by simp [he]
              cases L with
              | nil =>
                obtain rfl : res = false := by rw [← HR3.out]; simp [oneW]
                (
                  clear HR3
                  go_wp2_with fail
                  go_ret
                  exact ⟨rfl, h2.drop.drop⟩)
              | cons x r =>
                cases r with
                | cons y r =>
                  have hl1 : (((x :: y :: r).length : Int) == 1) = false := by simp; omega
                  obtain rfl : res = false := by rw [← HR3.out]; simp [oneW]
                  (
                    clear HR3
                    go_wp2_with fail
                    go_ret
                    exact ⟨rfl, h2.drop.drop⟩)
                | nil =>
                  obtain ⟨g, hg, _, hcl⟩ := rec_get h2.swap (by decide) 0 (by simp)
                  subst hg
                  have c0 : w2.cell? ⟨g, 0, none⟩ = some (.int .i64 x.k) := hcl 0 (by decide)
                  have c1 : w2.cell? ⟨g, 1, none⟩ = some (.string x.t) := hcl 1 (by decide)
                  clear hcl
                  have hk1 : ((x.k : Int) == 1) = decide (x.k = 1) := by rw [Bool.eq_iff_iff]; simp
                  have ht1 : (x.t.toList == s.toList) = decide (x.t = s) := tl_beq _ _
                  have hr4 : (decide (s.size ≤ 30) && (decide (er = 0) && ((decide (x.k = 1) && decide (x.t = s)) && !kb))) = res := HR3.out
                  rw [decide_eq_true hsz, decide_eq_true he, Bool.true_and, Bool.true_and] at hr4
                  generalize decide (x.k = 1) = d1 at *
                  generalize decide (x.t = s) = d2 at *
                  have HR4 := Lib.hid hr4
                  clear hr4 HR3 hsz he
                  cases d1 with
                  | false =>
                    obtain rfl : res = false := HR4.out.symm
                    go_wp2_with fail
                    go_ret
                    exact ⟨rfl, h2.drop.drop⟩
                  | true =>
                    cases d2 with
                    | false =>
                      obtain rfl : res = false := HR4.out.symm
                      go_wp2_with fail
                      go_ret
                      exact ⟨rfl, h2.drop.drop⟩
                    | true =>
                      obtain rfl : res = !kb := HR4.out.symm
                      go_wp2_with fail
                      go_ret
                      exact ⟨rfl, h2.drop.drop⟩
            · have he' : ((er : Int) == 0) = false := by simp [he]
              obtain rfl : res = false := by rw [← HR3.out, decide_eq_false he]; simp
              (
                clear HR3
                go_wp2_with fail
                go_ret
                exact ⟨rfl, h2.drop.drop⟩)
          · have hsz' : ¬ (s.size : Int) ≤ 30 := by omega
            obtain rfl : res = false := by rw [← HR3.out, decide_eq_false hsz]; rfl
            (
              clear HR3
              go_wp2_with fail
              go_ret
              exact ⟨rfl, h2.drop.drop⟩)

end Go.Proofs.Ytoeepbjnbgpmpaa

namespace Go.Proofs.Ytoeepbjnbgpmpaa
set_option linter.all false
open Go Go.RowKit

set_option maxHeartbeats 2000000 in
theorem rtexts_ne (k : Env) (w : World) (R : Assn) (a : Option Addr) (c : Nat) (b : Option Addr) (d : Nat) (l m : List ByteArray) (hn : l.length ≠ m.length) (h : Sat k w R) :
    Calls Try.prog 55 #[.slice a l.length c, .slice b m.length d] w fun e w' => e = .returned (.bool false) ∧ Sat k w' R := by
  have h1 : ((l.length : Int) == m.length) = false := by simp; omega
  have h2 : ((l.length : Int) != m.length) = true := by rw [bne, h1]; rfl
  clear hn
  go_enter Try.func55, Try.ntmps55
  go_wp2_with fail
  go_ret
  exact ⟨rfl, h⟩
theorem strs_one1 {k : Env} {w : World} {R : Assn} {g : Nat} {s : ByteArray} (h : Sat k w (blk g (.cells #[.string s] 9 (0, 0)) * R)) : Sat k w (Strs (.slice (some ⟨g, 0, none⟩) 1 1) [s] * R) :=
  own_mk h (Nat.le_refl _) (by decide) (Nat.le_refl 1) rfl rfl


set_option maxRecDepth 100000 in
set_option maxHeartbeats 8000000 in
theorem name8_any (k : Env) (w : World) (R : Assn) (s : ByteArray) (hs : s.size ≤ 100000) (h : Sat k w R) :
    Calls Try.prog 34 #[.string s] w fun e w' => e = .returned (.bool (nameB s)) ∧ Sat k w' R := by
  obtain ⟨res, hres⟩ : ∃ res, nameB s = res := ⟨_, rfl⟩
  rw [hres]
  have C1 := rscan_any k w R s (by omega) h
  have C2 := Lib.hid (fun w R h => wrreads_lit k w R s (by omega) h _ rfl)
  have hres2 : (!badW s && (decide (s.size ≤ 30) && (decide (rE (scanB s) = 0) && (oneW s (rL (scanB s)) && !keyB s)))) = res := hres
  unfold badW at hres2
  have q1 := tl_ins s
  have q2 := tl_upd s
  have q3 := tl_del s
  have q4 := tl_mer s
  generalize rE (scanB s) = er at *
  generalize rA (scanB s) = ar at *
  generalize rL (scanB s) = L at *
  generalize decide (s = cInsert) = b1 at *
  generalize decide (s = cUpdate) = b2 at *
  generalize decide (s = cDelete) = b3 at *
  generalize decide (s = cMerge) = b4 at *
  have HRES := Lib.hid hres2
  have D1 := Lib.hid C1
  clear hres hres2 h C1
  go_enter Try.func34, Try.ntmps34
  go_upto_region 2 with (go_at_call 26; (refine (D1.out).mono ?_); rintro e w1 ⟨v, rfl, h1⟩)
  clear D1
  obtain ⟨av, cv, rfl⟩ := rec_val h1
  have HK : Hid (∀ b, keyB s = b → (!(b1 || b2 || b3 || b4) && (decide (s.size ≤ 30) && (decide (er = 0) && (oneW s L && !b)))) = res) := by intro b hb; rw [← hb]; exact HRES.out
  clear HRES
  have C3 := C2.out w1 _ h1
  clear C2
  obtain ⟨N, hN, hNl⟩ : ∃ N : List ByteArray, (if keyB s = true then [] else [s]) = N ∧ ((keyB s = true ∧ N = []) ∨ (keyB s = false ∧ N = [s])) := by
    cases keyB s
    · exact ⟨_, rfl, .inr ⟨rfl, rfl⟩⟩
    · exact ⟨_, rfl, .inl ⟨rfl, rfl⟩⟩
  rw [hN] at C3
  have D3 := Lib.hid C3
  have HNL := Lib.hid hNl
  generalize hkk : keyB s = kb at *
  have HR3 := Lib.hid (HK.out kb rfl)
  clear C3 hN HK hkk hNl
  go_upto_region 3 with (go_at_call 54; (refine (D3.out).mono ?_); rintro e w2 ⟨v2, c2, rfl, h2⟩)
  clear D3 h1
  by_cases hbw : (b1 || b2 || b3 || b4) = true
  · obtain rfl : res = false := by rw [← HR3.out, hbw]; rfl
    have h5 : b1 = true ∨ (b1 = false ∧ b2 = true) ∨ (b1 = false ∧ b2 = false ∧ b3 = true) ∨ (b1 = false ∧ b2 = false ∧ b3 = false ∧ b4 = true) := by
      cases b1 <;> cases b2 <;> cases b3 <;> cases b4 <;> simp_all
    clear HR3 hbw HNL
    rcases h5 with rfl | ⟨rfl, rfl⟩ | ⟨rfl, rfl, rfl⟩ | ⟨rfl, rfl, rfl, rfl⟩
    all_goals
      go_wp2_with fail
      go_ret
      exact ⟨rfl, h2.drop.drop⟩
  · obtain ⟨rfl, rfl, rfl, rfl⟩ : b1 = false ∧ b2 = false ∧ b3 = false ∧ b4 = false := by
      cases b1 <;> cases b2 <;> cases b3 <;> cases b4 <;> simp_all
    have HR3' : Hid ((decide (s.size ≤ 30) && (decide (er = 0) && (oneW s L && !kb))) = res) := HR3.out
    clear HR3 hbw
    have HR3 := HR3'
    clear HR3'
    by_cases hsz : s.size ≤ 30
    · have hsz' : (s.size : Int) ≤ 30 := by omega
      by_cases he : er = 0
      · have he' : ((er : Int) == 0) = true := by simp [he]
        cases L with
        | nil =>
          obtain rfl : res = false := by rw [← HR3.out]; simp [oneW]
          (
            clear HR3
            go_wp2_with fail
            go_ret
            exact ⟨rfl, h2.drop.drop⟩)
        | cons x r =>
          cases r with
          | cons y r =>
            have hl1 : (((x :: y :: r).length : Int) == 1) = false := by simp; omega
            obtain rfl : res = false := by rw [← HR3.out]; simp [oneW]
            (
              clear HR3
              go_wp2_with fail
              go_ret
              exact ⟨rfl, h2.drop.drop⟩)
          | nil =>
            obtain ⟨g, hg, _, hcl⟩ := rec_get h2.swap (by decide) 0 (by simp)
            subst hg
            have c0 : w2.cell? ⟨g, 0, none⟩ = some (.int .i64 x.k) := hcl 0 (by decide)
            have c1 : w2.cell? ⟨g, 1, none⟩ = some (.string x.t) := hcl 1 (by decide)
            clear hcl
            have hk1 : ((x.k : Int) == 1) = decide (x.k = 1) := by rw [Bool.eq_iff_iff]; simp
            have ht1 : (x.t.toList == s.toList) = decide (x.t = s) := tl_beq _ _
            have hr4 : (decide (s.size ≤ 30) && (decide (er = 0) && ((decide (x.k = 1) && decide (x.t = s)) && !kb))) = res := HR3.out
            rw [decide_eq_true hsz, decide_eq_true he, Bool.true_and, Bool.true_and] at hr4
            generalize decide (x.k = 1) = d1 at *
            generalize decide (x.t = s) = d2 at *
            have HR4 := Lib.hid hr4
            clear hr4 HR3 hsz he
            cases d1 with
            | false =>
              obtain rfl : res = false := HR4.out.symm
              go_wp2_with fail
              go_ret
              exact ⟨rfl, h2.drop.drop⟩
            | true =>
              cases d2 with
              | false =>
                obtain rfl : res = false := HR4.out.symm
                go_wp2_with fail
                go_ret
                exact ⟨rfl, h2.drop.drop⟩
              | true =>
                obtain rfl : res = !kb := HR4.out.symm
                have h3 := (h2.alloc (.cells #[.string s] 9))
                rcases HNL.out with ⟨rfl, rfl⟩ | ⟨rfl, rfl⟩
                · have D4 := Lib.hid (fun w g (h : Sat k w R) => rtexts_ne k w R v2 c2 (some ⟨g, 0, none⟩) 1 [] [s] (by simp) h)
                  clear HNL
                  go_wp2_with (go_at_call 55; (refine (D4.out _ _ h3.drop.drop.drop).mono ?_); rintro e w5 ⟨rfl, h5⟩)
                  go_ret
                  exact ⟨rfl, h5⟩
                · have hb4 := strs_one1 h3
                  have D4 := Lib.hid (rtexts_any k _ _ v2 c2 (some ⟨w2.heap.size, 0, none⟩) 1 [s] ((rd_own (l := [s]) hb4.swap).mono fun _ q => q.swap) (rd_own (l := [s]) hb4) (by simp) hb4)
                  clear HNL
                  go_wp2_with (go_at_call 55; (refine (D4.out).mono ?_); rintro e w5 ⟨rfl, h5⟩)
                  go_ret
                  exact ⟨rfl, h5.drop.drop.drop⟩
      · have he' : ((er : Int) == 0) = false := by simp [he]
        obtain rfl : res = false := by rw [← HR3.out, decide_eq_false he]; simp
        (
          clear HR3
          go_wp2_with fail
          go_ret
          exact ⟨rfl, h2.drop.drop⟩)
    · have hsz' : ¬ (s.size : Int) ≤ 30 := by omega
      obtain rfl : res = false := by rw [← HR3.out, decide_eq_false hsz]; rfl
      (
        clear HR3
        go_wp2_with fail
        go_ret
        exact ⟨rfl, h2.drop.drop⟩)

end Go.Proofs.Ytoeepbjnbgpmpaa

namespace Go.Proofs.Ytoeepbjnbgpmpaa
set_option linter.all false
open Go Go.RowKit

def digU (n : Nat) : UInt8 := UInt8.ofNat (48 + n)
theorem digU_nat {n : Nat} (h : n < 10) : (digU n).toNat = 48 + n := by
  unfold digU
  rw [UInt8.toNat_ofNat']
  omega
/-- A number in digits: with fuel. -/
def decF : Nat → Nat → List UInt8
  | 0, n => [digU n]
  | f + 1, n => if n < 10 then [digU n] else decF f (n / 10) ++ [digU (n % 10)]
def decL (n : Nat) : List UInt8 := decF 5 n
theorem decF_len : ∀ (f n : Nat), (decF f n).length ≤ f + 1
  | 0, _ => Nat.le_refl _
  | f + 1, n => by
    rw [decF]
    split
    · simp
    · rw [List.length_append]
      have := decF_len f (n / 10)
      simp; omega

theorem conv_one (w : World) (g : Nat) (d : UInt8) (h : w.cell? ⟨g, 0, none⟩ = some (.int .u8 (d.toNat : Int))) : (convert 82 9 (.slice (some ⟨g, 0, none⟩) 1 1)).run Try.prog w = .ok (.string (mk [d])) w :=
  run_convert_bytes_back w 82 9 5 ⟨g, 0, none⟩ 1 [d] Try.underlying82 Try.underlying5 Try.underlying9 fun j hj => by
    have : j = 0 := by simp at hj; omega
    subst this
    rw [Addr.add_lit]
    exact h

theorem conv_new (w : World) (d : UInt8) : (convert 82 9 (.slice (some ⟨w.heap.size, 0, none⟩) 1 1)).run Try.prog (w.alloc (.cells #[.int .u8 (d.toNat : Int)] 5)) = .ok (.string (mk [d])) (w.alloc (.cells #[.int .u8 (d.toNat : Int)] 5)) :=
  conv_one _ _ d (by rw [World.cell?_alloc_new]; rfl)

set_option maxRecDepth 100000 in
set_option maxHeartbeats 4000000 in
theorem dec_any (k : Env) : ∀ (f n : Nat) (w : World) (R : Assn), n < 10 ^ (f + 1) → f ≤ 15 → Sat k w R →
    Calls Try.prog 33 #[.int .i64 n] w fun e w' => e = .returned (.string (mk (decF f n))) ∧ Sat k w' R := by
  intro f
  induction f with
  | zero =>
    intro n w R hn _ h
    have hn' : (n : Int) < 10 := by omega
    obtain ⟨d, hd⟩ : ∃ d, digU n = d := ⟨_, rfl⟩
    have hdn : (d.toNat : Int) = 48 + n := by rw [← hd, digU_nat (by omega)]; omega
    show Calls _ _ _ _ fun e w' => e = .returned (.string (mk [digU n])) ∧ _
    rw [hd]
    have hw1 : IntKind.i64.wrap (48 + (n : Int)) = (d.toNat : Int) := by rw [IntWalk.i64_in _ (by omega), hdn]
    have hw2 : IntKind.u8.wrap (d.toNat : Int) = (d.toNat : Int) := by have := d.toNat_lt; simp [IntKind.wrap, IntKind.bits, IntKind.signed]; omega
    have h1 := h.alloc (.cells #[.int .u8 (d.toNat : Int)] 5)
    have hc := conv_one _ _ d (h1.cell 0)
    clear hd hdn hn h
    go_enter Try.func33, Try.ntmps33
    go_wp2_with fail
    go_ret
    exact ⟨rfl, h1.drop⟩
  | succ f ih =>
    intro n w R hn hf h
    by_cases h10 : n < 10
    · have hn' : (n : Int) < 10 := by omega
      obtain ⟨d, hd⟩ : ∃ d, digU n = d := ⟨_, rfl⟩
      have hdn : (d.toNat : Int) = 48 + n := by rw [← hd, digU_nat (by omega)]; omega
      have he : decF (f + 1) n = [d] := by rw [decF, if_pos h10, hd]
      rw [he]
      have hw1 : IntKind.i64.wrap (48 + (n : Int)) = (d.toNat : Int) := by rw [IntWalk.i64_in _ (by omega), hdn]
      have hw2 : IntKind.u8.wrap (d.toNat : Int) = (d.toNat : Int) := by have := d.toNat_lt; simp [IntKind.wrap, IntKind.bits, IntKind.signed]; omega
      have h1 := h.alloc (.cells #[.int .u8 (d.toNat : Int)] 5)
      have hc := conv_one _ _ d (h1.cell 0)
      clear hd hdn hn h he ih h10
      go_enter Try.func33, Try.ntmps33
      go_wp2_with fail
      go_ret
      exact ⟨rfl, h1.drop⟩
    · have hn' : ¬ (n : Int) < 10 := by omega
      obtain ⟨m, hm⟩ : ∃ m, n / 10 = m := ⟨_, rfl⟩
      obtain ⟨r, hr⟩ : ∃ r, n % 10 = r := ⟨_, rfl⟩
      obtain ⟨d, hd⟩ : ∃ d, digU r = d := ⟨_, rfl⟩
      have hdn : (d.toNat : Int) = 48 + r := by rw [← hd, digU_nat (by omega)]; omega
      have he : decF (f + 1) n = decF f m ++ [d] := by rw [decF, if_neg h10, hm, hr, hd]
      have hmk : mk (decF f m ++ [d]) = mk (decF f m) ++ mk [d] := by apply ByteArray.ext; simp [mk]
      have hlen := decF_len f m
      rw [he]
      have hq1 : Int.tdiv (n : Int) 10 = (m : Int) := by rw [Int.tdiv_eq_ediv_of_nonneg (by omega)]; omega
      have hq2 : Int.tmod (n : Int) 10 = (r : Int) := by rw [Int.tmod_eq_emod_of_nonneg (by omega)]; omega
      have hw0 : IntKind.i64.wrap (m : Int) = (m : Int) := IntWalk.i64_in _ (by have : 10 ^ (f + 1 + 1) ≤ 10 ^ 17 := Nat.pow_le_pow_right (by decide) (by omega); omega)
      have hw1 : IntKind.i64.wrap (48 + (r : Int)) = (d.toNat : Int) := by rw [IntWalk.i64_in _ (by omega), hdn]
      have hw2 : IntKind.u8.wrap (d.toNat : Int) = (d.toNat : Int) := by have := d.toNat_lt; simp [IntKind.wrap, IntKind.bits, IntKind.signed]; omega
      have hm2 : m < 10 ^ (f + 1) := by
        rw [Nat.pow_succ] at hn
        omega
      have IH := Lib.hid (fun w R h => ih m w R hm2 (by omega) h)
      have h1 := h.alloc (.cells #[.int .u8 (d.toNat : Int)] 5)
      have hsum : ¬ 9223372036854775807 < (decF f m).length + 1 := by omega
      generalize decF f m = D at *
      have HMK := Lib.hid hmk
      clear hd hdn hn he ih h10 hm hr hmk hm2 hlen
      go_enter Try.func33, Try.ntmps33
      have hc0 := conv_one _ _ d (h1.drew.cell 0)
      go_upto_region 3 with fail
      go_region_law (first | (go_simp; go_at_call 33; (with_reducible refine (IH.out _ _ (Sat.drew h1)).mono ?_); rintro e w4 ⟨rfl, h4⟩; have hc4 := conv_one _ _ d (h4.cell 0)) | (go_simp; go_at_call 33; (with_reducible refine (IH.out _ _ (Sat.drew h)).mono ?_); rintro e w4 ⟨rfl, h4⟩; have hc4 := fun (w : World) => conv_new w d) | fail)
      all_goals
        go_wp2_with fail
        go_ret
        rw [HMK.out]
        first | exact ⟨rfl, h4.drop⟩ | exact ⟨rfl, (h4.alloc _).drop⟩

end Go.Proofs.Ytoeepbjnbgpmpaa

namespace Go.Proofs.Ytoeepbjnbgpmpaa
set_option linter.all false
open Go Go.RowKit

set_option maxRecDepth 100000 in
set_option maxHeartbeats 4000000 in
theorem rdig_any (k : Env) : ∀ (f n : Nat) (w : World) (R : Assn), n < 10 ^ (f + 1) → f ≤ 15 → Sat k w R →
    Calls Try.prog 36 #[.int .i64 n] w fun e w' => e = .returned (.string (mk (decF f n))) ∧ Sat k w' R := by
  intro f
  induction f with
  | zero =>
    intro n w R hn _ h
    have hn' : (n : Int) < 10 := by omega
    have hn0 : ¬ (n : Int) < 0 := by omega
    obtain ⟨d, hd⟩ : ∃ d, digU n = d := ⟨_, rfl⟩
    have hdn : (d.toNat : Int) = 48 + n := by rw [← hd, digU_nat (by omega)]; omega
    show Calls _ _ _ _ fun e w' => e = .returned (.string (mk [digU n])) ∧ _
    rw [hd]
    have hw1 : IntKind.i64.wrap (48 + (n : Int)) = (d.toNat : Int) := by rw [IntWalk.i64_in _ (by omega), hdn]
    have hw2 : IntKind.u8.wrap (d.toNat : Int) = (d.toNat : Int) := by have := d.toNat_lt; simp [IntKind.wrap, IntKind.bits, IntKind.signed]; omega
    have h1 := h.alloc (.cells #[.int .u8 (d.toNat : Int)] 5)
    have hc := conv_one _ _ d (h1.cell 0)
    clear hd hdn hn h
    go_enter Try.func36, Try.ntmps36
    go_wp2_with fail
    go_ret
    exact ⟨rfl, h1.drop⟩
  | succ f ih =>
    intro n w R hn hf h
    by_cases h10 : n < 10
    · have hn' : (n : Int) < 10 := by omega
      have hn0 : ¬ (n : Int) < 0 := by omega
      obtain ⟨d, hd⟩ : ∃ d, digU n = d := ⟨_, rfl⟩
      have hdn : (d.toNat : Int) = 48 + n := by rw [← hd, digU_nat (by omega)]; omega
      have he : decF (f + 1) n = [d] := by rw [decF, if_pos h10, hd]
      rw [he]
      have hw1 : IntKind.i64.wrap (48 + (n : Int)) = (d.toNat : Int) := by rw [IntWalk.i64_in _ (by omega), hdn]
      have hw2 : IntKind.u8.wrap (d.toNat : Int) = (d.toNat : Int) := by have := d.toNat_lt; simp [IntKind.wrap, IntKind.bits, IntKind.signed]; omega
      have h1 := h.alloc (.cells #[.int .u8 (d.toNat : Int)] 5)
      have hc := conv_one _ _ d (h1.cell 0)
      clear hd hdn hn h he ih h10
      go_enter Try.func36, Try.ntmps36
      go_wp2_with fail
      go_ret
      exact ⟨rfl, h1.drop⟩
    · have hn' : ¬ (n : Int) < 10 := by omega
      have hn0 : ¬ (n : Int) < 0 := by omega
      obtain ⟨m, hm⟩ : ∃ m, n / 10 = m := ⟨_, rfl⟩
      obtain ⟨r, hr⟩ : ∃ r, n % 10 = r := ⟨_, rfl⟩
      obtain ⟨d, hd⟩ : ∃ d, digU r = d := ⟨_, rfl⟩
      have hdn : (d.toNat : Int) = 48 + r := by rw [← hd, digU_nat (by omega)]; omega
      have he : decF (f + 1) n = decF f m ++ [d] := by rw [decF, if_neg h10, hm, hr, hd]
      have hmk : mk (decF f m ++ [d]) = mk (decF f m) ++ mk [d] := by apply ByteArray.ext; simp [mk]
      have hlen := decF_len f m
      rw [he]
      have hq1 : Int.tdiv (n : Int) 10 = (m : Int) := by rw [Int.tdiv_eq_ediv_of_nonneg (by omega)]; omega
      have hq2 : Int.tmod (n : Int) 10 = (r : Int) := by rw [Int.tmod_eq_emod_of_nonneg (by omega)]; omega
      have hw0 : IntKind.i64.wrap (m : Int) = (m : Int) := IntWalk.i64_in _ (by have : 10 ^ (f + 1 + 1) ≤ 10 ^ 17 := Nat.pow_le_pow_right (by decide) (by omega); omega)
      have hw1 : IntKind.i64.wrap (48 + (r : Int)) = (d.toNat : Int) := by rw [IntWalk.i64_in _ (by omega), hdn]
      have hw2 : IntKind.u8.wrap (d.toNat : Int) = (d.toNat : Int) := by have := d.toNat_lt; simp [IntKind.wrap, IntKind.bits, IntKind.signed]; omega
      have hm2 : m < 10 ^ (f + 1) := by
        rw [Nat.pow_succ] at hn
        omega
      have IH := Lib.hid (fun w R h => ih m w R hm2 (by omega) h)
      have h1 := h.alloc (.cells #[.int .u8 (d.toNat : Int)] 5)
      have hsum : ¬ 9223372036854775807 < (decF f m).length + 1 := by omega
      generalize decF f m = D at *
      have HMK := Lib.hid hmk
      clear hd hdn hn he ih h10 hm hr hmk hm2 hlen
      go_enter Try.func36, Try.ntmps36
      have hc0 := conv_one _ _ d (h1.drew.cell 0)
      go_upto_region 5 with fail
      go_region_law (first | (go_simp; go_at_call 36; (with_reducible refine (IH.out _ _ (Sat.drew h1)).mono ?_); rintro e w4 ⟨rfl, h4⟩; have hc4 := conv_one _ _ d (h4.cell 0)) | (go_simp; go_at_call 36; (with_reducible refine (IH.out _ _ (Sat.drew h)).mono ?_); rintro e w4 ⟨rfl, h4⟩; have hc4 := fun (w : World) => conv_new w d) | fail)
      all_goals
        go_wp2_with fail
        go_ret
        rw [HMK.out]
        first | exact ⟨rfl, h4.drop⟩ | exact ⟨rfl, (h4.alloc _).drop⟩

end Go.Proofs.Ytoeepbjnbgpmpaa
