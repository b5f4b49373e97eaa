/- Contracts of Of. -/
import Derived.Test.YtkjhfpjjcagecaaSetsJ
import Derived.Deep.CutBlock
namespace Go.Proofs.Ytkjhfpjjcagecaa
set_option linter.all false
open Go Go.RowKit

def ofR (l : List Tok) : List ByteArray := if classL l = 2 ∨ classL l = 1 ∨ classL l = 7 then readsL l else []
def ofW (l : List Tok) : List ByteArray := if classL l = 2 then writesS l else []
/-- A statement's value. -/
def StV (v : Value) (cl : Int) (rs ws : List ByteArray) (nm : ByteArray) : Assn :=
  ex fun p : Value × Value => pur (v = .agg #[.int .i64 cl, p.1, p.2, .string nm]) * (Strs p.1 rs * Strs p.2 ws)
theorem stv_close {k : Env} {w : World} {R : Assn} {cl : Int} {v1 v2 : Value} {rs ws : List ByteArray} {nm : ByteArray} (h : Sat k w (Strs v1 rs * (Strs v2 ws * R))) : Sat k w (StV (.agg #[.int .i64 cl, v1, v2, .string nm]) cl rs ws nm * R) :=
  Sat.ex.2 ⟨(v1, v2), by rw [star_assoc]; exact Sat.pure.2 ⟨rfl, by rw [star_assoc]; exact h⟩⟩
theorem stv_open {k : Env} {w : World} {R : Assn} {v : Value} {cl : Int} {rs ws : List ByteArray} {nm : ByteArray} (h : Sat k w (StV v cl rs ws nm * R)) : ∃ a1 c1 a2 c2, v = .agg #[.int .i64 cl, .slice a1 rs.length c1, .slice a2 ws.length c2, .string nm] ∧ Sat k w (Strs (.slice a1 rs.length c1) rs * (Strs (.slice a2 ws.length c2) ws * R)) := by
  obtain ⟨⟨v1, v2⟩, h⟩ := Sat.ex.1 h
  simp only [star_assoc] at h
  obtain ⟨rfl, h'⟩ := Sat.pure.1 h
  obtain ⟨a1, c1, rfl⟩ := own_val h'
  obtain ⟨a2, c2, rfl⟩ := own_val h'.swap
  exact ⟨a1, c1, a2, c2, rfl, h'⟩
theorem strs_no {k : Env} {w : World} {R : Assn} (h : Sat k w R) : Sat k w (Strs (.slice none ([] : List ByteArray).length 0) [] * R) := own_nil h

theorem strs_no' {k : Env} {w : World} {R : Assn} {l : List ByteArray} (hl : l = []) (h : Sat k w R) : Sat k w (Strs (.slice none l.length 0) l * R) := by
  subst hl; exact own_nil h


set_option maxRecDepth 100000 in
set_option maxHeartbeats 4000000 in
theorem sof_any (k : Env) (w : World) (R : Assn) (a : Option Addr) (cap : Nat) (l : List Tok) (hr : RdT k R a l) (hl : l.length ≤ 20000) (hc : l.length ≤ cap) (hB : (normL l).length ≤ 1000000) (hT : ∀ x ∈ l, x.t.size ≤ 1000000) (h : Sat k w R) :
    Calls Try.prog 16 #[.slice a l.length cap] w fun e w' => ∃ v, e = .returned v ∧ Sat k w' (StV v (classL l) (ofR l) (ofW l) (mk (normL l)) * R) := by
  have h0 := h.alloc (.cells #[.int .i64 0, .slice none 0 0, .slice none 0 0, .string ⟨#[]⟩] 30)
  clear h
  have D1 := Lib.hid (fun (R' : Assn) (hm : ∀ w', Sat k w' R' → Sat k w' R) w h => of_any k w R' a cap l (hr.mono hm) (by omega) hT h)
  have D2 := Lib.hid (fun (R' : Assn) (hm : ∀ w', Sat k w' R' → Sat k w' R) w h => tokens_any k w R' a cap l (hr.mono hm) (by omega) hc hB hT h)
  have D3 := Lib.hid (fun (R' : Assn) (hm : ∀ w', Sat k w' R' → Sat k w' R) w h => reads_any k w R' a cap l (hr.mono hm) (by omega) hT h)
  have D4 := Lib.hid (fun (R' : Assn) (hm : ∀ w', Sat k w' R' → Sat k w' R) w h => swrites_any k w R' a cap l (hr.mono hm) (by omega) hT h)
  obtain ⟨rs, hrs⟩ : ∃ rs, ofR l = rs := ⟨_, rfl⟩
  obtain ⟨ws, hws⟩ : ∃ ws, ofW l = ws := ⟨_, rfl⟩
  have hrs2 : (if classL l = 2 ∨ classL l = 1 ∨ classL l = 7 then readsL l else []) = rs := hrs
  have hws2 : (if classL l = 2 then writesS l else []) = ws := hws
  rw [hrs, hws]
  generalize mk (normL l) = nm at *
  generalize classL l = cl at *
  generalize readsL l = rd at *
  generalize writesS l = wr at *
  have HRS := Lib.hid hrs2
  have HWS := Lib.hid hws2
  clear hrs hws hrs2 hws2 hr hB hT
  go_enter Try.func16, Try.ntmps16
  go_upto_region 1 with fail
  generalize (w.alloc (.cells #[.int .i64 0, .slice none 0 0, .slice none 0 0, .string ⟨#[]⟩] 30)) = w0 at *
  generalize w.heap.size = b at *
  go_upto_region 2 with (first | (go_at_call 33; (refine (D1.out _ (fun _ q => q.drop) _ h0).mono ?_); rintro e w1 ⟨rfl, h1⟩) | (go_at_call 34; (refine (D2.out _ (fun _ q => q.drop) _ h1).mono ?_); rintro e w2 ⟨rfl, h2⟩; have h3 := h2.alloc (.cells #[.int .i64 cl, .slice none 0 0, .slice none 0 0, .string nm] 30)))
  generalize (w2.alloc (.cells #[.int .i64 cl, .slice none 0 0, .slice none 0 0, .string nm] 30)) = w3 at *
  generalize w2.heap.size = c at *
  clear h0 h1 h2 D1 D2
  have d0 : w3.cell? ⟨c, 0, none⟩ = some (.int .i64 cl) := h3.cell 0
  go_upto_block 0 with fail
  go_cut [] (fun wx => ∃ a1 c1 a2 c2, Sat k wx (blk c (.cells #[.int .i64 cl, .slice a1 rs.length c1, .slice a2 ws.length c2, .string nm] 30) * (Strs (.slice a1 rs.length c1) rs * (Strs (.slice a2 ws.length c2) ws * (blk b (.cells #[.int .i64 0, .slice none 0 0, .slice none 0 0, .string ⟨#[]⟩] 30) * R)))))
  case first =>
    by_cases k2 : cl = 2
    · subst k2
      obtain rfl : rd = rs := HRS.out
      obtain rfl : wr = ws := HWS.out
      clear HRS HWS
      go_wp2_with (first | (go_at_call 11; (refine (D3.out _ (fun _ q => q.drop.drop) _ h3).mono ?_); rintro e w4 ⟨a1, c1, rfl, h4⟩) | (go_at_call 13; (refine (D4.out _ (fun _ q => q.drop.drop.drop) _ h4).mono ?_); rintro e w5 ⟨a2, c2, rfl, h5⟩; have e1 : w5.cell? ⟨c, 1, none⟩ = some (.slice none 0 0) := h5.get3.cell 1; have e2 : w5.cell? ⟨c, 2, none⟩ = some (.slice none 0 0) := h5.get3.cell 2; have f1 := h5.get3.frozen 1; have f2 := h5.get3.frozen 2))
      go_meet
      case rel => exact ⟨a1, c1, a2, c2, ((h5.get3.set 1 (.slice a1 rd.length c1)).set 2 (.slice a2 wr.length c2)).of_eq (by ac_rfl)⟩
    · by_cases k17 : cl = 1 ∨ cl = 7
      · have hrs : rd = rs := by
          have := HRS.out
          rw [if_pos (.inr k17)] at this; exact this
        have hws : [] = ws := by
          have := HWS.out
          rw [if_neg k2] at this; exact this
        subst hrs hws
        clear HRS HWS D4
        rcases k17 with rfl | rfl
        all_goals
          clear k2
          go_wp2_with (first | (go_at_call 11; (refine (D3.out _ (fun _ q => q.drop.drop) _ h3).mono ?_); rintro e w4 ⟨a1, c1, rfl, h4⟩; have e1 : w4.cell? ⟨c, 1, none⟩ = some (.slice none 0 0) := h4.swap.cell 1; have f1 := h4.swap.frozen 1))
          go_meet
          case rel => exact ⟨a1, c1, none, 0, ((strs_no (h4.swap.set 1 (.slice a1 rd.length c1)))).swap.of_eq (by congr 1; ac_rfl)⟩
      · have hrs : [] = rs := by
          have := HRS.out
          rw [if_neg (by omega)] at this; exact this
        have hws : [] = ws := by
          have := HWS.out
          rw [if_neg k2] at this; exact this
        subst hrs hws
        have b1 : (cl == 1) = false := by simp; omega
        have b2 : (cl == 2) = false := by simp; omega
        have b7 : (cl == 7) = false := by simp; omega
        clear HRS HWS D3 D4 k2 k17
        go_wp2_with fail
        go_meet
        case rel => exact ⟨none, 0, none, 0, (strs_no (strs_no h3)).of_eq (by ac_rfl)⟩
  case rest => as_aux_lemma =>
    clear h3 d0 D3 D4 HRS HWS
    (
      obtain ⟨a1, c1, a2, c2, hs⟩ := hcut
      have d0 : wc.cell? ⟨c, 0, none⟩ = some (.int .i64 cl) := hs.cell 0
      have d1 : wc.cell? ⟨c, 1, none⟩ = some (.slice a1 rs.length c1) := hs.cell 1
      have d2 : wc.cell? ⟨c, 2, none⟩ = some (.slice a2 ws.length c2) := hs.cell 2
      have d3 : wc.cell? ⟨c, 3, none⟩ = some (.string nm) := hs.cell 3
      have hb := hs.get4
      have e0 : wc.cell? ⟨b, 0, none⟩ = some (.int .i64 0) := hb.cell 0
      have e1 : wc.cell? ⟨b, 1, none⟩ = some (.slice none 0 0) := hb.cell 1
      have e2 : wc.cell? ⟨b, 2, none⟩ = some (.slice none 0 0) := hb.cell 2
      have e3 : wc.cell? ⟨b, 3, none⟩ = some (.string ⟨#[]⟩) := hb.cell 3
      have f0 := hb.frozen 0
      have f1 := hb.frozen 1
      have f2 := hb.frozen 2
      have f3 := hb.frozen 3
      go_wp2_with fail
      have h2 := (((hb.set 0 (.int .i64 cl)).set 1 (.slice a1 rs.length c1)).set 2 (.slice a2 ws.length c2)).set 3 (.string nm)
      generalize (((wc.setCell ⟨b, 0, none⟩ (.int .i64 cl)).setCell ⟨b, 1, none⟩ (.slice a1 rs.length c1)).setCell ⟨b, 2, none⟩ (.slice a2 ws.length c2)).setCell ⟨b, 3, none⟩ (.string nm) = w9 at *
      clear d0 d1 d2 d3 e0 e1 e2 e3 f0 f1 f2 f3 hb hs
      have g0 : w9.cell? ⟨b, 0, none⟩ = some (.int .i64 cl) := h2.cell 0
      have g1 : w9.cell? ⟨b, 1, none⟩ = some (.slice a1 rs.length c1) := h2.cell 1
      have g2 : w9.cell? ⟨b, 2, none⟩ = some (.slice a2 ws.length c2) := h2.cell 2
      have g3 : w9.cell? ⟨b, 3, none⟩ = some (.string nm) := h2.cell 3)
    refine bodyPost_ret (v := .agg #[.int .i64 cl, .slice a1 rs.length c1, .slice a2 ws.length c2, .string nm]) (by simp [results, Try.results16, go_sem, g0, g1, g2, g3]) rfl ?_
    exact ⟨_, rfl, stv_close (h2.drop.drop)⟩

set_option maxRecDepth 100000 in
set_option maxHeartbeats 4000000 in
theorem rof2_any (k : Env) (w : World) (R : Assn) (a : Option Addr) (cap : Nat) (l : List Tok) (hr : RdT k R a l) (hl : l.length ≤ 20000) (hc : l.length ≤ cap) (hB : (normL l).length ≤ 1000000) (hT : ∀ x ∈ l, x.t.size ≤ 1000000) (h : Sat k w R) :
    Calls Try.prog 17 #[.slice a l.length cap] w fun e w' => ∃ v, e = .returned v ∧ Sat k w' (StV v (classL l) (ofR l) (ofW l) (mk (normL l)) * R) := by
  have h0 := h.alloc (.cells #[.int .i64 0, .slice none 0 0, .slice none 0 0, .string ⟨#[]⟩] 30)
  clear h
  have D1 := Lib.hid (fun (R' : Assn) (hm : ∀ w', Sat k w' R' → Sat k w' R) w h => rof_any k w R' a cap l (hr.mono hm) (by omega) h)
  have D2 := Lib.hid (fun (R' : Assn) (hm : ∀ w', Sat k w' R' → Sat k w' R) w h => rtokens_any k w R' a cap l (hr.mono hm) (by omega) hc hB hT h)
  have D3 := Lib.hid (fun (R' : Assn) (hm : ∀ w', Sat k w' R' → Sat k w' R) w h => rreads_any k w R' a cap l (hr.mono hm) (by omega) hT h)
  have D4 := Lib.hid (fun (R' : Assn) (hm : ∀ w', Sat k w' R' → Sat k w' R) w h => rwrites2_any k w R' a cap l (hr.mono hm) (by omega) hT h)
  obtain ⟨rs, hrs⟩ : ∃ rs, ofR l = rs := ⟨_, rfl⟩
  obtain ⟨ws, hws⟩ : ∃ ws, ofW l = ws := ⟨_, rfl⟩
  have hrs2 : (if classL l = 2 ∨ classL l = 1 ∨ classL l = 7 then readsL l else []) = rs := hrs
  have hws2 : (if classL l = 2 then writesS l else []) = ws := hws
  rw [hrs, hws]
  generalize mk (normL l) = nm at *
  generalize classL l = cl at *
  generalize readsL l = rd at *
  generalize writesS l = wr at *
  have HRS := Lib.hid hrs2
  have HWS := Lib.hid hws2
  clear hrs hws hrs2 hws2 hr hB hT
  go_enter Try.func17, Try.ntmps17
  go_upto_region 1 with fail
  generalize (w.alloc (.cells #[.int .i64 0, .slice none 0 0, .slice none 0 0, .string ⟨#[]⟩] 30)) = w0 at *
  generalize w.heap.size = b at *
  go_upto_region 2 with (first | (go_at_call 35; (refine (D1.out _ (fun _ q => q.drop) _ h0).mono ?_); rintro e w1 ⟨rfl, h1⟩) | (go_at_call 36; (refine (D2.out _ (fun _ q => q.drop) _ h1).mono ?_); rintro e w2 ⟨rfl, h2⟩; have h3 := h2.alloc (.cells #[.int .i64 cl, .slice none 0 0, .slice none 0 0, .string nm] 30)))
  generalize (w2.alloc (.cells #[.int .i64 cl, .slice none 0 0, .slice none 0 0, .string nm] 30)) = w3 at *
  generalize w2.heap.size = c at *
  clear h0 h1 h2 D1 D2
  have d0 : w3.cell? ⟨c, 0, none⟩ = some (.int .i64 cl) := h3.cell 0
  have HC : Hid (((cl == 1) = false ∧ (cl == 2) = true ∧ rs = rd ∧ ws = wr) ∨ ((((cl == 1) = true) ∨ ((cl == 1) = false ∧ (cl == 7) = true)) ∧ (cl == 2) = false ∧ rs = rd ∧ ws = []) ∨ ((cl == 1) = false ∧ (cl == 2) = false ∧ (cl == 7) = false ∧ rs = [] ∧ ws = [])) := by
    have h1 := HRS.out
    have h2 := HWS.out
    by_cases k2 : cl = 2
    · left
      rw [if_pos (.inl k2)] at h1
      rw [if_pos k2] at h2
      exact ⟨by simp; omega, by simp; omega, h1.symm, h2.symm⟩
    · right
      rw [if_neg k2] at h2
      by_cases k17 : cl = 1 ∨ cl = 7
      · left
        rw [if_pos (.inr k17)] at h1
        refine ⟨?_, by simp; omega, h1.symm, h2.symm⟩
        rcases k17 with k | k
        · left; simp; omega
        · right; exact ⟨by simp; omega, by simp; omega⟩
      · right
        rw [if_neg (by omega)] at h1
        exact ⟨by simp; omega, by simp; omega, by simp; omega, h1.symm, h2.symm⟩
  clear HRS HWS
  rcases HC.out with ⟨b1, b2, rfl, rfl⟩ | ⟨b17, b2, rfl, hws⟩ | ⟨b1, b2, b7, hrs, hws⟩
  · clear HC
    go_upto_region 6 with (first | (go_at_call 12; (refine (D3.out _ (fun _ q => q.drop.drop) _ h3).mono ?_); rintro e w4 ⟨a1, c1, rfl, h4⟩; have d0 : w4.cell? ⟨c, 0, none⟩ = some (.int .i64 cl) := h4.swap.cell 0; have e1 : w4.cell? ⟨c, 1, none⟩ = some (.slice none 0 0) := h4.swap.cell 1; have f1 := h4.swap.frozen 1; have h5 := h4.swap.set 1 (.slice a1 rs.length c1)) | (go_at_call 14; (refine (D4.out _ (fun _ q => q.drop.drop.drop) _ h5).mono ?_); rintro e w5 ⟨a2, c2, rfl, h6⟩; have e2 : w5.cell? ⟨c, 2, none⟩ = some (.slice none 0 0) := h6.swap.cell 2; have f2 := h6.swap.frozen 2))
    have hs := h6.swap.set 2 (.slice a2 ws.length c2)
    generalize (w5.setCell ⟨c, 2, none⟩ (.slice a2 ws.length c2)) = wc at *
    clear h3 h4 h5 h6 e1 f1 e2 f2 D3 D4 b1 b2
    have hcut : ∃ a1 c1 a2 c2, Sat k wc (blk c (.cells #[.int .i64 cl, .slice a1 rs.length c1, .slice a2 ws.length c2, .string nm] 30) * (Strs (.slice a1 rs.length c1) rs * (Strs (.slice a2 ws.length c2) ws * (blk b (.cells #[.int .i64 0, .slice none 0 0, .slice none 0 0, .string ⟨#[]⟩] 30) * R)))) := ⟨a1, c1, a2, c2, hs.of_eq (by ac_rfl)⟩
    clear hs
    (
      obtain ⟨a1, c1, a2, c2, hs⟩ := hcut
      have d0 : wc.cell? ⟨c, 0, none⟩ = some (.int .i64 cl) := hs.cell 0
      have d1 : wc.cell? ⟨c, 1, none⟩ = some (.slice a1 rs.length c1) := hs.cell 1
      have d2 : wc.cell? ⟨c, 2, none⟩ = some (.slice a2 ws.length c2) := hs.cell 2
      have d3 : wc.cell? ⟨c, 3, none⟩ = some (.string nm) := hs.cell 3
      have hb := hs.get4
      have e0 : wc.cell? ⟨b, 0, none⟩ = some (.int .i64 0) := hb.cell 0
      have e1 : wc.cell? ⟨b, 1, none⟩ = some (.slice none 0 0) := hb.cell 1
      have e2 : wc.cell? ⟨b, 2, none⟩ = some (.slice none 0 0) := hb.cell 2
      have e3 : wc.cell? ⟨b, 3, none⟩ = some (.string ⟨#[]⟩) := hb.cell 3
      have f0 := hb.frozen 0
      have f1 := hb.frozen 1
      have f2 := hb.frozen 2
      have f3 := hb.frozen 3
      go_wp2_with fail
      have h2 := (((hb.set 0 (.int .i64 cl)).set 1 (.slice a1 rs.length c1)).set 2 (.slice a2 ws.length c2)).set 3 (.string nm)
      generalize (((wc.setCell ⟨b, 0, none⟩ (.int .i64 cl)).setCell ⟨b, 1, none⟩ (.slice a1 rs.length c1)).setCell ⟨b, 2, none⟩ (.slice a2 ws.length c2)).setCell ⟨b, 3, none⟩ (.string nm) = w9 at *
      clear d0 d1 d2 d3 e0 e1 e2 e3 f0 f1 f2 f3 hb hs
      have g0 : w9.cell? ⟨b, 0, none⟩ = some (.int .i64 cl) := h2.cell 0
      have g1 : w9.cell? ⟨b, 1, none⟩ = some (.slice a1 rs.length c1) := h2.cell 1
      have g2 : w9.cell? ⟨b, 2, none⟩ = some (.slice a2 ws.length c2) := h2.cell 2
      have g3 : w9.cell? ⟨b, 3, none⟩ = some (.string nm) := h2.cell 3)
    refine bodyPost_ret (v := .agg #[.int .i64 cl, .slice a1 rs.length c1, .slice a2 ws.length c2, .string nm]) (by simp [results, Try.results17, go_sem, g0, g1, g2, g3]) rfl ?_
    exact ⟨_, rfl, stv_close (h2.drop.drop)⟩
  · have HW := Lib.hid hws
    clear HC D4 hws
    rcases b17 with b1 | ⟨b1, b7⟩
    all_goals
      go_upto_region 6 with (first | (go_at_call 12; (refine (D3.out _ (fun _ q => q.drop.drop) _ h3).mono ?_); rintro e w4 ⟨a1, c1, rfl, h4⟩; have d0 : w4.cell? ⟨c, 0, none⟩ = some (.int .i64 cl) := h4.swap.cell 0; have e1 : w4.cell? ⟨c, 1, none⟩ = some (.slice none 0 0) := h4.swap.cell 1; have f1 := h4.swap.frozen 1))
      have hs := strs_no' HW.out (h4.swap.set 1 (.slice a1 rs.length c1))
      generalize (w4.setCell ⟨c, 1, none⟩ (.slice a1 rs.length c1)) = wc at *
      clear h3 h4 e1 f1 D3
      have hcut : ∃ a1 c1 a2 c2, Sat k wc (blk c (.cells #[.int .i64 cl, .slice a1 rs.length c1, .slice a2 ws.length c2, .string nm] 30) * (Strs (.slice a1 rs.length c1) rs * (Strs (.slice a2 ws.length c2) ws * (blk b (.cells #[.int .i64 0, .slice none 0 0, .slice none 0 0, .string ⟨#[]⟩] 30) * R)))) := ⟨a1, c1, none, 0, hs.swap.of_eq (by rw [HW.out]; congr 1; ac_rfl)⟩
      clear hs
      (
        obtain ⟨a1, c1, a2, c2, hs⟩ := hcut
        have d0 : wc.cell? ⟨c, 0, none⟩ = some (.int .i64 cl) := hs.cell 0
        have d1 : wc.cell? ⟨c, 1, none⟩ = some (.slice a1 rs.length c1) := hs.cell 1
        have d2 : wc.cell? ⟨c, 2, none⟩ = some (.slice a2 ws.length c2) := hs.cell 2
        have d3 : wc.cell? ⟨c, 3, none⟩ = some (.string nm) := hs.cell 3
        have hb := hs.get4
        have e0 : wc.cell? ⟨b, 0, none⟩ = some (.int .i64 0) := hb.cell 0
        have e1 : wc.cell? ⟨b, 1, none⟩ = some (.slice none 0 0) := hb.cell 1
        have e2 : wc.cell? ⟨b, 2, none⟩ = some (.slice none 0 0) := hb.cell 2
        have e3 : wc.cell? ⟨b, 3, none⟩ = some (.string ⟨#[]⟩) := hb.cell 3
        have f0 := hb.frozen 0
        have f1 := hb.frozen 1
        have f2 := hb.frozen 2
        have f3 := hb.frozen 3
        go_wp2_with fail
        have h2 := (((hb.set 0 (.int .i64 cl)).set 1 (.slice a1 rs.length c1)).set 2 (.slice a2 ws.length c2)).set 3 (.string nm)
        generalize (((wc.setCell ⟨b, 0, none⟩ (.int .i64 cl)).setCell ⟨b, 1, none⟩ (.slice a1 rs.length c1)).setCell ⟨b, 2, none⟩ (.slice a2 ws.length c2)).setCell ⟨b, 3, none⟩ (.string nm) = w9 at *
        clear d0 d1 d2 d3 e0 e1 e2 e3 f0 f1 f2 f3 hb hs
        have g0 : w9.cell? ⟨b, 0, none⟩ = some (.int .i64 cl) := h2.cell 0
        have g1 : w9.cell? ⟨b, 1, none⟩ = some (.slice a1 rs.length c1) := h2.cell 1
        have g2 : w9.cell? ⟨b, 2, none⟩ = some (.slice a2 ws.length c2) := h2.cell 2
        have g3 : w9.cell? ⟨b, 3, none⟩ = some (.string nm) := h2.cell 3)
      refine bodyPost_ret (v := .agg #[.int .i64 cl, .slice a1 rs.length c1, .slice a2 ws.length c2, .string nm]) (by simp [results, Try.results17, go_sem, g0, g1, g2, g3]) rfl ?_
      exact ⟨_, rfl, stv_close (h2.drop.drop)⟩
  · have HW := Lib.hid hws
    have HS := Lib.hid hrs
    clear HC D3 D4 hws hrs
    go_upto_region 6 with fail
    have hcut : ∃ a1 c1 a2 c2, Sat k w3 (blk c (.cells #[.int .i64 cl, .slice a1 rs.length c1, .slice a2 ws.length c2, .string nm] 30) * (Strs (.slice a1 rs.length c1) rs * (Strs (.slice a2 ws.length c2) ws * (blk b (.cells #[.int .i64 0, .slice none 0 0, .slice none 0 0, .string ⟨#[]⟩] 30) * R)))) := ⟨none, 0, none, 0, (strs_no' HW.out (strs_no' HS.out h3)).of_eq (by rw [HW.out, HS.out]; ac_rfl)⟩
    clear h3 d0
    obtain ⟨wc, hwc⟩ : ∃ wc, wc = w3 := ⟨_, rfl⟩
    subst hwc
    (
      obtain ⟨a1, c1, a2, c2, hs⟩ := hcut
      have d0 : wc.cell? ⟨c, 0, none⟩ = some (.int .i64 cl) := hs.cell 0
      have d1 : wc.cell? ⟨c, 1, none⟩ = some (.slice a1 rs.length c1) := hs.cell 1
      have d2 : wc.cell? ⟨c, 2, none⟩ = some (.slice a2 ws.length c2) := hs.cell 2
      have d3 : wc.cell? ⟨c, 3, none⟩ = some (.string nm) := hs.cell 3
      have hb := hs.get4
      have e0 : wc.cell? ⟨b, 0, none⟩ = some (.int .i64 0) := hb.cell 0
      have e1 : wc.cell? ⟨b, 1, none⟩ = some (.slice none 0 0) := hb.cell 1
      have e2 : wc.cell? ⟨b, 2, none⟩ = some (.slice none 0 0) := hb.cell 2
      have e3 : wc.cell? ⟨b, 3, none⟩ = some (.string ⟨#[]⟩) := hb.cell 3
      have f0 := hb.frozen 0
      have f1 := hb.frozen 1
      have f2 := hb.frozen 2
      have f3 := hb.frozen 3
      go_wp2_with fail
      have h2 := (((hb.set 0 (.int .i64 cl)).set 1 (.slice a1 rs.length c1)).set 2 (.slice a2 ws.length c2)).set 3 (.string nm)
      generalize (((wc.setCell ⟨b, 0, none⟩ (.int .i64 cl)).setCell ⟨b, 1, none⟩ (.slice a1 rs.length c1)).setCell ⟨b, 2, none⟩ (.slice a2 ws.length c2)).setCell ⟨b, 3, none⟩ (.string nm) = w9 at *
      clear d0 d1 d2 d3 e0 e1 e2 e3 f0 f1 f2 f3 hb hs
      have g0 : w9.cell? ⟨b, 0, none⟩ = some (.int .i64 cl) := h2.cell 0
      have g1 : w9.cell? ⟨b, 1, none⟩ = some (.slice a1 rs.length c1) := h2.cell 1
      have g2 : w9.cell? ⟨b, 2, none⟩ = some (.slice a2 ws.length c2) := h2.cell 2
      have g3 : w9.cell? ⟨b, 3, none⟩ = some (.string nm) := h2.cell 3)
    refine bodyPost_ret (v := .agg #[.int .i64 cl, .slice a1 rs.length c1, .slice a2 ws.length c2, .string nm]) (by simp [results, Try.results17, go_sem, g0, g1, g2, g3]) rfl ?_
    exact ⟨_, rfl, stv_close (h2.drop.drop)⟩

end Go.Proofs.Ytkjhfpjjcagecaa
