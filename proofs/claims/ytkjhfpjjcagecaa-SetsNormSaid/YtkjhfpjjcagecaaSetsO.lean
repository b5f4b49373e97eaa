/- Contracts of Parse: the program's and the document's. -/
import Derived.Test.YtkjhfpjjcagecaaSetsN
namespace Go.Proofs.Ytkjhfpjjcagecaa
set_option linter.all false
open Go Go.RowKit

theorem sof_wt (k : Env) (w : World) (R : Assn) (a : Option Addr) (cap : Nat) (l : List Tok) (hr : RdT k R a l) (hc : l.length ≤ cap) (hw : wt l ≤ 20000) (h : Sat k w R) :
    Calls Try.prog 16 #[.slice a l.length cap] w fun e w' => ∃ v, e = .returned v ∧ Sat k w' (StW v (ofS l) * R) :=
  sof_any k w R a cap l hr (by have := wt_len l; omega) hc (by have := normL_len l; omega) (fun x hx => by have := wt_mem hx; omega) h
theorem rof_wt (k : Env) (w : World) (R : Assn) (a : Option Addr) (cap : Nat) (l : List Tok) (hr : RdT k R a l) (hc : l.length ≤ cap) (hw : wt l ≤ 20000) (h : Sat k w R) :
    Calls Try.prog 17 #[.slice a l.length cap] w fun e w' => ∃ v, e = .returned v ∧ Sat k w' (StW v (ofS l) * R) :=
  rof2_any k w R a cap l hr (by have := wt_len l; omega) hc (by have := normL_len l; omega) (fun x hx => by have := wt_mem hx; omega) h
abbrev stZ : Obj := .cells #[.int .i64 0, .slice none 0 0, .slice none 0 0, .string ⟨#[]⟩] 30 (0, 0)
/-- Laid into the result's cells. -/
abbrev stC (cl : Int) (a1 : Option Addr) (n1 c1 : Nat) (a2 : Option Addr) (n2 c2 : Nat) (nm : ByteArray) : Obj := .cells #[.int .i64 cl, .slice a1 n1 c1, .slice a2 n2 c2, .string nm] 30 (0, 0)

theorem sp_first {k : Env} {w : World} {R : Assn} {v : Value} {p : Sp} (h : Sat k w (SpV v [p] * R)) : ∃ g c, v = .slice (some ⟨g, 0, none⟩) 1 c ∧ w.cell? ⟨g, 0, none⟩ = some (.slice p.a p.l.length p.c) ∧ Sat k w (Toks (.slice p.a p.l.length p.c) p.l * R) := by
  unfold SpV at h
  rw [star_assoc] at h
  obtain ⟨a, c, rfl⟩ := own_val h
  obtain ⟨g, rfl, hg, hc, _⟩ := own_get h (by simp)
  refine ⟨g, c, rfl, (hc 0 (by simp)).trans rfl, ?_⟩
  have h2 := h.drop
  simp only [stars, star_emp, star_assoc] at h2
  exact h2
theorem st_zero {k : Env} {w : World} {R : Assn} (h : Sat k w R) : Sat k w (StW (.agg #[.int .i64 0, .slice none ([] : List ByteArray).length 0, .slice none ([] : List ByteArray).length 0, .string ⟨#[]⟩]) noSt * R) :=
  stv_close (strs_no (strs_no h))


set_option maxRecDepth 100000 in
set_option maxHeartbeats 4000000 in
theorem sparse_any (k : Env) (w : World) (R : Assn) (s : ByteArray) (hs : s.size ≤ 1000000000) (h : Sat k w R) :
    Calls Try.prog 19 #[.string s] w fun e w' => ∃ v, e = .returned (.tuple #[v, .int .i64 (parS s).2]) ∧ Sat k w' (StW v (parS s).1 * R) := by
  have h0 := h.alloc (.cells #[.int .i64 0, .slice none 0 0, .slice none 0 0, .string ⟨#[]⟩] 30)
  clear h
  obtain ⟨res, hres⟩ : ∃ res, parS s = res := ⟨_, rfl⟩
  rw [hres]
  have D1 := Lib.hid (fun (R' : Assn) w h => scan_any k w R' s hs h)
  have hP : (∃ e a, scanB s = .err e a ∧ (e == 0) = false ∧ res = (noSt, e)) ∨ ∃ l, scanB s = .ok l ∧ wt l ≤ 4000 ∧ res = parL (splitL l [] []) := by
    cases hb : scanB s with
    | err e a =>
      left
      have := scanB_err hb
      exact ⟨e, a, rfl, by simp; omega, by rw [← hres]; unfold parS; rw [hb]⟩
    | ok l =>
      right
      exact ⟨l, rfl, scanB_wt hb, by rw [← hres]; unfold parS; rw [hb]⟩
  clear hres
  go_enter Try.func19, Try.ntmps19
  go_upto_region 1 with fail
  generalize (w.alloc (.cells #[.int .i64 0, .slice none 0 0, .slice none 0 0, .string ⟨#[]⟩] 30)) = w0 at *
  generalize w.heap.size = b at *
  rcases hP with ⟨e, ea, hb, he, hr⟩ | ⟨l, hb, hw, hr⟩
  · rw [hb] at D1
    have D2 : Hid (∀ (R' : Assn) w, Sat k w R' → Calls Try.prog 37 #[.string s] w fun o w' => ∃ v, o = .returned (.tuple #[v, .int .i64 e, .int .i64 ea]) ∧ Sat k w' (Toks v [] * R')) := D1
    have he2 : (e != 0) = true := by rw [bne, he]; rfl
    have HR := Lib.hid hr
    clear hb hr D1
    go_upto_region 3 with (go_at_call 37; (refine (D2.out _ _ h0).mono ?_); rintro e w1 ⟨v1, rfl, h1⟩; obtain ⟨a1, c1, rfl⟩ := rec_val h1; have hb := h1.drop)
    obtain ⟨wz, rfl⟩ : ∃ wz, wz = w1 := ⟨_, rfl⟩
    clear h0 h1
    (
      have e0 : wz.cell? ⟨b, 0, none⟩ = some (.int .i64 0) := hb.cell 0
      have e1 : wz.cell? ⟨b, 1, none⟩ = some (.slice none 0 0) := hb.cell 1
      have e2 : wz.cell? ⟨b, 2, none⟩ = some (.slice none 0 0) := hb.cell 2
      have e3 : wz.cell? ⟨b, 3, none⟩ = some (.string ⟨#[]⟩) := hb.cell 3
      have f0 := hb.frozen 0
      have f1 := hb.frozen 1
      have f2 := hb.frozen 2
      have f3 := hb.frozen 3)
    go_wp2_with fail
    (
      have h2 := (((hb.set 0 (.int .i64 0)).set 1 (.slice none 0 0)).set 2 (.slice none 0 0)).set 3 (.string ⟨#[]⟩)
      generalize (((wz.setCell ⟨b, 0, none⟩ (.int .i64 0)).setCell ⟨b, 1, none⟩ (.slice none 0 0)).setCell ⟨b, 2, none⟩ (.slice none 0 0)).setCell ⟨b, 3, none⟩ (.string ⟨#[]⟩) = w9 at *
      clear e0 e1 e2 e3 f0 f1 f2 f3 hb
      have g0 : w9.cell? ⟨b, 0, none⟩ = some (.int .i64 0) := h2.cell 0
      have g1 : w9.cell? ⟨b, 1, none⟩ = some (.slice none 0 0) := h2.cell 1
      have g2 : w9.cell? ⟨b, 2, none⟩ = some (.slice none 0 0) := h2.cell 2
      have g3 : w9.cell? ⟨b, 3, none⟩ = some (.string ⟨#[]⟩) := h2.cell 3)
    refine bodyPost_ret (v := .tuple #[.agg #[.int .i64 0, .slice none 0 0, .slice none 0 0, .string ⟨#[]⟩], .int .i64 e]) (by simp [results, Try.results19, go_sem, g0, g1, g2, g3]) rfl ?_
    rw [HR.out]
    exact ⟨_, rfl, st_zero h2.drop⟩
  · rw [hb] at D1
    have D2 : Hid (∀ (R' : Assn) w, Sat k w R' → Calls Try.prog 37 #[.string s] w fun o w' => ∃ v, o = .returned (.tuple #[v, .int .i64 0, .int .i64 0]) ∧ Sat k w' (Toks v l * R')) := D1
    have HR := Lib.hid hr
    have hll := wt_len l
    have hsw := splitL_wt 4000 l [] [] (by simp only [wt]; omega) (by simp)
    have D3 := Lib.hid (fun w (a1 : Option Addr) c1 h => split_any k w (Toks (.slice a1 l.length c1) l * (blk b stZ * R)) a1 c1 l (rdt_own h) (by omega) h)
    clear hb hr D1 hw hll
    go_upto_region 5 with (first | (go_at_call 37; (refine (D2.out _ _ h0).mono ?_); rintro e w1 ⟨v1, rfl, h1⟩; obtain ⟨a1, c1, rfl⟩ := rec_val h1) | (go_at_call 38; (refine (D3.out _ _ _ h1).mono ?_); rintro e w2 ⟨v2, P, rfl, hPl, hPn, h2⟩; obtain ⟨a2, c2, rfl⟩ := sp_val h2))
    rw [← hPl] at HR hsw
    clear D2 D3 h0 h1 hPl
    match P, hsw, HR, h2 with
    | [], hsw, HR, h2 =>
      replace h2 := h2.drop
      obtain ⟨x, hx⟩ : ∃ x, x = ofS [] := ⟨_, rfl⟩
      have D4 := Lib.hid (fun w h => sof_wt k w (Toks (.slice a1 l.length c1) l * (blk b stZ * R)) none 0 [] (rdt_nil _ _ _) (Nat.le_refl _) (by simp [wt]) h)
      have HX : Hid (res = (x, 0)) := by unfold Hid; rw [HR.out, hx]; rfl
      rw [← hx] at D4
      clear HR hx
      go_wp2_with (go_at_call 16; (refine (D4.out _ h2).mono ?_); rintro e w5 ⟨v5, rfl, h5⟩; obtain ⟨a1, c1, a2, c2, rfl, h6⟩ := stv_open h5; have hb := h6.get4; have e0 : w5.cell? ⟨b, 0, none⟩ = some (.int .i64 0) := hb.cell 0; have e1 : w5.cell? ⟨b, 1, none⟩ = some (.slice none 0 0) := hb.cell 1; have e2 : w5.cell? ⟨b, 2, none⟩ = some (.slice none 0 0) := hb.cell 2; have e3 : w5.cell? ⟨b, 3, none⟩ = some (.string ⟨#[]⟩) := hb.cell 3; have f0 := hb.frozen 0; have f1 := hb.frozen 1; have f2 := hb.frozen 2; have f3 := hb.frozen 3)
      (
        have h2 := (((hb.set 0 (.int .i64 x.cl)).set 1 (.slice a1 x.rs.length c1)).set 2 (.slice a2 x.ws.length c2)).set 3 (.string x.nm)
        generalize (((w5.setCell ⟨b, 0, none⟩ (.int .i64 x.cl)).setCell ⟨b, 1, none⟩ (.slice a1 x.rs.length c1)).setCell ⟨b, 2, none⟩ (.slice a2 x.ws.length c2)).setCell ⟨b, 3, none⟩ (.string x.nm) = w9 at *
        clear e0 e1 e2 e3 f0 f1 f2 f3 hb
        have g0 : w9.cell? ⟨b, 0, none⟩ = some (.int .i64 x.cl) := h2.cell 0
        have g1 : w9.cell? ⟨b, 1, none⟩ = some (.slice a1 x.rs.length c1) := h2.cell 1
        have g2 : w9.cell? ⟨b, 2, none⟩ = some (.slice a2 x.ws.length c2) := h2.cell 2
        have g3 : w9.cell? ⟨b, 3, none⟩ = some (.string x.nm) := h2.cell 3)
      refine bodyPost_ret (v := .tuple #[.agg #[.int .i64 x.cl, .slice a1 x.rs.length c1, .slice a2 x.ws.length c2, .string x.nm], .int .i64 0]) (by simp [results, Try.results19, go_sem, g0, g1, g2, g3]) rfl ?_
      rw [HX.out]
      exact ⟨_, rfl, stv_close h2.drop.get3.drop⟩
    | [p], hsw, HR, h2 =>
      obtain ⟨g, cc, hv, cg, h3⟩ := sp_first h2
      obtain ⟨rfl, _, rfl⟩ := Value.slice.inj hv
      have h4 := h3.swap.drop
      obtain ⟨pa, pc, pl⟩ := p
      simp only [Sp.v] at cg h3 h4 hsw
      have hpw : wt pl ≤ 4000 := hsw pl (by simp)
      have hpc : pl.length ≤ pc := (rec_cap h4).1
      obtain ⟨x, hx⟩ : ∃ x, x = ofS pl := ⟨_, rfl⟩
      have D4 := Lib.hid (fun w h => sof_wt k w (Toks (.slice pa pl.length pc) pl * (blk b stZ * R)) pa pc pl (rdt_own h) hpc (by omega) h)
      have HX : Hid (res = (x, 0)) := by unfold Hid; rw [HR.out, hx]; rfl
      rw [← hx] at D4
      clear HR hx h2 h3 hsw hpw hpc hv
      go_wp2_with (go_at_call 16; (refine (D4.out _ h4).mono ?_); rintro e w5 ⟨v5, rfl, h5⟩; obtain ⟨a1, c1, a2, c2, rfl, h6⟩ := stv_open h5; have hb := h6.get4; have e0 : w5.cell? ⟨b, 0, none⟩ = some (.int .i64 0) := hb.cell 0; have e1 : w5.cell? ⟨b, 1, none⟩ = some (.slice none 0 0) := hb.cell 1; have e2 : w5.cell? ⟨b, 2, none⟩ = some (.slice none 0 0) := hb.cell 2; have e3 : w5.cell? ⟨b, 3, none⟩ = some (.string ⟨#[]⟩) := hb.cell 3; have f0 := hb.frozen 0; have f1 := hb.frozen 1; have f2 := hb.frozen 2; have f3 := hb.frozen 3)
      (
        have h2 := (((hb.set 0 (.int .i64 x.cl)).set 1 (.slice a1 x.rs.length c1)).set 2 (.slice a2 x.ws.length c2)).set 3 (.string x.nm)
        generalize (((w5.setCell ⟨b, 0, none⟩ (.int .i64 x.cl)).setCell ⟨b, 1, none⟩ (.slice a1 x.rs.length c1)).setCell ⟨b, 2, none⟩ (.slice a2 x.ws.length c2)).setCell ⟨b, 3, none⟩ (.string x.nm) = w9 at *
        clear e0 e1 e2 e3 f0 f1 f2 f3 hb
        have g0 : w9.cell? ⟨b, 0, none⟩ = some (.int .i64 x.cl) := h2.cell 0
        have g1 : w9.cell? ⟨b, 1, none⟩ = some (.slice a1 x.rs.length c1) := h2.cell 1
        have g2 : w9.cell? ⟨b, 2, none⟩ = some (.slice a2 x.ws.length c2) := h2.cell 2
        have g3 : w9.cell? ⟨b, 3, none⟩ = some (.string x.nm) := h2.cell 3)
      refine bodyPost_ret (v := .tuple #[.agg #[.int .i64 x.cl, .slice a1 x.rs.length c1, .slice a2 x.ws.length c2, .string x.nm], .int .i64 0]) (by simp [results, Try.results19, go_sem, g0, g1, g2, g3]) rfl ?_
      rw [HX.out]
      exact ⟨_, rfl, stv_close h2.drop.get3.drop⟩
    | p :: q :: r, hsw, HR, h2 =>
      have hb := h2.drop.drop
      have HX : Hid (res = (noSt, 4)) := HR.out
      clear HR hsw h2
      obtain ⟨n, hn⟩ : ∃ n, (p :: q :: r).length = n := ⟨_, rfl⟩
      have hn2 : 2 ≤ n := by rw [← hn]; simp
      rw [hn]
      have hn0 : ((n : Int) == 0) = false := by simp; omega
      have hn1 : ((n : Int) == 1) = false := by simp; omega
      have hn3 : (1 : Int) < n := by omega
      clear hn hn2
      obtain ⟨wz, rfl⟩ : ∃ wz, wz = w2 := ⟨_, rfl⟩
      (
        have e0 : wz.cell? ⟨b, 0, none⟩ = some (.int .i64 0) := hb.cell 0
        have e1 : wz.cell? ⟨b, 1, none⟩ = some (.slice none 0 0) := hb.cell 1
        have e2 : wz.cell? ⟨b, 2, none⟩ = some (.slice none 0 0) := hb.cell 2
        have e3 : wz.cell? ⟨b, 3, none⟩ = some (.string ⟨#[]⟩) := hb.cell 3
        have f0 := hb.frozen 0
        have f1 := hb.frozen 1
        have f2 := hb.frozen 2
        have f3 := hb.frozen 3)
      go_wp2_with fail
      (
        have h2 := (((hb.set 0 (.int .i64 0)).set 1 (.slice none 0 0)).set 2 (.slice none 0 0)).set 3 (.string ⟨#[]⟩)
        generalize (((wz.setCell ⟨b, 0, none⟩ (.int .i64 0)).setCell ⟨b, 1, none⟩ (.slice none 0 0)).setCell ⟨b, 2, none⟩ (.slice none 0 0)).setCell ⟨b, 3, none⟩ (.string ⟨#[]⟩) = w9 at *
        clear e0 e1 e2 e3 f0 f1 f2 f3 hb
        have g0 : w9.cell? ⟨b, 0, none⟩ = some (.int .i64 0) := h2.cell 0
        have g1 : w9.cell? ⟨b, 1, none⟩ = some (.slice none 0 0) := h2.cell 1
        have g2 : w9.cell? ⟨b, 2, none⟩ = some (.slice none 0 0) := h2.cell 2
        have g3 : w9.cell? ⟨b, 3, none⟩ = some (.string ⟨#[]⟩) := h2.cell 3)
      refine bodyPost_ret (v := .tuple #[.agg #[.int .i64 0, .slice none 0 0, .slice none 0 0, .string ⟨#[]⟩], .int .i64 4]) (by simp [results, Try.results19, go_sem, g0, g1, g2, g3]) rfl ?_
      rw [HX.out]
      exact ⟨_, rfl, st_zero h2.drop⟩

set_option maxRecDepth 100000 in
set_option maxHeartbeats 4000000 in
theorem rparse_any (k : Env) (w : World) (R : Assn) (s : ByteArray) (hs : s.size ≤ 1000000000) (h : Sat k w R) :
    Calls Try.prog 20 #[.string s] w fun e w' => ∃ v, e = .returned (.tuple #[v, .int .i64 (parS s).2]) ∧ Sat k w' (StW v (parS s).1 * R) := by
  have h0 := h.alloc (.cells #[.int .i64 0, .slice none 0 0, .slice none 0 0, .string ⟨#[]⟩] 30)
  clear h
  obtain ⟨res, hres⟩ : ∃ res, parS s = res := ⟨_, rfl⟩
  rw [hres]
  have D1 := Lib.hid (fun (R' : Assn) w h => rscan_any k w R' s hs h)
  have hP : (∃ e a, scanB s = .err e a ∧ (e == 0) = false ∧ res = (noSt, e)) ∨ ∃ l, scanB s = .ok l ∧ wt l ≤ 4000 ∧ res = parL (splitL l [] []) := by
    cases hb : scanB s with
    | err e a =>
      left
      have := scanB_err hb
      exact ⟨e, a, rfl, by simp; omega, by rw [← hres]; unfold parS; rw [hb]⟩
    | ok l =>
      right
      exact ⟨l, rfl, scanB_wt hb, by rw [← hres]; unfold parS; rw [hb]⟩
  clear hres
  go_enter Try.func20, Try.ntmps20
  go_upto_region 1 with fail
  generalize (w.alloc (.cells #[.int .i64 0, .slice none 0 0, .slice none 0 0, .string ⟨#[]⟩] 30)) = w0 at *
  generalize w.heap.size = b at *
  rcases hP with ⟨e, ea, hb, he, hr⟩ | ⟨l, hb, hw, hr⟩
  · rw [hb] at D1
    have D2 : Hid (∀ (R' : Assn) w, Sat k w R' → Calls Try.prog 39 #[.string s] w fun o w' => ∃ v, o = .returned (.tuple #[v, .int .i64 e, .int .i64 ea]) ∧ Sat k w' (Toks v [] * R')) := D1
    have he2 : (e != 0) = true := by rw [bne, he]; rfl
    have HR := Lib.hid hr
    clear hb hr D1
    go_upto_region 3 with (go_at_call 39; (refine (D2.out _ _ h0).mono ?_); rintro e w1 ⟨v1, rfl, h1⟩; obtain ⟨a1, c1, rfl⟩ := rec_val h1; have hb := h1.drop)
    obtain ⟨wz, rfl⟩ : ∃ wz, wz = w1 := ⟨_, rfl⟩
    clear h0 h1
    (
      have e0 : wz.cell? ⟨b, 0, none⟩ = some (.int .i64 0) := hb.cell 0
      have e1 : wz.cell? ⟨b, 1, none⟩ = some (.slice none 0 0) := hb.cell 1
      have e2 : wz.cell? ⟨b, 2, none⟩ = some (.slice none 0 0) := hb.cell 2
      have e3 : wz.cell? ⟨b, 3, none⟩ = some (.string ⟨#[]⟩) := hb.cell 3
      have f0 := hb.frozen 0
      have f1 := hb.frozen 1
      have f2 := hb.frozen 2
      have f3 := hb.frozen 3)
    go_wp2_with fail
    (
      have h2 := (((hb.set 0 (.int .i64 0)).set 1 (.slice none 0 0)).set 2 (.slice none 0 0)).set 3 (.string ⟨#[]⟩)
      generalize (((wz.setCell ⟨b, 0, none⟩ (.int .i64 0)).setCell ⟨b, 1, none⟩ (.slice none 0 0)).setCell ⟨b, 2, none⟩ (.slice none 0 0)).setCell ⟨b, 3, none⟩ (.string ⟨#[]⟩) = w9 at *
      clear e0 e1 e2 e3 f0 f1 f2 f3 hb
      have g0 : w9.cell? ⟨b, 0, none⟩ = some (.int .i64 0) := h2.cell 0
      have g1 : w9.cell? ⟨b, 1, none⟩ = some (.slice none 0 0) := h2.cell 1
      have g2 : w9.cell? ⟨b, 2, none⟩ = some (.slice none 0 0) := h2.cell 2
      have g3 : w9.cell? ⟨b, 3, none⟩ = some (.string ⟨#[]⟩) := h2.cell 3)
    refine bodyPost_ret (v := .tuple #[.agg #[.int .i64 0, .slice none 0 0, .slice none 0 0, .string ⟨#[]⟩], .int .i64 e]) (by simp [results, Try.results20, go_sem, g0, g1, g2, g3]) rfl ?_
    rw [HR.out]
    exact ⟨_, rfl, st_zero h2.drop⟩
  · rw [hb] at D1
    have D2 : Hid (∀ (R' : Assn) w, Sat k w R' → Calls Try.prog 39 #[.string s] w fun o w' => ∃ v, o = .returned (.tuple #[v, .int .i64 0, .int .i64 0]) ∧ Sat k w' (Toks v l * R')) := D1
    have HR := Lib.hid hr
    have hll := wt_len l
    have hsw := splitL_wt 4000 l [] [] (by simp only [wt]; omega) (by simp)
    have D3 := Lib.hid (fun w (a1 : Option Addr) c1 h => rsplit_any k w (Toks (.slice a1 l.length c1) l * (blk b stZ * R)) a1 c1 l (rdt_own h) (by omega) h)
    clear hb hr D1 hw hll
    go_upto_region 5 with (first | (go_at_call 39; (refine (D2.out _ _ h0).mono ?_); rintro e w1 ⟨v1, rfl, h1⟩; obtain ⟨a1, c1, rfl⟩ := rec_val h1) | (go_at_call 40; (refine (D3.out _ _ _ h1).mono ?_); rintro e w2 ⟨v2, P, rfl, hPl, hPn, h2⟩; obtain ⟨a2, c2, rfl⟩ := sp_val h2))
    rw [← hPl] at HR hsw
    clear D2 D3 h0 h1 hPl
    match P, hsw, HR, h2 with
    | [], hsw, HR, h2 =>
      replace h2 := h2.drop
      obtain ⟨x, hx⟩ : ∃ x, x = ofS [] := ⟨_, rfl⟩
      have D4 := Lib.hid (fun w h => rof_wt k w (Toks (.slice a1 l.length c1) l * (blk b stZ * R)) none 0 [] (rdt_nil _ _ _) (Nat.le_refl _) (by simp [wt]) h)
      have HX : Hid (res = (x, 0)) := by unfold Hid; rw [HR.out, hx]; rfl
      rw [← hx] at D4
      clear HR hx
      go_wp2_with (go_at_call 17; (refine (D4.out _ h2).mono ?_); rintro e w5 ⟨v5, rfl, h5⟩; obtain ⟨a1, c1, a2, c2, rfl, h6⟩ := stv_open h5; have hb := h6.get4; have e0 : w5.cell? ⟨b, 0, none⟩ = some (.int .i64 0) := hb.cell 0; have e1 : w5.cell? ⟨b, 1, none⟩ = some (.slice none 0 0) := hb.cell 1; have e2 : w5.cell? ⟨b, 2, none⟩ = some (.slice none 0 0) := hb.cell 2; have e3 : w5.cell? ⟨b, 3, none⟩ = some (.string ⟨#[]⟩) := hb.cell 3; have f0 := hb.frozen 0; have f1 := hb.frozen 1; have f2 := hb.frozen 2; have f3 := hb.frozen 3)
      (
        have h2 := (((hb.set 0 (.int .i64 x.cl)).set 1 (.slice a1 x.rs.length c1)).set 2 (.slice a2 x.ws.length c2)).set 3 (.string x.nm)
        generalize (((w5.setCell ⟨b, 0, none⟩ (.int .i64 x.cl)).setCell ⟨b, 1, none⟩ (.slice a1 x.rs.length c1)).setCell ⟨b, 2, none⟩ (.slice a2 x.ws.length c2)).setCell ⟨b, 3, none⟩ (.string x.nm) = w9 at *
        clear e0 e1 e2 e3 f0 f1 f2 f3 hb
        have g0 : w9.cell? ⟨b, 0, none⟩ = some (.int .i64 x.cl) := h2.cell 0
        have g1 : w9.cell? ⟨b, 1, none⟩ = some (.slice a1 x.rs.length c1) := h2.cell 1
        have g2 : w9.cell? ⟨b, 2, none⟩ = some (.slice a2 x.ws.length c2) := h2.cell 2
        have g3 : w9.cell? ⟨b, 3, none⟩ = some (.string x.nm) := h2.cell 3)
      refine bodyPost_ret (v := .tuple #[.agg #[.int .i64 x.cl, .slice a1 x.rs.length c1, .slice a2 x.ws.length c2, .string x.nm], .int .i64 0]) (by simp [results, Try.results20, go_sem, g0, g1, g2, g3]) rfl ?_
      rw [HX.out]
      exact ⟨_, rfl, stv_close h2.drop.get3.drop⟩
    | [p], hsw, HR, h2 =>
      obtain ⟨g, cc, hv, cg, h3⟩ := sp_first h2
      obtain ⟨rfl, _, rfl⟩ := Value.slice.inj hv
      have h4 := h3.swap.drop
      obtain ⟨pa, pc, pl⟩ := p
      simp only [Sp.v] at cg h3 h4 hsw
      have hpw : wt pl ≤ 4000 := hsw pl (by simp)
      have hpc : pl.length ≤ pc := (rec_cap h4).1
      obtain ⟨x, hx⟩ : ∃ x, x = ofS pl := ⟨_, rfl⟩
      have D4 := Lib.hid (fun w h => rof_wt k w (Toks (.slice pa pl.length pc) pl * (blk b stZ * R)) pa pc pl (rdt_own h) hpc (by omega) h)
      have HX : Hid (res = (x, 0)) := by unfold Hid; rw [HR.out, hx]; rfl
      rw [← hx] at D4
      clear HR hx h2 h3 hsw hpw hpc hv
      go_wp2_with (go_at_call 17; (refine (D4.out _ h4).mono ?_); rintro e w5 ⟨v5, rfl, h5⟩; obtain ⟨a1, c1, a2, c2, rfl, h6⟩ := stv_open h5; have hb := h6.get4; have e0 : w5.cell? ⟨b, 0, none⟩ = some (.int .i64 0) := hb.cell 0; have e1 : w5.cell? ⟨b, 1, none⟩ = some (.slice none 0 0) := hb.cell 1; have e2 : w5.cell? ⟨b, 2, none⟩ = some (.slice none 0 0) := hb.cell 2; have e3 : w5.cell? ⟨b, 3, none⟩ = some (.string ⟨#[]⟩) := hb.cell 3; have f0 := hb.frozen 0; have f1 := hb.frozen 1; have f2 := hb.frozen 2; have f3 := hb.frozen 3)
      (
        have h2 := (((hb.set 0 (.int .i64 x.cl)).set 1 (.slice a1 x.rs.length c1)).set 2 (.slice a2 x.ws.length c2)).set 3 (.string x.nm)
        generalize (((w5.setCell ⟨b, 0, none⟩ (.int .i64 x.cl)).setCell ⟨b, 1, none⟩ (.slice a1 x.rs.length c1)).setCell ⟨b, 2, none⟩ (.slice a2 x.ws.length c2)).setCell ⟨b, 3, none⟩ (.string x.nm) = w9 at *
        clear e0 e1 e2 e3 f0 f1 f2 f3 hb
        have g0 : w9.cell? ⟨b, 0, none⟩ = some (.int .i64 x.cl) := h2.cell 0
        have g1 : w9.cell? ⟨b, 1, none⟩ = some (.slice a1 x.rs.length c1) := h2.cell 1
        have g2 : w9.cell? ⟨b, 2, none⟩ = some (.slice a2 x.ws.length c2) := h2.cell 2
        have g3 : w9.cell? ⟨b, 3, none⟩ = some (.string x.nm) := h2.cell 3)
      refine bodyPost_ret (v := .tuple #[.agg #[.int .i64 x.cl, .slice a1 x.rs.length c1, .slice a2 x.ws.length c2, .string x.nm], .int .i64 0]) (by simp [results, Try.results20, go_sem, g0, g1, g2, g3]) rfl ?_
      rw [HX.out]
      exact ⟨_, rfl, stv_close h2.drop.get3.drop⟩
    | p :: q :: r, hsw, HR, h2 =>
      have hb := h2.drop.drop
      have HX : Hid (res = (noSt, 4)) := HR.out
      clear HR hsw h2
      obtain ⟨n, hn⟩ : ∃ n, (p :: q :: r).length = n := ⟨_, rfl⟩
      have hn2 : 2 ≤ n := by rw [← hn]; simp
      rw [hn]
      have hn0 : ((n : Int) == 0) = false := by simp; omega
      have hn1 : ((n : Int) == 1) = false := by simp; omega
      have hn3 : (1 : Int) < n := by omega
      clear hn hn2
      obtain ⟨wz, rfl⟩ : ∃ wz, wz = w2 := ⟨_, rfl⟩
      (
        have e0 : wz.cell? ⟨b, 0, none⟩ = some (.int .i64 0) := hb.cell 0
        have e1 : wz.cell? ⟨b, 1, none⟩ = some (.slice none 0 0) := hb.cell 1
        have e2 : wz.cell? ⟨b, 2, none⟩ = some (.slice none 0 0) := hb.cell 2
        have e3 : wz.cell? ⟨b, 3, none⟩ = some (.string ⟨#[]⟩) := hb.cell 3
        have f0 := hb.frozen 0
        have f1 := hb.frozen 1
        have f2 := hb.frozen 2
        have f3 := hb.frozen 3)
      go_wp2_with fail
      (
        have h2 := (((hb.set 0 (.int .i64 0)).set 1 (.slice none 0 0)).set 2 (.slice none 0 0)).set 3 (.string ⟨#[]⟩)
        generalize (((wz.setCell ⟨b, 0, none⟩ (.int .i64 0)).setCell ⟨b, 1, none⟩ (.slice none 0 0)).setCell ⟨b, 2, none⟩ (.slice none 0 0)).setCell ⟨b, 3, none⟩ (.string ⟨#[]⟩) = w9 at *
        clear e0 e1 e2 e3 f0 f1 f2 f3 hb
        have g0 : w9.cell? ⟨b, 0, none⟩ = some (.int .i64 0) := h2.cell 0
        have g1 : w9.cell? ⟨b, 1, none⟩ = some (.slice none 0 0) := h2.cell 1
        have g2 : w9.cell? ⟨b, 2, none⟩ = some (.slice none 0 0) := h2.cell 2
        have g3 : w9.cell? ⟨b, 3, none⟩ = some (.string ⟨#[]⟩) := h2.cell 3)
      refine bodyPost_ret (v := .tuple #[.agg #[.int .i64 0, .slice none 0 0, .slice none 0 0, .string ⟨#[]⟩], .int .i64 4]) (by simp [results, Try.results20, go_sem, g0, g1, g2, g3]) rfl ?_
      rw [HX.out]
      exact ⟨_, rfl, st_zero h2.drop⟩

end Go.Proofs.Ytkjhfpjjcagecaa
