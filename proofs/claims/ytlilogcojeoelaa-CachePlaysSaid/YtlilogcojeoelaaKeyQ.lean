/- cache.Parse of any text. -/
import Derived.Test.YtlilogcojeoelaaMA
import Derived.Test.YtlilogcojeoelaaKeyP
namespace Go.Proofs.Ytlilogcojeoelaa
set_option linter.all false
open Go Go.RowKit

theorem kyV_mk (db ro nm : ByteArray) (fm : Int) : kyV ⟨db, ro, fm, nm⟩ = .agg #[.string db, .string ro, .int .i64 fm, .string nm] := rfl

set_option maxRecDepth 100000 in
set_option maxHeartbeats 8000000 in
theorem parse_any (k : Env) (w : World) (R : Assn) (s : ByteArray) (hs : s.size ≤ 300000) (h : Sat k w R) :
    Calls Try.prog 10 #[.string s] w fun e w' => e = .returned (.tuple #[kyV (resP s), .bool (isP s)]) ∧ Sat k w' R := by
  have ht := keyP_tiny hs
  have hr := Lib.hid (fun w' R' => right_any k w' R' (keyP s) ht)
  have C1 := Lib.hid (fun w' => ogetText_any w' s 0 (by omega))
  have C2 := Lib.hid (fun w' => ogetText_any w' s (p1 s).2.1 (by omega))
  have C3 := Lib.hid (fun w' R' => oget16_any k w' R' s (p2 s).2.1 (by omega))
  have C4 := Lib.hid (fun w' => ogetText_any w' s (p3 s).2.1 (by omega))
  have x1 := getT_err s 0
  have x2 := getT_err s (p1 s).2.1
  have x3 := g16_err s (p2 s).2.1
  have x4 := getT_err s (p3 s).2.1
  change Hid (∀ w', Calls _ _ _ _ fun e w'' => e = .returned (getTV (p1 s)) ∧ _) at C1
  change Hid (∀ w', Calls _ _ _ _ fun e w'' => e = .returned (getTV (p2 s)) ∧ _) at C2
  change Hid (∀ w' R', _ → Calls _ _ _ _ fun e w'' => e = .returned (g16V (p3 s)) ∧ _) at C3
  change Hid (∀ w', Calls _ _ _ _ fun e w'' => e = .returned (getTV (p4 s)) ∧ _) at C4
  change (p1 s).2.2 = 0 ∨ (p1 s).2.2 = 1 ∨ (p1 s).2.2 = 3 at x1
  change (p2 s).2.2 = 0 ∨ (p2 s).2.2 = 1 ∨ (p2 s).2.2 = 3 at x2
  change (p3 s).2.2 = 0 ∨ (p3 s).2.2 = 1 ∨ (p3 s).2.2 = 3 at x3
  change (p4 s).2.2 = 0 ∨ (p4 s).2.2 = 1 ∨ (p4 s).2.2 = 3 at x4
  have HI := isP_eq s
  have HR : resP s = if isP s = true then keyP s else zeroK := rfl
  have hK : keyP s = ⟨(p1 s).1, (p2 s).1, (p3 s).1, (p4 s).1⟩ := rfl
  rw [hK] at hr HI HR
  clear hK ht
  generalize isP s = ip at *
  generalize resP s = rp at *
  generalize p4 s = r4 at *
  generalize p3 s = r3 at *
  generalize p2 s = r2 at *
  generalize p1 s = r1 at *
  obtain ⟨db, n1, e1⟩ := r1
  obtain ⟨ro, n2, e2⟩ := r2
  obtain ⟨fm, n3, e3⟩ := r3
  obtain ⟨nm, n4, e4⟩ := r4
  simp only [getTV, g16V] at *
  have hne := errs_run e1 e2 e3 e4 x1 x2 x3 x4
  clear x1 x2 x3 x4
  generalize rightK ⟨db, ro, fm, nm⟩ = rr at *
  generalize (e1 == 0 && e2 == 0 && e3 == 0 && e4 == 0) = bb at *
  generalize hnn : (n4 == (s.size : Int)) = nn at *
  have HIP : ip = (bb && nn && rr) := HI
  have HRR : rp = if ip = true then ⟨db, ro, fm, nm⟩ else zeroK := HR
  clear HI HR
  simp only [kyV_mk] at *
  subst HRR
  subst HIP
  go_enter Try.func10, Try.ntmps10
  go_upto_region 4 with fail
  have h1 := ((h.alloc (.cells #[.string ⟨#[]⟩, .string ⟨#[]⟩, .int .i64 0, .string ⟨#[]⟩] 23)).alloc (.cells #[.string ⟨#[]⟩, .string ⟨#[]⟩, .int .i64 0, .string ⟨#[]⟩] 23)).alloc (.cells #[.int .i64 0, .int .i64 0, .int .i64 0, .int .i64 0] 73)
  simp only [World.size_alloc] at h1
  generalize (((w.alloc (.cells #[.string ⟨#[]⟩, .string ⟨#[]⟩, .int .i64 0, .string ⟨#[]⟩] 23)).alloc (.cells #[.string ⟨#[]⟩, .string ⟨#[]⟩, .int .i64 0, .string ⟨#[]⟩] 23)).alloc (.cells #[.int .i64 0, .int .i64 0, .int .i64 0, .int .i64 0] 73)) = w1 at *
  generalize w.heap.size + 1 + 1 = o5 at *
  generalize w.heap.size + 1 = o4 at *
  generalize w.heap.size = o2 at *
  have a1 : w1.cell? ⟨o4, 0, none⟩ = some (.string ⟨#[]⟩) := h1.swap.cell 0
  have b1 : w1.cell? ⟨o5, 0, none⟩ = some (.int .i64 0) := h1.cell 0
  have f4 := h1.swap.frozen
  have f5 := h1.frozen
  have o45 : o5 ≠ o4 := h1.ne
  have o54 : o4 ≠ o5 := Ne.symm o45
  go_upto_region 5 with (go_at_call 35; (with_reducible refine (C1.out _).mono ?_); rintro e w' ⟨rfl, rfl⟩)
  have h2 := ((h1.swap.set 0 (.string db)).swap.set 0 (.int .i64 e1))
  generalize ((w1.setCell ⟨o4, 0, none⟩ (.string db)).setCell ⟨o5, 0, none⟩ (.int .i64 e1)) = w2 at *
  clear a1 b1 f4 f5 o45 o54
  have a2 : w2.cell? ⟨o4, 1, none⟩ = some (.string ⟨#[]⟩) := h2.swap.cell 1
  have b2 : w2.cell? ⟨o5, 1, none⟩ = some (.int .i64 0) := h2.cell 1
  have f4 := h2.swap.frozen
  have f5 := h2.frozen
  have o45 : o5 ≠ o4 := h2.ne
  have o54 : o4 ≠ o5 := Ne.symm o45
  go_upto_region 6 with (go_at_call 35; (with_reducible refine (C2.out _).mono ?_); rintro e w' ⟨rfl, rfl⟩)
  have h3 := ((h2.swap.set 1 (.string ro)).swap.set 1 (.int .i64 e2))
  generalize ((w2.setCell ⟨o4, 1, none⟩ (.string ro)).setCell ⟨o5, 1, none⟩ (.int .i64 e2)) = w3 at *
  clear a2 b2 f4 f5 o45 o54
  go_upto_region 7 with (go_at_call 36; (with_reducible refine (C3.out w3 _ h3).mono ?_); rintro e w3x ⟨rfl, h3x⟩; have a3 : w3x.cell? ⟨o4, 2, none⟩ = some (.int .i64 0) := h3x.swap.cell 2; have b3 : w3x.cell? ⟨o5, 2, none⟩ = some (.int .i64 0) := h3x.cell 2; have f4 := h3x.swap.frozen; have f5 := h3x.frozen; have o45 : o5 ≠ o4 := h3x.ne; have o54 : o4 ≠ o5 := Ne.symm o45)
  have h4 := ((h3x.swap.set 2 (.int .i64 fm)).swap.set 2 (.int .i64 e3))
  generalize ((w3x.setCell ⟨o4, 2, none⟩ (.int .i64 fm)).setCell ⟨o5, 2, none⟩ (.int .i64 e3)) = w4 at *
  clear a3 b3 f4 f5 o45 o54 h3x
  have a4 : w4.cell? ⟨o4, 3, none⟩ = some (.string ⟨#[]⟩) := h4.swap.cell 3
  have b4 : w4.cell? ⟨o5, 3, none⟩ = some (.int .i64 0) := h4.cell 3
  have f4 := h4.swap.frozen
  have f5 := h4.frozen
  have o45 : o5 ≠ o4 := h4.ne
  have o54 : o4 ≠ o5 := Ne.symm o45
  go_upto_region 8 with (go_at_call 35; (with_reducible refine (C4.out _).mono ?_); rintro e w' ⟨rfl, rfl⟩)
  have h5 := ((h4.swap.set 3 (.string nm)).swap.set 3 (.int .i64 e4))
  generalize ((w4.setCell ⟨o4, 3, none⟩ (.string nm)).setCell ⟨o5, 3, none⟩ (.int .i64 e4)) = w5 at *
  clear a4 b4 f4 f5 o45 o54
  have d0 : w5.cell? ⟨o4, 0, none⟩ = some (.string db) := h5.swap.cell 0
  have d1 : w5.cell? ⟨o4, 1, none⟩ = some (.string ro) := h5.swap.cell 1
  have d2 : w5.cell? ⟨o4, 2, none⟩ = some (.int .i64 fm) := h5.swap.cell 2
  have d3 : w5.cell? ⟨o4, 3, none⟩ = some (.string nm) := h5.swap.cell 3
  have e0 : w5.cell? ⟨o5, 0, none⟩ = some (.int .i64 e1) := h5.cell 0
  have e1 : w5.cell? ⟨o5, 1, none⟩ = some (.int .i64 e2) := h5.cell 1
  have e2 : w5.cell? ⟨o5, 2, none⟩ = some (.int .i64 e3) := h5.cell 2
  have e3 : w5.cell? ⟨o5, 3, none⟩ = some (.int .i64 e4) := h5.cell 3
  have r0 : w5.cell? ⟨o2, 0, none⟩ = some (.string ⟨#[]⟩) := h5.get3.cell 0
  have r1 : w5.cell? ⟨o2, 1, none⟩ = some (.string ⟨#[]⟩) := h5.get3.cell 1
  have r2 : w5.cell? ⟨o2, 2, none⟩ = some (.int .i64 0) := h5.get3.cell 2
  have r3 : w5.cell? ⟨o2, 3, none⟩ = some (.string ⟨#[]⟩) := h5.get3.cell 3
  have rf := h5.get3.frozen
  cases bb
  · go_wp2_with fail
    refine bodyPost_ret (v := .tuple #[.agg #[.string ⟨#[]⟩, .string ⟨#[]⟩, .int .i64 0, .string ⟨#[]⟩], .bool false]) (by simp [results, Try.results10, go_sem, r0, r1, r2, r3]; try rfl) rfl ?_
    exact ⟨rfl, ((((h5.get3.set 0 _).set 1 _).set 2 _).set 3 _).drop.drop.drop⟩
  cases nn
  · have hq : ¬ n4 = (s.size : Int) := by simpa using hnn
    have hq1 : (n4 != (s.size : Int)) = true := by simpa using hq
    go_wp2_with fail
    refine bodyPost_ret (v := .tuple #[.agg #[.string ⟨#[]⟩, .string ⟨#[]⟩, .int .i64 0, .string ⟨#[]⟩], .bool false]) (by simp [results, Try.results10, go_sem, r0, r1, r2, r3]; try rfl) rfl ?_
    exact ⟨rfl, ((((h5.get3.set 0 _).set 1 _).set 2 _).set 3 _).drop.drop.drop⟩
  have hq : n4 = (s.size : Int) := by simpa using hnn
  have hq1 : (n4 != (s.size : Int)) = false := by simpa using hq
  clear hnn hq
  clear r0 r1 r2 r3 rf
  cases rr
  · go_wp2_with (go_at_call 37; (with_reducible refine (hr.out w5 _ h5).mono ?_); rintro e w6 ⟨rfl, h6⟩; have r0 : w6.cell? ⟨o2, 0, none⟩ = some (.string ⟨#[]⟩) := h6.get3.cell 0; have r1 : w6.cell? ⟨o2, 1, none⟩ = some (.string ⟨#[]⟩) := h6.get3.cell 1; have r2 : w6.cell? ⟨o2, 2, none⟩ = some (.int .i64 0) := h6.get3.cell 2; have r3 : w6.cell? ⟨o2, 3, none⟩ = some (.string ⟨#[]⟩) := h6.get3.cell 3; have rf := h6.get3.frozen)
    refine bodyPost_ret (v := .tuple #[.agg #[.string ⟨#[]⟩, .string ⟨#[]⟩, .int .i64 0, .string ⟨#[]⟩], .bool false]) (by simp [results, Try.results10, go_sem, r0, r1, r2, r3]; try rfl) rfl ?_
    exact ⟨rfl, ((((h6.get3.set 0 _).set 1 _).set 2 _).set 3 _).drop.drop.drop⟩
  · go_wp2_with (go_at_call 37; (with_reducible refine (hr.out w5 _ h5).mono ?_); rintro e w6 ⟨rfl, h6⟩; have d0 : w6.cell? ⟨o4, 0, none⟩ = some (.string db) := h6.swap.cell 0; have d1 : w6.cell? ⟨o4, 1, none⟩ = some (.string ro) := h6.swap.cell 1; have d2 : w6.cell? ⟨o4, 2, none⟩ = some (.int .i64 fm) := h6.swap.cell 2; have d3 : w6.cell? ⟨o4, 3, none⟩ = some (.string nm) := h6.swap.cell 3; have r0 : w6.cell? ⟨o2, 0, none⟩ = some (.string ⟨#[]⟩) := h6.get3.cell 0; have r1 : w6.cell? ⟨o2, 1, none⟩ = some (.string ⟨#[]⟩) := h6.get3.cell 1; have r2 : w6.cell? ⟨o2, 2, none⟩ = some (.int .i64 0) := h6.get3.cell 2; have r3 : w6.cell? ⟨o2, 3, none⟩ = some (.string ⟨#[]⟩) := h6.get3.cell 3; have rf := h6.get3.frozen)
    refine bodyPost_ret (v := .tuple #[.agg #[.string db, .string ro, .int .i64 fm, .string nm], .bool true]) (by simp [results, Try.results10, go_sem, r0, r1, r2, r3]) rfl ?_
    exact ⟨rfl, ((((h6.get3.set 0 _).set 1 _).set 2 _).set 3 _).drop.drop.drop⟩


set_option maxRecDepth 100000 in
set_option maxHeartbeats 8000000 in
theorem rparse_any (k : Env) (w : World) (R : Assn) (s : ByteArray) (hs : s.size ≤ 300000) (h : Sat k w R) :
    Calls Try.prog 11 #[.string s] w fun e w' => e = .returned (.tuple #[kyV (resP s), .bool (isP s)]) ∧ Sat k w' R := by
  have ht := keyP_tiny hs
  have hr := Lib.hid (fun w' R' => rright_any k w' R' (keyP s) ht)
  have hx := Lib.hid (fun w' R' => rtext_any k w' R' (keyP s) ht)
  have C1 := Lib.hid (fun w' => rgetText_any w' s 0 (by omega))
  have C2 := Lib.hid (fun w' => rgetText_any w' s (p1 s).2.1 (by omega))
  have C3 := Lib.hid (fun w' R' => rget16_any k w' R' s (p2 s).2.1 (by omega))
  have C4 := Lib.hid (fun w' => rgetText_any w' s (p3 s).2.1 (by omega))
  change Hid (∀ w', Calls _ _ _ _ fun e w'' => e = .returned (getTV (p1 s)) ∧ _) at C1
  change Hid (∀ w', Calls _ _ _ _ fun e w'' => e = .returned (getTV (p2 s)) ∧ _) at C2
  change Hid (∀ w' R', _ → Calls _ _ _ _ fun e w'' => e = .returned (g16V (p3 s)) ∧ _) at C3
  change Hid (∀ w', Calls _ _ _ _ fun e w'' => e = .returned (getTV (p4 s)) ∧ _) at C4
  have HI : isP s = (rightK (keyP s) && decide (textK (keyP s) = s)) := rfl
  have HR : resP s = if isP s = true then keyP s else zeroK := rfl
  have hK : keyP s = ⟨(p1 s).1, (p2 s).1, (p3 s).1, (p4 s).1⟩ := rfl
  rw [hK] at hr hx HI HR
  clear hK ht
  generalize isP s = ip at *
  generalize resP s = rp at *
  generalize p4 s = r4 at *
  generalize p3 s = r3 at *
  generalize p2 s = r2 at *
  generalize p1 s = r1 at *
  obtain ⟨db, n1, e1⟩ := r1
  obtain ⟨ro, n2, e2⟩ := r2
  obtain ⟨fm, n3, e3⟩ := r3
  obtain ⟨nm, n4, e4⟩ := r4
  simp only [getTV, g16V] at *
  generalize rightK ⟨db, ro, fm, nm⟩ = rr at *
  generalize textK ⟨db, ro, fm, nm⟩ = tx at *
  generalize hde : decide (tx = s) = dd at *
  simp only [kyV_mk] at *
  subst HR
  subst HI
  go_enter Try.func11, Try.ntmps11
  go_upto_region 1 with fail
  have h1 := h.alloc (.cells #[.string ⟨#[]⟩, .string ⟨#[]⟩, .int .i64 0, .string ⟨#[]⟩] 28)
  generalize w.alloc (.cells #[.string ⟨#[]⟩, .string ⟨#[]⟩, .int .i64 0, .string ⟨#[]⟩] 28) = w1 at *
  generalize w.heap.size = o2 at *
  go_upto_region 5 with (first | (go_at_call 38; (with_reducible refine (C1.out _).mono ?_); rintro e w' ⟨rfl, rfl⟩) | (go_at_call 38; (with_reducible refine (C2.out _).mono ?_); rintro e w' ⟨rfl, rfl⟩) | (go_at_call 39; (with_reducible refine (C3.out w1 _ h1).mono ?_); rintro e w2 ⟨rfl, h2⟩) | (go_at_call 38; (with_reducible refine (C4.out _).mono ?_); rintro e w' ⟨rfl, rfl⟩) | fail)
  go_upto_region 6 with fail
  have h3 := h2.alloc (.cells #[.string db, .string ro, .int .i64 fm, .string nm] 28)
  generalize w2.alloc (.cells #[.string db, .string ro, .int .i64 fm, .string nm] 28) = w3 at *
  generalize w2.heap.size = o4 at *
  have d0 : w3.cell? ⟨o4, 0, none⟩ = some (.string db) := h3.cell 0
  have d1 : w3.cell? ⟨o4, 1, none⟩ = some (.string ro) := h3.cell 1
  have d2 : w3.cell? ⟨o4, 2, none⟩ = some (.int .i64 fm) := h3.cell 2
  have d3 : w3.cell? ⟨o4, 3, none⟩ = some (.string nm) := h3.cell 3
  cases rr
  · go_wp2_with (go_at_call 40; (with_reducible refine (hr.out w3 _ h3).mono ?_); rintro e w6 ⟨rfl, h6⟩; have r0 : w6.cell? ⟨o2, 0, none⟩ = some (.string ⟨#[]⟩) := h6.swap.cell 0; have r1 : w6.cell? ⟨o2, 1, none⟩ = some (.string ⟨#[]⟩) := h6.swap.cell 1; have r2 : w6.cell? ⟨o2, 2, none⟩ = some (.int .i64 0) := h6.swap.cell 2; have r3 : w6.cell? ⟨o2, 3, none⟩ = some (.string ⟨#[]⟩) := h6.swap.cell 3; have rf := h6.swap.frozen)
    refine bodyPost_ret (v := .tuple #[.agg #[.string ⟨#[]⟩, .string ⟨#[]⟩, .int .i64 0, .string ⟨#[]⟩], .bool false]) (by simp [results, Try.results11, go_sem, r0, r1, r2, r3]; try rfl) rfl ?_
    exact ⟨rfl, ((((h6.swap.set 0 _).set 1 _).set 2 _).set 3 _).drop.drop⟩
  cases dd
  case true =>
    have hb : (tx.toList == s.toList) = true := by rw [tl_beq]; exact hde
    clear hde
    go_wp2_with (first | (go_at_call 40; (with_reducible refine (hr.out w3 _ h3).mono ?_); rintro e w6 ⟨rfl, h6⟩; have d0 : w6.cell? ⟨o4, 0, none⟩ = some (.string db) := h6.cell 0; have d1 : w6.cell? ⟨o4, 1, none⟩ = some (.string ro) := h6.cell 1; have d2 : w6.cell? ⟨o4, 2, none⟩ = some (.int .i64 fm) := h6.cell 2; have d3 : w6.cell? ⟨o4, 3, none⟩ = some (.string nm) := h6.cell 3) | (go_at_call 13; (with_reducible refine (hx.out w6 _ h6).mono ?_); rintro e w7 ⟨rfl, h7⟩; have d0 : w7.cell? ⟨o4, 0, none⟩ = some (.string db) := h7.cell 0; have d1 : w7.cell? ⟨o4, 1, none⟩ = some (.string ro) := h7.cell 1; have d2 : w7.cell? ⟨o4, 2, none⟩ = some (.int .i64 fm) := h7.cell 2; have d3 : w7.cell? ⟨o4, 3, none⟩ = some (.string nm) := h7.cell 3; have r0 : w7.cell? ⟨o2, 0, none⟩ = some (.string ⟨#[]⟩) := h7.swap.cell 0; have r1 : w7.cell? ⟨o2, 1, none⟩ = some (.string ⟨#[]⟩) := h7.swap.cell 1; have r2 : w7.cell? ⟨o2, 2, none⟩ = some (.int .i64 0) := h7.swap.cell 2; have r3 : w7.cell? ⟨o2, 3, none⟩ = some (.string ⟨#[]⟩) := h7.swap.cell 3; have rf := h7.swap.frozen))
    refine bodyPost_ret (v := .tuple #[.agg #[.string db, .string ro, .int .i64 fm, .string nm], .bool true]) (by simp [results, Try.results11, go_sem, r0, r1, r2, r3]) rfl ?_
    exact ⟨rfl, ((((h7.swap.set 0 _).set 1 _).set 2 _).set 3 _).drop.drop⟩
  case false =>
    have hb : (tx.toList == s.toList) = false := by rw [tl_beq]; exact hde
    clear hde
    go_wp2_with (first | (go_at_call 40; (with_reducible refine (hr.out w3 _ h3).mono ?_); rintro e w6 ⟨rfl, h6⟩; have d0 : w6.cell? ⟨o4, 0, none⟩ = some (.string db) := h6.cell 0; have d1 : w6.cell? ⟨o4, 1, none⟩ = some (.string ro) := h6.cell 1; have d2 : w6.cell? ⟨o4, 2, none⟩ = some (.int .i64 fm) := h6.cell 2; have d3 : w6.cell? ⟨o4, 3, none⟩ = some (.string nm) := h6.cell 3) | (go_at_call 13; (with_reducible refine (hx.out w6 _ h6).mono ?_); rintro e w7 ⟨rfl, h7⟩; have r0 : w7.cell? ⟨o2, 0, none⟩ = some (.string ⟨#[]⟩) := h7.swap.cell 0; have r1 : w7.cell? ⟨o2, 1, none⟩ = some (.string ⟨#[]⟩) := h7.swap.cell 1; have r2 : w7.cell? ⟨o2, 2, none⟩ = some (.int .i64 0) := h7.swap.cell 2; have r3 : w7.cell? ⟨o2, 3, none⟩ = some (.string ⟨#[]⟩) := h7.swap.cell 3; have rf := h7.swap.frozen))
    refine bodyPost_ret (v := .tuple #[.agg #[.string ⟨#[]⟩, .string ⟨#[]⟩, .int .i64 0, .string ⟨#[]⟩], .bool false]) (by simp [results, Try.results11, go_sem, r0, r1, r2, r3]; try rfl) rfl ?_
    exact ⟨rfl, ((((h7.swap.set 0 _).set 1 _).set 2 _).set 3 _).drop.drop⟩

set_option maxHeartbeats 1000000 in
theorem plain_any (k : Env) (w : World) (R : Assn) (y : Ky) (h : Sat k w R) :
    Calls Try.prog 14 #[kyV y] w fun e w' => e = .returned (kyV y) ∧ Sat k w' R := by
  obtain ⟨db, ro, fm, nm⟩ := y
  simp only [kyV_mk]
  have h1 := (h.alloc (.cells #[.string db, .string ro, .int .i64 fm, .string nm] 23)).alloc (.cells #[.string ⟨#[]⟩, .string ⟨#[]⟩, .int .i64 0, .string ⟨#[]⟩] 28)
  simp only [World.size_alloc] at h1
  go_enter Try.func14, Try.ntmps14
  go_upto_region 1 with fail
  generalize (w.alloc (.cells #[.string db, .string ro, .int .i64 fm, .string nm] 23)).alloc (.cells #[.string ⟨#[]⟩, .string ⟨#[]⟩, .int .i64 0, .string ⟨#[]⟩] 28) = w1 at *
  generalize w.heap.size + 1 = o2 at *
  generalize w.heap.size = o1 at *
  have d0 : w1.cell? ⟨o1, 0, none⟩ = some (.string db) := h1.swap.cell 0
  have d1 : w1.cell? ⟨o1, 1, none⟩ = some (.string ro) := h1.swap.cell 1
  have d2 : w1.cell? ⟨o1, 2, none⟩ = some (.int .i64 fm) := h1.swap.cell 2
  have d3 : w1.cell? ⟨o1, 3, none⟩ = some (.string nm) := h1.swap.cell 3
  have r0 : w1.cell? ⟨o2, 0, none⟩ = some (.string ⟨#[]⟩) := h1.cell 0
  have r1 : w1.cell? ⟨o2, 1, none⟩ = some (.string ⟨#[]⟩) := h1.cell 1
  have r2 : w1.cell? ⟨o2, 2, none⟩ = some (.int .i64 0) := h1.cell 2
  have r3 : w1.cell? ⟨o2, 3, none⟩ = some (.string ⟨#[]⟩) := h1.cell 3
  have rf := h1.frozen
  go_wp2_with fail
  refine bodyPost_ret (v := .agg #[.string db, .string ro, .int .i64 fm, .string nm]) (by simp [results, Try.results14, go_sem, r0, r1, r2, r3]) rfl ?_
  exact ⟨rfl, ((((h1.set 0 _).set 1 _).set 2 _).set 3 _).drop.drop⟩

end Go.Proofs.Ytlilogcojeoelaa
