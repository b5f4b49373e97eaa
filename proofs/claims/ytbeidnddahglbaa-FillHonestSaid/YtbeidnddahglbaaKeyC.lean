/- Contracts of package cache: of a key's text comes the key. -/
import Derived.Test.YtbeidnddahglbaaKeyB
namespace Go.Proofs.Ytbeidnddahglbaa
set_option linter.all false
open Go Go.RowKit

theorem parse_places {db ro nm : ByteArray} {fm : Int} (h : rightK ⟨db, ro, fm, nm⟩ = true) (ht : tiny ⟨db, ro, fm, nm⟩) (k : Env) : ∃ n1 n2 n3 : Int, getT (textK ⟨db, ro, fm, nm⟩) 0 = (db, n1, 0) ∧ getT (textK ⟨db, ro, fm, nm⟩) n1 = (ro, n2, 0) ∧
    (∀ (w : World) (R : Assn), Sat k w R → Calls Try.prog 81 #[.string (textK ⟨db, ro, fm, nm⟩), .int .i64 n2] w fun e w' => e = .returned (.tuple #[.int .i64 fm, .int .i64 n3, .int .i64 0]) ∧ Sat k w' R) ∧
    getT (textK ⟨db, ro, fm, nm⟩) n3 = (nm, ((textK ⟨db, ro, fm, nm⟩).size : Int), 0) := by
  obtain ⟨e0, e1, e3, hfm⟩ := rightK_parts h
  have hsz := textK_size ht
  have hT : textK ⟨db, ro, fm, nm⟩ = db ++ zb ++ ro ++ zb ++ bin2 fm ++ nm ++ zb := by unfold textK; rw [if_pos h]
  rw [hT] at hsz ⊢
  have z1 : zb.size = 1 := rfl
  have z2 : (bin2 fm).size = 2 := rfl
  have z0 : (⟨#[]⟩ : ByteArray).size = 0 := rfl
  have g1 := getT_at ⟨#[]⟩ db (ro ++ zb ++ bin2 fm ++ nm ++ zb) e0
  have q1 : (⟨#[]⟩ : ByteArray) ++ db ++ zb ++ (ro ++ zb ++ bin2 fm ++ nm ++ zb) = db ++ zb ++ ro ++ zb ++ bin2 fm ++ nm ++ zb := by
    apply ByteArray.ext; simp
  have g2 := getT_at (db ++ zb) ro (bin2 fm ++ nm ++ zb) e1
  have q2 : db ++ zb ++ ro ++ zb ++ (bin2 fm ++ nm ++ zb) = db ++ zb ++ ro ++ zb ++ bin2 fm ++ nm ++ zb := by simp [ByteArray.append_assoc]
  have g3 := extract_mid (db ++ zb ++ ro ++ zb) (bin2 fm) (nm ++ zb)
  have q3 : db ++ zb ++ ro ++ zb ++ bin2 fm ++ (nm ++ zb) = db ++ zb ++ ro ++ zb ++ bin2 fm ++ nm ++ zb := by simp [ByteArray.append_assoc]
  have g4 := getT_at (db ++ zb ++ ro ++ zb ++ bin2 fm) nm ⟨#[]⟩ e3
  have q4 : db ++ zb ++ ro ++ zb ++ bin2 fm ++ nm ++ zb ++ ⟨#[]⟩ = db ++ zb ++ ro ++ zb ++ bin2 fm ++ nm ++ zb := by
    apply ByteArray.ext; simp
  rw [q1] at g1
  rw [q2] at g2
  rw [q3] at g3
  rw [q4] at g4
  have hs : (db ++ zb ++ ro ++ zb ++ bin2 fm ++ nm ++ zb).size = db.size + 1 + ro.size + 1 + 2 + nm.size + 1 := by simp only [ByteArray.size_append]; omega
  have p2 : (db ++ zb).size = db.size + 1 := by simp only [ByteArray.size_append]; omega
  have p3 : (db ++ zb ++ ro ++ zb).size = db.size + 1 + ro.size + 1 := by simp only [ByteArray.size_append]; omega
  have p4 : (db ++ zb ++ ro ++ zb ++ bin2 fm).size = db.size + 1 + ro.size + 1 + 2 := by simp only [ByteArray.size_append]; omega
  rw [z0] at g1
  rw [p2] at g2
  rw [p3, z2] at g3
  rw [p4] at g4
  rw [hs]
  generalize db ++ zb ++ ro ++ zb ++ bin2 fm ++ nm ++ zb = s at *
  refine ⟨((0 + db.size + 1 : Nat) : Int), ((db.size + 1 + ro.size + 1 : Nat) : Int), ((db.size + 1 + ro.size + 1 + 2 : Nat) : Int), g1, by rw [Nat.zero_add]; exact g2, fun w R hS => ?_, g4⟩
  have := oget16_small k w R s (db.size + 1 + ro.size + 1) fm hfm (by omega) (by omega) g3 hS
  exact this

set_option maxRecDepth 100000 in
set_option maxHeartbeats 4000000 in
theorem parse_text (k : Env) (w : World) (R : Assn) (y : Ky) (ht : tiny y) (hy : rightK y = true) (h : Sat k w R) :
    Calls Try.prog 60 #[.string (textK y)] w fun e w' => e = .returned (.tuple #[kyV y, .bool true]) ∧ Sat k w' R := by
  have hr := Lib.hid (fun w' R' => right_any k w' R' y ht)
  have hsz := textK_size ht
  rw [hy] at hr
  obtain ⟨db, ro, fm, nm⟩ := y
  obtain ⟨n1, n2, n3, g1, g2, g3, g4⟩ := parse_places hy ht k
  clear hy ht
  generalize textK ⟨db, ro, fm, nm⟩ = s at *
  have C1 := Lib.hid (fun w' => ogetText_any w' s 0 (by omega))
  have C2 := Lib.hid (fun w' => ogetText_any w' s n1 (by omega))
  have C3 := Lib.hid g3
  have C4 := Lib.hid (fun w' => ogetText_any w' s n3 (by omega))
  rw [g1] at C1
  rw [g2] at C2
  rw [g4] at C4
  simp only [getTV] at C1 C2 C4
  simp only [kyV] at *
  clear g1 g2 g3 g4
  go_enter Try.func60, Try.ntmps60
  go_upto_region 4 with fail
  have h1 := ((h.alloc (.cells #[.string ⟨#[]⟩, .string ⟨#[]⟩, .int .i64 0, .string ⟨#[]⟩] 30)).alloc (.cells #[.string ⟨#[]⟩, .string ⟨#[]⟩, .int .i64 0, .string ⟨#[]⟩] 30)).alloc (.cells #[.int .i64 0, .int .i64 0, .int .i64 0, .int .i64 0] 140)
  simp only [World.size_alloc] at h1
  generalize (((w.alloc (.cells #[.string ⟨#[]⟩, .string ⟨#[]⟩, .int .i64 0, .string ⟨#[]⟩] 30)).alloc (.cells #[.string ⟨#[]⟩, .string ⟨#[]⟩, .int .i64 0, .string ⟨#[]⟩] 30)).alloc (.cells #[.int .i64 0, .int .i64 0, .int .i64 0, .int .i64 0] 140)) = w1 at *
  generalize w.heap.size + 1 + 1 = o5 at *
  generalize w.heap.size + 1 = o4 at *
  generalize w.heap.size = o2 at *
  have a1 : w1.cell? ⟨o4, 0, none⟩ = some (.string ⟨#[]⟩) := h1.swap.cell 0
  have b1 : w1.cell? ⟨o5, 0, none⟩ = some (.int .i64 0) := h1.cell 0
  have f4 := h1.swap.frozen
  have f5 := h1.frozen
  have o45 : o5 ≠ o4 := h1.ne
  have o54 : o4 ≠ o5 := Ne.symm o45
  go_upto_region 5 with (go_at_call 80; (with_reducible refine (C1.out _).mono ?_); rintro e w' ⟨rfl, rfl⟩)
  have h2 := ((h1.swap.set 0 (.string db)).swap.set 0 (.int .i64 0))
  generalize ((w1.setCell ⟨o4, 0, none⟩ (.string db)).setCell ⟨o5, 0, none⟩ (.int .i64 0)) = w2 at *
  clear a1 b1 f4 f5 o45 o54
  have a2 : w2.cell? ⟨o4, 1, none⟩ = some (.string ⟨#[]⟩) := h2.swap.cell 1
  have b2 : w2.cell? ⟨o5, 1, none⟩ = some (.int .i64 0) := h2.cell 1
  have f4 := h2.swap.frozen
  have f5 := h2.frozen
  have o45 : o5 ≠ o4 := h2.ne
  have o54 : o4 ≠ o5 := Ne.symm o45
  go_upto_region 6 with (go_at_call 80; (with_reducible refine (C2.out _).mono ?_); rintro e w' ⟨rfl, rfl⟩)
  have h3 := ((h2.swap.set 1 (.string ro)).swap.set 1 (.int .i64 0))
  generalize ((w2.setCell ⟨o4, 1, none⟩ (.string ro)).setCell ⟨o5, 1, none⟩ (.int .i64 0)) = w3 at *
  clear a2 b2 f4 f5 o45 o54
  go_upto_region 7 with (go_at_call 81; (with_reducible refine (C3.out w3 _ h3).mono ?_); rintro e w3x ⟨rfl, h3x⟩; have a3 : w3x.cell? ⟨o4, 2, none⟩ = some (.int .i64 0) := h3x.swap.cell 2; have b3 : w3x.cell? ⟨o5, 2, none⟩ = some (.int .i64 0) := h3x.cell 2; have f4 := h3x.swap.frozen; have f5 := h3x.frozen; have o45 : o5 ≠ o4 := h3x.ne; have o54 : o4 ≠ o5 := Ne.symm o45)
  have h4 := ((h3x.swap.set 2 (.int .i64 fm)).swap.set 2 (.int .i64 0))
  generalize ((w3x.setCell ⟨o4, 2, none⟩ (.int .i64 fm)).setCell ⟨o5, 2, none⟩ (.int .i64 0)) = w4 at *
  clear a3 b3 f4 f5 o45 o54 h3x
  have a4 : w4.cell? ⟨o4, 3, none⟩ = some (.string ⟨#[]⟩) := h4.swap.cell 3
  have b4 : w4.cell? ⟨o5, 3, none⟩ = some (.int .i64 0) := h4.cell 3
  have f4 := h4.swap.frozen
  have f5 := h4.frozen
  have o45 : o5 ≠ o4 := h4.ne
  have o54 : o4 ≠ o5 := Ne.symm o45
  go_upto_region 8 with (go_at_call 80; (with_reducible refine (C4.out _).mono ?_); rintro e w' ⟨rfl, rfl⟩)
  have h5 := ((h4.swap.set 3 (.string nm)).swap.set 3 (.int .i64 0))
  generalize ((w4.setCell ⟨o4, 3, none⟩ (.string nm)).setCell ⟨o5, 3, none⟩ (.int .i64 0)) = w5 at *
  clear a4 b4 f4 f5 o45 o54
  have d0 : w5.cell? ⟨o4, 0, none⟩ = some (.string db) := h5.swap.cell 0
  have d1 : w5.cell? ⟨o4, 1, none⟩ = some (.string ro) := h5.swap.cell 1
  have d2 : w5.cell? ⟨o4, 2, none⟩ = some (.int .i64 fm) := h5.swap.cell 2
  have d3 : w5.cell? ⟨o4, 3, none⟩ = some (.string nm) := h5.swap.cell 3
  have e0 : w5.cell? ⟨o5, 0, none⟩ = some (.int .i64 0) := h5.cell 0
  have e1 : w5.cell? ⟨o5, 1, none⟩ = some (.int .i64 0) := h5.cell 1
  have e2 : w5.cell? ⟨o5, 2, none⟩ = some (.int .i64 0) := h5.cell 2
  have e3 : w5.cell? ⟨o5, 3, none⟩ = some (.int .i64 0) := h5.cell 3
  have hne : ∀ w : World, (binOp .neq 140 (.agg #[.int .i64 0, .int .i64 0, .int .i64 0, .int .i64 0]) (.agg #[.int .i64 0, .int .i64 0, .int .i64 0, .int .i64 0])).run Try.prog w = .ok (.bool false) w := fun _ => by kernel_rfl
  go_wp2_with (go_at_call 49; (with_reducible refine (hr.out w5 _ h5).mono ?_); rintro e w6 ⟨rfl, h6⟩; have d0 : w6.cell? ⟨o4, 0, none⟩ = some (.string db) := h6.swap.cell 0; have d1 : w6.cell? ⟨o4, 1, none⟩ = some (.string ro) := h6.swap.cell 1; have d2 : w6.cell? ⟨o4, 2, none⟩ = some (.int .i64 fm) := h6.swap.cell 2; have d3 : w6.cell? ⟨o4, 3, none⟩ = some (.string nm) := h6.swap.cell 3; have r0 : w6.cell? ⟨o2, 0, none⟩ = some (.string ⟨#[]⟩) := h6.get3.cell 0; have r1 : w6.cell? ⟨o2, 1, none⟩ = some (.string ⟨#[]⟩) := h6.get3.cell 1; have r2 : w6.cell? ⟨o2, 2, none⟩ = some (.int .i64 0) := h6.get3.cell 2; have r3 : w6.cell? ⟨o2, 3, none⟩ = some (.string ⟨#[]⟩) := h6.get3.cell 3; have rf := h6.get3.frozen)
  refine bodyPost_ret (v := .tuple #[.agg #[.string db, .string ro, .int .i64 fm, .string nm], .bool true]) (by simp [results, Try.results60, go_sem, r0, r1, r2, r3]) rfl ?_
  exact ⟨rfl, ((((h6.get3.set 0 _).set 1 _).set 2 _).set 3 _).drop.drop.drop⟩

end Go.Proofs.Ytbeidnddahglbaa
