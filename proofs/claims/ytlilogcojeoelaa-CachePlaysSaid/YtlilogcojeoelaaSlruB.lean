/- Contracts of package slru: unlink. -/
import Derived.Test.YtlilogcojeoelaaSlruA
namespace Go.Proofs.Ytlilogcojeoelaa
set_option linter.all false
open Go Go.RowKit

theorem cell_oth (w : World) (a b : Addr) (v : Value) (h : a ≠ b) : (w.setCell a v).drew.cell? b = w.cell? b := World.cell?_setCell_other w a b v h
def smallI (v : Int) : Prop := -2305843009213693952 ≤ v ∧ v ≤ 2305843009213693952

set_option maxRecDepth 100000 in
set_option maxHeartbeats 4000000 in
theorem unlink_000 (k : Env) (w : World) (R : Assn) (b : Nat) (st : St) (i : Nat) (xk : ByteArray) (xs : Int) (hx : st.A[i]? = some ⟨xk, xs, 0, (-1), (-1)⟩)
    (hb : smallI st.l0.bytes) (hs0 : smallI xs) (h : Sat k w (StoreR b st * R)) :
    Calls Try.prog 81 #[.pointer (some ⟨b, 0, none⟩), .int .i64 i] w fun e w' => e = .returned (.tuple #[]) ∧ Sat k w' (StoreR b (unlinkS st i) * R) := by
  obtain ⟨aa, ac, fa, fc, m, hs⟩ := store_open h
  obtain ⟨hb0, hb1⟩ := hb
  obtain ⟨hs1, hs2⟩ := hs0
  have hi := (List.getElem?_eq_some_iff.1 hx).1
  have hi' : (i : Int) < st.A.length := by omega
  have hi0 : (0 : Int) ≤ i := by omega
  have HX : Hid (unlinkS st i = { (st.setLst 0 (unlL st.l0 ⟨xk, xs, 0, (-1), (-1)⟩)) with A := unlA st.A ⟨xk, xs, 0, (-1), (-1)⟩ }) := by
    unfold Hid unlinkS
    simp only [List.getD, hx, Option.getD_some]
    rfl
  have HW : Hid (wrap64 (st.l0.bytes - xs) = st.l0.bytes - xs) := by unfold Hid; exact IntWalk.wrap64_in _ ⟨by omega, by omega⟩
  have HB := Lib.hid hx
  clear hx h
  obtain ⟨g, rfl⟩ := ent_addr hs.drop HB.out
  obtain ⟨hgl, d0, d1, d2, d3, d4, hf⟩ := ent_cells hs.drop HB.out
  simp only [] at d0 d1 d2 d3 d4
  obtain ⟨hbg, hgb⟩ := own_ne hs
  have hfb := hs.frozen
  have hbl := hs.lt
  have c0 : w.cell? ⟨b, 0, none⟩ = some (.slice (some ⟨g, 0, none⟩) st.A.length ac) := hs.cell 0
  have c1 : w.cell? ⟨b, 3, none⟩ = some (.int .i64 (st.l0.first)) := hs.cell 3
  have c2 : w.cell? ⟨b, 4, none⟩ = some (.int .i64 (st.l0.last)) := hs.cell 4
  have c3 : w.cell? ⟨b, 5, none⟩ = some (.int .i64 (st.l0.bytes)) := hs.cell 5
  go_enter Try.func81, Try.ntmps81
  go_wp2_with fail
  go_quiet (fail)
  replace hs := hs.drewN nq
  generalize w.drewN nq = w1 at *
  clear hgl d0 d1 d2 d3 d4 hf hbg hgb hfb hbl c0 c1 c2 c3
  obtain ⟨hgl, d0, d1, d2, d3, d4, hf⟩ := ent_cells hs.drop HB.out
  simp only [] at d0 d1 d2 d3 d4
  obtain ⟨hbg, hgb⟩ := own_ne hs
  have hfb := hs.frozen
  have hbl := hs.lt
  have c0 : w1.cell? ⟨b, 0, none⟩ = some (.slice (some ⟨g, 0, none⟩) st.A.length ac) := hs.cell 0
  have c1 : w1.cell? ⟨b, 3, none⟩ = some (.int .i64 (st.l0.first)) := hs.cell 3
  have c2 : w1.cell? ⟨b, 4, none⟩ = some (.int .i64 (st.l0.last)) := hs.cell 4
  have c3 : w1.cell? ⟨b, 5, none⟩ = some (.int .i64 (st.l0.bytes)) := hs.cell 5
  go_wp2_with fail
  have hs2 := (hs.set 3 (.int .i64 (-1))).set 4 (.int .i64 (-1))
  clear hgl d0 d1 d2 d3 d4 hf hbg hgb hfb hbl c0 c1 c2 c3
  generalize (w1.setCell ⟨b, 3, none⟩ (.int .i64 (-1))).setCell ⟨b, 4, none⟩ (.int .i64 (-1)) = w2 at hs2 ⊢
  obtain ⟨hgl, d0, d1, d2, d3, d4, hf⟩ := ent_cells hs2.drop HB.out
  simp only [] at d0 d1 d2 d3 d4
  obtain ⟨hbg, hgb⟩ := own_ne hs2
  have hfb := hs2.frozen
  have hbl := hs2.lt
  have c0 : w2.cell? ⟨b, 0, none⟩ = some (.slice (some ⟨g, 0, none⟩) st.A.length ac) := hs2.cell 0
  have c1 : w2.cell? ⟨b, 3, none⟩ = some (.int .i64 ((-1))) := hs2.cell 3
  have c2 : w2.cell? ⟨b, 4, none⟩ = some (.int .i64 ((-1))) := hs2.cell 4
  have c3 : w2.cell? ⟨b, 5, none⟩ = some (.int .i64 (st.l0.bytes)) := hs2.cell 5
  go_region
  all_goals (go_wp2; go_end0)
  all_goals
    try rw [HW.out]
    exact ⟨rfl, store_close (hs2.set 5 _) (by rw [HX.out]; first | rfl | simp [cellsS, St.setLst, unlL]) (by rw [HX.out]; first | rfl | simp [unlA, setN_len, setO_len]) (by rw [HX.out]; first | rfl | simp [unlA]) (by rw [HX.out]; rfl) (by rw [HX.out]; rfl) (by rw [HX.out]; rfl)⟩

set_option maxRecDepth 100000 in
set_option maxHeartbeats 4000000 in
theorem unlink_001 (k : Env) (w : World) (R : Assn) (b : Nat) (st : St) (i : Nat) (xk : ByteArray) (xs : Int) (q : Nat) (yq : Ent) (hyq : st.A[q]? = some yq) (hqi : q ≠ i) (hx : st.A[i]? = some ⟨xk, xs, 0, (-1), (q : Int)⟩)
    (hb : smallI st.l0.bytes) (hs0 : smallI xs) (h : Sat k w (StoreR b st * R)) :
    Calls Try.prog 81 #[.pointer (some ⟨b, 0, none⟩), .int .i64 i] w fun e w' => e = .returned (.tuple #[]) ∧ Sat k w' (StoreR b (unlinkS st i) * R) := by
  obtain ⟨aa, ac, fa, fc, m, hs⟩ := store_open h
  obtain ⟨hb0, hb1⟩ := hb
  obtain ⟨hs1, hs2⟩ := hs0
  have hi := (List.getElem?_eq_some_iff.1 hx).1
  have hi' : (i : Int) < st.A.length := by omega
  have hi0 : (0 : Int) ≤ i := by omega
  have hq := (List.getElem?_eq_some_iff.1 hyq).1
  have HYQ := Lib.hid hyq
  clear hyq
  have hq' : (q : Int) < st.A.length := by omega
  have hq0 : (0 : Int) ≤ q := by omega
  have hq1 : ((q : Int) == -1) = false := by simp
  have HX : Hid (unlinkS st i = { (st.setLst 0 (unlL st.l0 ⟨xk, xs, 0, (-1), (q : Int)⟩)) with A := unlA st.A ⟨xk, xs, 0, (-1), (q : Int)⟩ }) := by
    unfold Hid unlinkS
    simp only [List.getD, hx, Option.getD_some]
    rfl
  have HW : Hid (wrap64 (st.l0.bytes - xs) = st.l0.bytes - xs) := by unfold Hid; exact IntWalk.wrap64_in _ ⟨by omega, by omega⟩
  have HB := Lib.hid hx
  clear hx h
  obtain ⟨g, rfl⟩ := ent_addr hs.drop HB.out
  obtain ⟨hgl, d0, d1, d2, d3, d4, hf⟩ := ent_cells hs.drop HB.out
  simp only [] at d0 d1 d2 d3 d4
  obtain ⟨hbg, hgb⟩ := own_ne hs
  have hfb := hs.frozen
  have hbl := hs.lt
  have c0 : w.cell? ⟨b, 0, none⟩ = some (.slice (some ⟨g, 0, none⟩) st.A.length ac) := hs.cell 0
  have c1 : w.cell? ⟨b, 3, none⟩ = some (.int .i64 (st.l0.first)) := hs.cell 3
  have c2 : w.cell? ⟨b, 4, none⟩ = some (.int .i64 (st.l0.last)) := hs.cell 4
  have c3 : w.cell? ⟨b, 5, none⟩ = some (.int .i64 (st.l0.bytes)) := hs.cell 5
  go_enter Try.func81, Try.ntmps81
  go_wp2_with fail
  go_quiet (fail)
  replace hs := hs.drewN nq
  generalize w.drewN nq = w1 at *
  clear hgl d0 d1 d2 d3 d4 hf hbg hgb hfb hbl c0 c1 c2 c3
  obtain ⟨hgl, d0, d1, d2, d3, d4, hf⟩ := ent_cells hs.drop HB.out
  simp only [] at d0 d1 d2 d3 d4
  obtain ⟨hbg, hgb⟩ := own_ne hs
  have hfb := hs.frozen
  have hbl := hs.lt
  have c0 : w1.cell? ⟨b, 0, none⟩ = some (.slice (some ⟨g, 0, none⟩) st.A.length ac) := hs.cell 0
  have c1 : w1.cell? ⟨b, 3, none⟩ = some (.int .i64 (st.l0.first)) := hs.cell 3
  have c2 : w1.cell? ⟨b, 4, none⟩ = some (.int .i64 (st.l0.last)) := hs.cell 4
  have c3 : w1.cell? ⟨b, 5, none⟩ = some (.int .i64 (st.l0.bytes)) := hs.cell 5
  go_wp2_with fail
  have hs2 := hs.set 3 (.int .i64 (q : Int))
  clear hgl d0 d1 d2 d3 d4 hf hbg hgb hfb hbl c0 c1 c2 c3
  generalize w1.setCell ⟨b, 3, none⟩ (.int .i64 (q : Int)) = w2 at hs2 ⊢
  obtain ⟨hgl, d0, d1, d2, d3, d4, hf⟩ := ent_cells hs2.drop HB.out
  simp only [] at d0 d1 d2 d3 d4
  obtain ⟨hbg, hgb⟩ := own_ne hs2
  have hfb := hs2.frozen
  have hbl := hs2.lt
  have c0 : w2.cell? ⟨b, 0, none⟩ = some (.slice (some ⟨g, 0, none⟩) st.A.length ac) := hs2.cell 0
  have c1 : w2.cell? ⟨b, 3, none⟩ = some (.int .i64 ((q : Int))) := hs2.cell 3
  have c2 : w2.cell? ⟨b, 4, none⟩ = some (.int .i64 (st.l0.last)) := hs2.cell 4
  have c3 : w2.cell? ⟨b, 5, none⟩ = some (.int .i64 (st.l0.bytes)) := hs2.cell 5
  obtain ⟨_, _, _, _, dq, _, _⟩ := ent_cells hs2.drop HYQ.out
  go_wp2_with fail
  go_region_held3 (fun w' => w'.cell? ⟨b, 0, none⟩ = some (.slice (some ⟨g, 0, none⟩) st.A.length ac) ∧ w'.cell? ⟨g, i * 5 + 3, none⟩ = some (.int .i64 (-1)) ∧ w'.cell? ⟨g, i * 5 + 4, none⟩ = some (.int .i64 (q : Int))) (first | exact ⟨c0, d3, d4⟩ | exact ⟨(cell_oth _ _ _ _ (by simp [hgb])).trans c0, (cell_oth _ _ _ _ (by simp <;> omega)).trans d3, (cell_oth _ _ _ _ (by simp <;> omega)).trans d4⟩ | fail) (fail)
  go_wp2_with fail
  have hs3 := (own_setN hs2.swap q (hq) (-1)).swap.drew
  clear hgl d0 d1 d2 d3 d4 hf hbg hgb hfb hbl c0 c1 c2 c3
  generalize (w2.setCell ⟨g, q * 5 + 3, none⟩ (.int .i64 (-1))).drew = w3 at hs3 ⊢
  have HB3 : Hid ((setN st.A q (-1))[i]? = some ⟨xk, xs, 0, (-1), (q : Int)⟩) := (setN_ne _ _ _ _ hqi).trans HB.out
  obtain ⟨hgl, d0, d1, d2, d3, d4, hf⟩ := ent_cells hs3.drop HB3.out
  simp only [] at d0 d1 d2 d3 d4
  obtain ⟨hbg, hgb⟩ := own_ne hs3
  have hfb := hs3.frozen
  have hbl := hs3.lt
  have c0 : w3.cell? ⟨b, 0, none⟩ = some (.slice (some ⟨g, 0, none⟩) st.A.length ac) := hs3.cell 0
  have c1 : w3.cell? ⟨b, 3, none⟩ = some (.int .i64 ((q : Int))) := hs3.cell 3
  have c2 : w3.cell? ⟨b, 4, none⟩ = some (.int .i64 (st.l0.last)) := hs3.cell 4
  have c3 : w3.cell? ⟨b, 5, none⟩ = some (.int .i64 (st.l0.bytes)) := hs3.cell 5
  go_region
  all_goals (go_wp2; go_end0)
  all_goals
    try rw [HW.out]
    exact ⟨rfl, store_close (hs3.set 5 _) (by rw [HX.out]; first | rfl | simp [cellsS, St.setLst, unlL]) (by rw [HX.out]; first | rfl | simp [unlA, setN_len, setO_len]) (by rw [HX.out]; first | rfl | simp [unlA]) (by rw [HX.out]; rfl) (by rw [HX.out]; rfl) (by rw [HX.out]; rfl)⟩

set_option maxRecDepth 100000 in
set_option maxHeartbeats 4000000 in
theorem unlink_010 (k : Env) (w : World) (R : Assn) (b : Nat) (st : St) (i : Nat) (xk : ByteArray) (xs : Int) (p : Nat) (yp : Ent) (hyp : st.A[p]? = some yp) (hpi : p ≠ i) (hx : st.A[i]? = some ⟨xk, xs, 0, (p : Int), (-1)⟩)
    (hb : smallI st.l0.bytes) (hs0 : smallI xs) (h : Sat k w (StoreR b st * R)) :
    Calls Try.prog 81 #[.pointer (some ⟨b, 0, none⟩), .int .i64 i] w fun e w' => e = .returned (.tuple #[]) ∧ Sat k w' (StoreR b (unlinkS st i) * R) := by
  obtain ⟨aa, ac, fa, fc, m, hs⟩ := store_open h
  obtain ⟨hb0, hb1⟩ := hb
  obtain ⟨hs1, hs2⟩ := hs0
  have hi := (List.getElem?_eq_some_iff.1 hx).1
  have hi' : (i : Int) < st.A.length := by omega
  have hi0 : (0 : Int) ≤ i := by omega
  have hp := (List.getElem?_eq_some_iff.1 hyp).1
  have HYP := Lib.hid hyp
  clear hyp
  have hp' : (p : Int) < st.A.length := by omega
  have hp0 : (0 : Int) ≤ p := by omega
  have hp1 : ((p : Int) == -1) = false := by simp
  have HX : Hid (unlinkS st i = { (st.setLst 0 (unlL st.l0 ⟨xk, xs, 0, (p : Int), (-1)⟩)) with A := unlA st.A ⟨xk, xs, 0, (p : Int), (-1)⟩ }) := by
    unfold Hid unlinkS
    simp only [List.getD, hx, Option.getD_some]
    rfl
  have HW : Hid (wrap64 (st.l0.bytes - xs) = st.l0.bytes - xs) := by unfold Hid; exact IntWalk.wrap64_in _ ⟨by omega, by omega⟩
  have HB := Lib.hid hx
  clear hx h
  obtain ⟨g, rfl⟩ := ent_addr hs.drop HB.out
  obtain ⟨hgl, d0, d1, d2, d3, d4, hf⟩ := ent_cells hs.drop HB.out
  simp only [] at d0 d1 d2 d3 d4
  obtain ⟨hbg, hgb⟩ := own_ne hs
  have hfb := hs.frozen
  have hbl := hs.lt
  have c0 : w.cell? ⟨b, 0, none⟩ = some (.slice (some ⟨g, 0, none⟩) st.A.length ac) := hs.cell 0
  have c1 : w.cell? ⟨b, 3, none⟩ = some (.int .i64 (st.l0.first)) := hs.cell 3
  have c2 : w.cell? ⟨b, 4, none⟩ = some (.int .i64 (st.l0.last)) := hs.cell 4
  have c3 : w.cell? ⟨b, 5, none⟩ = some (.int .i64 (st.l0.bytes)) := hs.cell 5
  go_enter Try.func81, Try.ntmps81
  go_wp2_with fail
  go_quiet (fail)
  replace hs := hs.drewN nq
  generalize w.drewN nq = w1 at *
  clear hgl d0 d1 d2 d3 d4 hf hbg hgb hfb hbl c0 c1 c2 c3
  obtain ⟨hgl, d0, d1, d2, d3, d4, hf⟩ := ent_cells hs.drop HB.out
  simp only [] at d0 d1 d2 d3 d4
  obtain ⟨hbg, hgb⟩ := own_ne hs
  have hfb := hs.frozen
  have hbl := hs.lt
  have c0 : w1.cell? ⟨b, 0, none⟩ = some (.slice (some ⟨g, 0, none⟩) st.A.length ac) := hs.cell 0
  have c1 : w1.cell? ⟨b, 3, none⟩ = some (.int .i64 (st.l0.first)) := hs.cell 3
  have c2 : w1.cell? ⟨b, 4, none⟩ = some (.int .i64 (st.l0.last)) := hs.cell 4
  have c3 : w1.cell? ⟨b, 5, none⟩ = some (.int .i64 (st.l0.bytes)) := hs.cell 5
  go_wp2_with fail
  obtain ⟨_, _, _, _, _, dp, _⟩ := ent_cells hs.drop HYP.out
  go_region_held3 (fun w' => w'.cell? ⟨b, 0, none⟩ = some (.slice (some ⟨g, 0, none⟩) st.A.length ac) ∧ w'.cell? ⟨g, i * 5 + 3, none⟩ = some (.int .i64 (p : Int)) ∧ w'.cell? ⟨g, i * 5 + 4, none⟩ = some (.int .i64 (-1))) (first | exact ⟨c0, d3, d4⟩ | exact ⟨(cell_oth _ _ _ _ (by simp [hgb])).trans c0, (cell_oth _ _ _ _ (by simp <;> omega)).trans d3, (cell_oth _ _ _ _ (by simp <;> omega)).trans d4⟩ | fail) (fail)
  go_wp2_with fail
  have hs2 := ((own_setO hs.swap p hp (-1)).swap.set 4 (.int .i64 (p : Int))).drew
  have HB2 : Hid ((setO st.A p (-1))[i]? = some ⟨xk, xs, 0, (p : Int), (-1)⟩) := (setO_ne _ _ _ _ hpi).trans HB.out
  clear hgl d0 d1 d2 d3 d4 hf hbg hgb hfb hbl c0 c1 c2 c3
  generalize ((w1.setCell ⟨g, p * 5 + 4, none⟩ (.int .i64 (-1))).setCell ⟨b, 4, none⟩ (.int .i64 (p : Int))).drew = w2 at hs2 ⊢
  obtain ⟨hgl, d0, d1, d2, d3, d4, hf⟩ := ent_cells hs2.drop HB2.out
  simp only [] at d0 d1 d2 d3 d4
  obtain ⟨hbg, hgb⟩ := own_ne hs2
  have hfb := hs2.frozen
  have hbl := hs2.lt
  have c0 : w2.cell? ⟨b, 0, none⟩ = some (.slice (some ⟨g, 0, none⟩) st.A.length ac) := hs2.cell 0
  have c1 : w2.cell? ⟨b, 3, none⟩ = some (.int .i64 (st.l0.first)) := hs2.cell 3
  have c2 : w2.cell? ⟨b, 4, none⟩ = some (.int .i64 ((p : Int))) := hs2.cell 4
  have c3 : w2.cell? ⟨b, 5, none⟩ = some (.int .i64 (st.l0.bytes)) := hs2.cell 5
  go_region
  all_goals (go_wp2; go_end0)
  all_goals
    try rw [HW.out]
    exact ⟨rfl, store_close (hs2.set 5 _) (by rw [HX.out]; first | rfl | simp [cellsS, St.setLst, unlL]) (by rw [HX.out]; first | rfl | simp [unlA, setN_len, setO_len]) (by rw [HX.out]; first | rfl | simp [unlA]) (by rw [HX.out]; rfl) (by rw [HX.out]; rfl) (by rw [HX.out]; rfl)⟩

set_option maxRecDepth 100000 in
set_option maxHeartbeats 4000000 in
theorem unlink_011 (k : Env) (w : World) (R : Assn) (b : Nat) (st : St) (i : Nat) (xk : ByteArray) (xs : Int) (p : Nat) (yp : Ent) (hyp : st.A[p]? = some yp) (hpi : p ≠ i) (q : Nat) (yq : Ent) (hyq : st.A[q]? = some yq) (hqi : q ≠ i) (hx : st.A[i]? = some ⟨xk, xs, 0, (p : Int), (q : Int)⟩)
    (hb : smallI st.l0.bytes) (hs0 : smallI xs) (h : Sat k w (StoreR b st * R)) :
    Calls Try.prog 81 #[.pointer (some ⟨b, 0, none⟩), .int .i64 i] w fun e w' => e = .returned (.tuple #[]) ∧ Sat k w' (StoreR b (unlinkS st i) * R) := by
  obtain ⟨aa, ac, fa, fc, m, hs⟩ := store_open h
  obtain ⟨hb0, hb1⟩ := hb
  obtain ⟨hs1, hs2⟩ := hs0
  have hi := (List.getElem?_eq_some_iff.1 hx).1
  have hi' : (i : Int) < st.A.length := by omega
  have hi0 : (0 : Int) ≤ i := by omega
  have hp := (List.getElem?_eq_some_iff.1 hyp).1
  have HYP := Lib.hid hyp
  clear hyp
  have hp' : (p : Int) < st.A.length := by omega
  have hp0 : (0 : Int) ≤ p := by omega
  have hp1 : ((p : Int) == -1) = false := by simp
  have hq := (List.getElem?_eq_some_iff.1 hyq).1
  have HYQ := Lib.hid hyq
  clear hyq
  have hq' : (q : Int) < st.A.length := by omega
  have hq0 : (0 : Int) ≤ q := by omega
  have hq1 : ((q : Int) == -1) = false := by simp
  have HX : Hid (unlinkS st i = { (st.setLst 0 (unlL st.l0 ⟨xk, xs, 0, (p : Int), (q : Int)⟩)) with A := unlA st.A ⟨xk, xs, 0, (p : Int), (q : Int)⟩ }) := by
    unfold Hid unlinkS
    simp only [List.getD, hx, Option.getD_some]
    rfl
  have HW : Hid (wrap64 (st.l0.bytes - xs) = st.l0.bytes - xs) := by unfold Hid; exact IntWalk.wrap64_in _ ⟨by omega, by omega⟩
  have HB := Lib.hid hx
  clear hx h
  obtain ⟨g, rfl⟩ := ent_addr hs.drop HB.out
  obtain ⟨hgl, d0, d1, d2, d3, d4, hf⟩ := ent_cells hs.drop HB.out
  simp only [] at d0 d1 d2 d3 d4
  obtain ⟨hbg, hgb⟩ := own_ne hs
  have hfb := hs.frozen
  have hbl := hs.lt
  have c0 : w.cell? ⟨b, 0, none⟩ = some (.slice (some ⟨g, 0, none⟩) st.A.length ac) := hs.cell 0
  have c1 : w.cell? ⟨b, 3, none⟩ = some (.int .i64 (st.l0.first)) := hs.cell 3
  have c2 : w.cell? ⟨b, 4, none⟩ = some (.int .i64 (st.l0.last)) := hs.cell 4
  have c3 : w.cell? ⟨b, 5, none⟩ = some (.int .i64 (st.l0.bytes)) := hs.cell 5
  go_enter Try.func81, Try.ntmps81
  go_wp2_with fail
  go_quiet (fail)
  replace hs := hs.drewN nq
  generalize w.drewN nq = w1 at *
  clear hgl d0 d1 d2 d3 d4 hf hbg hgb hfb hbl c0 c1 c2 c3
  obtain ⟨hgl, d0, d1, d2, d3, d4, hf⟩ := ent_cells hs.drop HB.out
  simp only [] at d0 d1 d2 d3 d4
  obtain ⟨hbg, hgb⟩ := own_ne hs
  have hfb := hs.frozen
  have hbl := hs.lt
  have c0 : w1.cell? ⟨b, 0, none⟩ = some (.slice (some ⟨g, 0, none⟩) st.A.length ac) := hs.cell 0
  have c1 : w1.cell? ⟨b, 3, none⟩ = some (.int .i64 (st.l0.first)) := hs.cell 3
  have c2 : w1.cell? ⟨b, 4, none⟩ = some (.int .i64 (st.l0.last)) := hs.cell 4
  have c3 : w1.cell? ⟨b, 5, none⟩ = some (.int .i64 (st.l0.bytes)) := hs.cell 5
  go_wp2_with fail
  obtain ⟨_, _, _, _, _, dp, _⟩ := ent_cells hs.drop HYP.out
  go_region_held3 (fun w' => w'.cell? ⟨b, 0, none⟩ = some (.slice (some ⟨g, 0, none⟩) st.A.length ac) ∧ w'.cell? ⟨g, i * 5 + 3, none⟩ = some (.int .i64 (p : Int)) ∧ w'.cell? ⟨g, i * 5 + 4, none⟩ = some (.int .i64 (q : Int))) (first | exact ⟨c0, d3, d4⟩ | exact ⟨(cell_oth _ _ _ _ (by simp [hgb])).trans c0, (cell_oth _ _ _ _ (by simp <;> omega)).trans d3, (cell_oth _ _ _ _ (by simp <;> omega)).trans d4⟩ | fail) (fail)
  go_wp2_with fail
  have hs2 := (own_setO hs.swap p hp (q : Int)).swap.drew
  have HB2 : Hid ((setO st.A p (q : Int))[i]? = some ⟨xk, xs, 0, (p : Int), (q : Int)⟩) := (setO_ne _ _ _ _ hpi).trans HB.out
  clear hgl d0 d1 d2 d3 d4 hf hbg hgb hfb hbl c0 c1 c2 c3
  generalize (w1.setCell ⟨g, p * 5 + 4, none⟩ (.int .i64 (q : Int))).drew = w2 at hs2 ⊢
  obtain ⟨hgl, d0, d1, d2, d3, d4, hf⟩ := ent_cells hs2.drop HB2.out
  simp only [] at d0 d1 d2 d3 d4
  obtain ⟨hbg, hgb⟩ := own_ne hs2
  have hfb := hs2.frozen
  have hbl := hs2.lt
  have c0 : w2.cell? ⟨b, 0, none⟩ = some (.slice (some ⟨g, 0, none⟩) st.A.length ac) := hs2.cell 0
  have c1 : w2.cell? ⟨b, 3, none⟩ = some (.int .i64 (st.l0.first)) := hs2.cell 3
  have c2 : w2.cell? ⟨b, 4, none⟩ = some (.int .i64 (st.l0.last)) := hs2.cell 4
  have c3 : w2.cell? ⟨b, 5, none⟩ = some (.int .i64 (st.l0.bytes)) := hs2.cell 5
  obtain ⟨yq', HQ'⟩ : ∃ y, Hid ((setO st.A p (q : Int))[q]? = some y) := ⟨(setO st.A p (q : Int))[q]'(by rw [setO_len]; exact hq), by unfold Hid; rw [List.getElem?_eq_getElem]⟩
  obtain ⟨_, _, _, _, dq, _, _⟩ := ent_cells hs2.drop HQ'.out
  go_region_held3 (fun w' => w'.cell? ⟨b, 0, none⟩ = some (.slice (some ⟨g, 0, none⟩) st.A.length ac) ∧ w'.cell? ⟨g, i * 5 + 3, none⟩ = some (.int .i64 (p : Int)) ∧ w'.cell? ⟨g, i * 5 + 4, none⟩ = some (.int .i64 (q : Int))) (first | exact ⟨c0, d3, d4⟩ | exact ⟨(cell_oth _ _ _ _ (by simp [hgb])).trans c0, (cell_oth _ _ _ _ (by simp <;> omega)).trans d3, (cell_oth _ _ _ _ (by simp <;> omega)).trans d4⟩ | fail) (fail)
  go_wp2_with fail
  have hs3 := (own_setN hs2.swap q (by rw [setO_len]; exact hq) (p : Int)).swap.drew
  clear hgl d0 d1 d2 d3 d4 hf hbg hgb hfb hbl c0 c1 c2 c3
  generalize (w2.setCell ⟨g, q * 5 + 3, none⟩ (.int .i64 (p : Int))).drew = w3 at hs3 ⊢
  have HB3 : Hid ((setN (setO st.A p (q : Int)) q (p : Int))[i]? = some ⟨xk, xs, 0, (p : Int), (q : Int)⟩) := (setN_ne _ _ _ _ hqi).trans HB2.out
  obtain ⟨hgl, d0, d1, d2, d3, d4, hf⟩ := ent_cells hs3.drop HB3.out
  simp only [] at d0 d1 d2 d3 d4
  obtain ⟨hbg, hgb⟩ := own_ne hs3
  have hfb := hs3.frozen
  have hbl := hs3.lt
  have c0 : w3.cell? ⟨b, 0, none⟩ = some (.slice (some ⟨g, 0, none⟩) st.A.length ac) := hs3.cell 0
  have c1 : w3.cell? ⟨b, 3, none⟩ = some (.int .i64 (st.l0.first)) := hs3.cell 3
  have c2 : w3.cell? ⟨b, 4, none⟩ = some (.int .i64 (st.l0.last)) := hs3.cell 4
  have c3 : w3.cell? ⟨b, 5, none⟩ = some (.int .i64 (st.l0.bytes)) := hs3.cell 5
  go_region
  all_goals (go_wp2; go_end0)
  all_goals
    try rw [HW.out]
    exact ⟨rfl, store_close (hs3.set 5 _) (by rw [HX.out]; first | rfl | simp [cellsS, St.setLst, unlL]) (by rw [HX.out]; first | rfl | simp [unlA, setN_len, setO_len]) (by rw [HX.out]; first | rfl | simp [unlA]) (by rw [HX.out]; rfl) (by rw [HX.out]; rfl) (by rw [HX.out]; rfl)⟩

set_option maxRecDepth 100000 in
set_option maxHeartbeats 4000000 in
theorem unlink_100 (k : Env) (w : World) (R : Assn) (b : Nat) (st : St) (i : Nat) (xk : ByteArray) (xs : Int) (hx : st.A[i]? = some ⟨xk, xs, 1, (-1), (-1)⟩)
    (hb : smallI st.l1.bytes) (hs0 : smallI xs) (h : Sat k w (StoreR b st * R)) :
    Calls Try.prog 81 #[.pointer (some ⟨b, 0, none⟩), .int .i64 i] w fun e w' => e = .returned (.tuple #[]) ∧ Sat k w' (StoreR b (unlinkS st i) * R) := by
  obtain ⟨aa, ac, fa, fc, m, hs⟩ := store_open h
  obtain ⟨hb0, hb1⟩ := hb
  obtain ⟨hs1, hs2⟩ := hs0
  have hi := (List.getElem?_eq_some_iff.1 hx).1
  have hi' : (i : Int) < st.A.length := by omega
  have hi0 : (0 : Int) ≤ i := by omega
  have HX : Hid (unlinkS st i = { (st.setLst 1 (unlL st.l1 ⟨xk, xs, 1, (-1), (-1)⟩)) with A := unlA st.A ⟨xk, xs, 1, (-1), (-1)⟩ }) := by
    unfold Hid unlinkS
    simp only [List.getD, hx, Option.getD_some]
    rfl
  have HW : Hid (wrap64 (st.l1.bytes - xs) = st.l1.bytes - xs) := by unfold Hid; exact IntWalk.wrap64_in _ ⟨by omega, by omega⟩
  have HB := Lib.hid hx
  clear hx h
  obtain ⟨g, rfl⟩ := ent_addr hs.drop HB.out
  obtain ⟨hgl, d0, d1, d2, d3, d4, hf⟩ := ent_cells hs.drop HB.out
  simp only [] at d0 d1 d2 d3 d4
  obtain ⟨hbg, hgb⟩ := own_ne hs
  have hfb := hs.frozen
  have hbl := hs.lt
  have c0 : w.cell? ⟨b, 0, none⟩ = some (.slice (some ⟨g, 0, none⟩) st.A.length ac) := hs.cell 0
  have c1 : w.cell? ⟨b, 6, none⟩ = some (.int .i64 (st.l1.first)) := hs.cell 6
  have c2 : w.cell? ⟨b, 7, none⟩ = some (.int .i64 (st.l1.last)) := hs.cell 7
  have c3 : w.cell? ⟨b, 8, none⟩ = some (.int .i64 (st.l1.bytes)) := hs.cell 8
  go_enter Try.func81, Try.ntmps81
  go_wp2_with fail
  go_quiet (fail)
  replace hs := hs.drewN nq
  generalize w.drewN nq = w1 at *
  clear hgl d0 d1 d2 d3 d4 hf hbg hgb hfb hbl c0 c1 c2 c3
  obtain ⟨hgl, d0, d1, d2, d3, d4, hf⟩ := ent_cells hs.drop HB.out
  simp only [] at d0 d1 d2 d3 d4
  obtain ⟨hbg, hgb⟩ := own_ne hs
  have hfb := hs.frozen
  have hbl := hs.lt
  have c0 : w1.cell? ⟨b, 0, none⟩ = some (.slice (some ⟨g, 0, none⟩) st.A.length ac) := hs.cell 0
  have c1 : w1.cell? ⟨b, 6, none⟩ = some (.int .i64 (st.l1.first)) := hs.cell 6
  have c2 : w1.cell? ⟨b, 7, none⟩ = some (.int .i64 (st.l1.last)) := hs.cell 7
  have c3 : w1.cell? ⟨b, 8, none⟩ = some (.int .i64 (st.l1.bytes)) := hs.cell 8
  go_wp2_with fail
  have hs2 := (hs.set 6 (.int .i64 (-1))).set 7 (.int .i64 (-1))
  clear hgl d0 d1 d2 d3 d4 hf hbg hgb hfb hbl c0 c1 c2 c3
  generalize (w1.setCell ⟨b, 6, none⟩ (.int .i64 (-1))).setCell ⟨b, 7, none⟩ (.int .i64 (-1)) = w2 at hs2 ⊢
  obtain ⟨hgl, d0, d1, d2, d3, d4, hf⟩ := ent_cells hs2.drop HB.out
  simp only [] at d0 d1 d2 d3 d4
  obtain ⟨hbg, hgb⟩ := own_ne hs2
  have hfb := hs2.frozen
  have hbl := hs2.lt
  have c0 : w2.cell? ⟨b, 0, none⟩ = some (.slice (some ⟨g, 0, none⟩) st.A.length ac) := hs2.cell 0
  have c1 : w2.cell? ⟨b, 6, none⟩ = some (.int .i64 ((-1))) := hs2.cell 6
  have c2 : w2.cell? ⟨b, 7, none⟩ = some (.int .i64 ((-1))) := hs2.cell 7
  have c3 : w2.cell? ⟨b, 8, none⟩ = some (.int .i64 (st.l1.bytes)) := hs2.cell 8
  go_region
  all_goals (go_wp2; go_end0)
  all_goals
    try rw [HW.out]
    exact ⟨rfl, store_close (hs2.set 8 _) (by rw [HX.out]; first | rfl | simp [cellsS, St.setLst, unlL]) (by rw [HX.out]; first | rfl | simp [unlA, setN_len, setO_len]) (by rw [HX.out]; first | rfl | simp [unlA]) (by rw [HX.out]; rfl) (by rw [HX.out]; rfl) (by rw [HX.out]; rfl)⟩

set_option maxRecDepth 100000 in
set_option maxHeartbeats 4000000 in
theorem unlink_101 (k : Env) (w : World) (R : Assn) (b : Nat) (st : St) (i : Nat) (xk : ByteArray) (xs : Int) (q : Nat) (yq : Ent) (hyq : st.A[q]? = some yq) (hqi : q ≠ i) (hx : st.A[i]? = some ⟨xk, xs, 1, (-1), (q : Int)⟩)
    (hb : smallI st.l1.bytes) (hs0 : smallI xs) (h : Sat k w (StoreR b st * R)) :
    Calls Try.prog 81 #[.pointer (some ⟨b, 0, none⟩), .int .i64 i] w fun e w' => e = .returned (.tuple #[]) ∧ Sat k w' (StoreR b (unlinkS st i) * R) := by
  obtain ⟨aa, ac, fa, fc, m, hs⟩ := store_open h
  obtain ⟨hb0, hb1⟩ := hb
  obtain ⟨hs1, hs2⟩ := hs0
  have hi := (List.getElem?_eq_some_iff.1 hx).1
  have hi' : (i : Int) < st.A.length := by omega
  have hi0 : (0 : Int) ≤ i := by omega
  have hq := (List.getElem?_eq_some_iff.1 hyq).1
  have HYQ := Lib.hid hyq
  clear hyq
  have hq' : (q : Int) < st.A.length := by omega
  have hq0 : (0 : Int) ≤ q := by omega
  have hq1 : ((q : Int) == -1) = false := by simp
  have HX : Hid (unlinkS st i = { (st.setLst 1 (unlL st.l1 ⟨xk, xs, 1, (-1), (q : Int)⟩)) with A := unlA st.A ⟨xk, xs, 1, (-1), (q : Int)⟩ }) := by
    unfold Hid unlinkS
    simp only [List.getD, hx, Option.getD_some]
    rfl
  have HW : Hid (wrap64 (st.l1.bytes - xs) = st.l1.bytes - xs) := by unfold Hid; exact IntWalk.wrap64_in _ ⟨by omega, by omega⟩
  have HB := Lib.hid hx
  clear hx h
  obtain ⟨g, rfl⟩ := ent_addr hs.drop HB.out
  obtain ⟨hgl, d0, d1, d2, d3, d4, hf⟩ := ent_cells hs.drop HB.out
  simp only [] at d0 d1 d2 d3 d4
  obtain ⟨hbg, hgb⟩ := own_ne hs
  have hfb := hs.frozen
  have hbl := hs.lt
  have c0 : w.cell? ⟨b, 0, none⟩ = some (.slice (some ⟨g, 0, none⟩) st.A.length ac) := hs.cell 0
  have c1 : w.cell? ⟨b, 6, none⟩ = some (.int .i64 (st.l1.first)) := hs.cell 6
  have c2 : w.cell? ⟨b, 7, none⟩ = some (.int .i64 (st.l1.last)) := hs.cell 7
  have c3 : w.cell? ⟨b, 8, none⟩ = some (.int .i64 (st.l1.bytes)) := hs.cell 8
  go_enter Try.func81, Try.ntmps81
  go_wp2_with fail
  go_quiet (fail)
  replace hs := hs.drewN nq
  generalize w.drewN nq = w1 at *
  clear hgl d0 d1 d2 d3 d4 hf hbg hgb hfb hbl c0 c1 c2 c3
  obtain ⟨hgl, d0, d1, d2, d3, d4, hf⟩ := ent_cells hs.drop HB.out
  simp only [] at d0 d1 d2 d3 d4
  obtain ⟨hbg, hgb⟩ := own_ne hs
  have hfb := hs.frozen
  have hbl := hs.lt
  have c0 : w1.cell? ⟨b, 0, none⟩ = some (.slice (some ⟨g, 0, none⟩) st.A.length ac) := hs.cell 0
  have c1 : w1.cell? ⟨b, 6, none⟩ = some (.int .i64 (st.l1.first)) := hs.cell 6
  have c2 : w1.cell? ⟨b, 7, none⟩ = some (.int .i64 (st.l1.last)) := hs.cell 7
  have c3 : w1.cell? ⟨b, 8, none⟩ = some (.int .i64 (st.l1.bytes)) := hs.cell 8
  go_wp2_with fail
  have hs2 := hs.set 6 (.int .i64 (q : Int))
  clear hgl d0 d1 d2 d3 d4 hf hbg hgb hfb hbl c0 c1 c2 c3
  generalize w1.setCell ⟨b, 6, none⟩ (.int .i64 (q : Int)) = w2 at hs2 ⊢
  obtain ⟨hgl, d0, d1, d2, d3, d4, hf⟩ := ent_cells hs2.drop HB.out
  simp only [] at d0 d1 d2 d3 d4
  obtain ⟨hbg, hgb⟩ := own_ne hs2
  have hfb := hs2.frozen
  have hbl := hs2.lt
  have c0 : w2.cell? ⟨b, 0, none⟩ = some (.slice (some ⟨g, 0, none⟩) st.A.length ac) := hs2.cell 0
  have c1 : w2.cell? ⟨b, 6, none⟩ = some (.int .i64 ((q : Int))) := hs2.cell 6
  have c2 : w2.cell? ⟨b, 7, none⟩ = some (.int .i64 (st.l1.last)) := hs2.cell 7
  have c3 : w2.cell? ⟨b, 8, none⟩ = some (.int .i64 (st.l1.bytes)) := hs2.cell 8
  obtain ⟨_, _, _, _, dq, _, _⟩ := ent_cells hs2.drop HYQ.out
  go_wp2_with fail
  go_region_held3 (fun w' => w'.cell? ⟨b, 0, none⟩ = some (.slice (some ⟨g, 0, none⟩) st.A.length ac) ∧ w'.cell? ⟨g, i * 5 + 3, none⟩ = some (.int .i64 (-1)) ∧ w'.cell? ⟨g, i * 5 + 4, none⟩ = some (.int .i64 (q : Int))) (first | exact ⟨c0, d3, d4⟩ | exact ⟨(cell_oth _ _ _ _ (by simp [hgb])).trans c0, (cell_oth _ _ _ _ (by simp <;> omega)).trans d3, (cell_oth _ _ _ _ (by simp <;> omega)).trans d4⟩ | fail) (fail)
  go_wp2_with fail
  have hs3 := (own_setN hs2.swap q (hq) (-1)).swap.drew
  clear hgl d0 d1 d2 d3 d4 hf hbg hgb hfb hbl c0 c1 c2 c3
  generalize (w2.setCell ⟨g, q * 5 + 3, none⟩ (.int .i64 (-1))).drew = w3 at hs3 ⊢
  have HB3 : Hid ((setN st.A q (-1))[i]? = some ⟨xk, xs, 1, (-1), (q : Int)⟩) := (setN_ne _ _ _ _ hqi).trans HB.out
  obtain ⟨hgl, d0, d1, d2, d3, d4, hf⟩ := ent_cells hs3.drop HB3.out
  simp only [] at d0 d1 d2 d3 d4
  obtain ⟨hbg, hgb⟩ := own_ne hs3
  have hfb := hs3.frozen
  have hbl := hs3.lt
  have c0 : w3.cell? ⟨b, 0, none⟩ = some (.slice (some ⟨g, 0, none⟩) st.A.length ac) := hs3.cell 0
  have c1 : w3.cell? ⟨b, 6, none⟩ = some (.int .i64 ((q : Int))) := hs3.cell 6
  have c2 : w3.cell? ⟨b, 7, none⟩ = some (.int .i64 (st.l1.last)) := hs3.cell 7
  have c3 : w3.cell? ⟨b, 8, none⟩ = some (.int .i64 (st.l1.bytes)) := hs3.cell 8
  go_region
  all_goals (go_wp2; go_end0)
  all_goals
    try rw [HW.out]
    exact ⟨rfl, store_close (hs3.set 8 _) (by rw [HX.out]; first | rfl | simp [cellsS, St.setLst, unlL]) (by rw [HX.out]; first | rfl | simp [unlA, setN_len, setO_len]) (by rw [HX.out]; first | rfl | simp [unlA]) (by rw [HX.out]; rfl) (by rw [HX.out]; rfl) (by rw [HX.out]; rfl)⟩

set_option maxRecDepth 100000 in
set_option maxHeartbeats 4000000 in
theorem unlink_110 (k : Env) (w : World) (R : Assn) (b : Nat) (st : St) (i : Nat) (xk : ByteArray) (xs : Int) (p : Nat) (yp : Ent) (hyp : st.A[p]? = some yp) (hpi : p ≠ i) (hx : st.A[i]? = some ⟨xk, xs, 1, (p : Int), (-1)⟩)
    (hb : smallI st.l1.bytes) (hs0 : smallI xs) (h : Sat k w (StoreR b st * R)) :
    Calls Try.prog 81 #[.pointer (some ⟨b, 0, none⟩), .int .i64 i] w fun e w' => e = .returned (.tuple #[]) ∧ Sat k w' (StoreR b (unlinkS st i) * R) := by
  obtain ⟨aa, ac, fa, fc, m, hs⟩ := store_open h
  obtain ⟨hb0, hb1⟩ := hb
  obtain ⟨hs1, hs2⟩ := hs0
  have hi := (List.getElem?_eq_some_iff.1 hx).1
  have hi' : (i : Int) < st.A.length := by omega
  have hi0 : (0 : Int) ≤ i := by omega
  have hp := (List.getElem?_eq_some_iff.1 hyp).1
  have HYP := Lib.hid hyp
  clear hyp
  have hp' : (p : Int) < st.A.length := by omega
  have hp0 : (0 : Int) ≤ p := by omega
  have hp1 : ((p : Int) == -1) = false := by simp
  have HX : Hid (unlinkS st i = { (st.setLst 1 (unlL st.l1 ⟨xk, xs, 1, (p : Int), (-1)⟩)) with A := unlA st.A ⟨xk, xs, 1, (p : Int), (-1)⟩ }) := by
    unfold Hid unlinkS
    simp only [List.getD, hx, Option.getD_some]
    rfl
  have HW : Hid (wrap64 (st.l1.bytes - xs) = st.l1.bytes - xs) := by unfold Hid; exact IntWalk.wrap64_in _ ⟨by omega, by omega⟩
  have HB := Lib.hid hx
  clear hx h
  obtain ⟨g, rfl⟩ := ent_addr hs.drop HB.out
  obtain ⟨hgl, d0, d1, d2, d3, d4, hf⟩ := ent_cells hs.drop HB.out
  simp only [] at d0 d1 d2 d3 d4
  obtain ⟨hbg, hgb⟩ := own_ne hs
  have hfb := hs.frozen
  have hbl := hs.lt
  have c0 : w.cell? ⟨b, 0, none⟩ = some (.slice (some ⟨g, 0, none⟩) st.A.length ac) := hs.cell 0
  have c1 : w.cell? ⟨b, 6, none⟩ = some (.int .i64 (st.l1.first)) := hs.cell 6
  have c2 : w.cell? ⟨b, 7, none⟩ = some (.int .i64 (st.l1.last)) := hs.cell 7
  have c3 : w.cell? ⟨b, 8, none⟩ = some (.int .i64 (st.l1.bytes)) := hs.cell 8
  go_enter Try.func81, Try.ntmps81
  go_wp2_with fail
  go_quiet (fail)
  replace hs := hs.drewN nq
  generalize w.drewN nq = w1 at *
  clear hgl d0 d1 d2 d3 d4 hf hbg hgb hfb hbl c0 c1 c2 c3
  obtain ⟨hgl, d0, d1, d2, d3, d4, hf⟩ := ent_cells hs.drop HB.out
  simp only [] at d0 d1 d2 d3 d4
  obtain ⟨hbg, hgb⟩ := own_ne hs
  have hfb := hs.frozen
  have hbl := hs.lt
  have c0 : w1.cell? ⟨b, 0, none⟩ = some (.slice (some ⟨g, 0, none⟩) st.A.length ac) := hs.cell 0
  have c1 : w1.cell? ⟨b, 6, none⟩ = some (.int .i64 (st.l1.first)) := hs.cell 6
  have c2 : w1.cell? ⟨b, 7, none⟩ = some (.int .i64 (st.l1.last)) := hs.cell 7
  have c3 : w1.cell? ⟨b, 8, none⟩ = some (.int .i64 (st.l1.bytes)) := hs.cell 8
  go_wp2_with fail
  obtain ⟨_, _, _, _, _, dp, _⟩ := ent_cells hs.drop HYP.out
  go_region_held3 (fun w' => w'.cell? ⟨b, 0, none⟩ = some (.slice (some ⟨g, 0, none⟩) st.A.length ac) ∧ w'.cell? ⟨g, i * 5 + 3, none⟩ = some (.int .i64 (p : Int)) ∧ w'.cell? ⟨g, i * 5 + 4, none⟩ = some (.int .i64 (-1))) (first | exact ⟨c0, d3, d4⟩ | exact ⟨(cell_oth _ _ _ _ (by simp [hgb])).trans c0, (cell_oth _ _ _ _ (by simp <;> omega)).trans d3, (cell_oth _ _ _ _ (by simp <;> omega)).trans d4⟩ | fail) (fail)
  go_wp2_with fail
  have hs2 := ((own_setO hs.swap p hp (-1)).swap.set 7 (.int .i64 (p : Int))).drew
  have HB2 : Hid ((setO st.A p (-1))[i]? = some ⟨xk, xs, 1, (p : Int), (-1)⟩) := (setO_ne _ _ _ _ hpi).trans HB.out
  clear hgl d0 d1 d2 d3 d4 hf hbg hgb hfb hbl c0 c1 c2 c3
  generalize ((w1.setCell ⟨g, p * 5 + 4, none⟩ (.int .i64 (-1))).setCell ⟨b, 7, none⟩ (.int .i64 (p : Int))).drew = w2 at hs2 ⊢
  obtain ⟨hgl, d0, d1, d2, d3, d4, hf⟩ := ent_cells hs2.drop HB2.out
  simp only [] at d0 d1 d2 d3 d4
  obtain ⟨hbg, hgb⟩ := own_ne hs2
  have hfb := hs2.frozen
  have hbl := hs2.lt
  have c0 : w2.cell? ⟨b, 0, none⟩ = some (.slice (some ⟨g, 0, none⟩) st.A.length ac) := hs2.cell 0
  have c1 : w2.cell? ⟨b, 6, none⟩ = some (.int .i64 (st.l1.first)) := hs2.cell 6
  have c2 : w2.cell? ⟨b, 7, none⟩ = some (.int .i64 ((p : Int))) := hs2.cell 7
  have c3 : w2.cell? ⟨b, 8, none⟩ = some (.int .i64 (st.l1.bytes)) := hs2.cell 8
  go_region
  all_goals (go_wp2; go_end0)
  all_goals
    try rw [HW.out]
    exact ⟨rfl, store_close (hs2.set 8 _) (by rw [HX.out]; first | rfl | simp [cellsS, St.setLst, unlL]) (by rw [HX.out]; first | rfl | simp [unlA, setN_len, setO_len]) (by rw [HX.out]; first | rfl | simp [unlA]) (by rw [HX.out]; rfl) (by rw [HX.out]; rfl) (by rw [HX.out]; rfl)⟩

set_option maxRecDepth 100000 in
set_option maxHeartbeats 4000000 in
theorem unlink_111 (k : Env) (w : World) (R : Assn) (b : Nat) (st : St) (i : Nat) (xk : ByteArray) (xs : Int) (p : Nat) (yp : Ent) (hyp : st.A[p]? = some yp) (hpi : p ≠ i) (q : Nat) (yq : Ent) (hyq : st.A[q]? = some yq) (hqi : q ≠ i) (hx : st.A[i]? = some ⟨xk, xs, 1, (p : Int), (q : Int)⟩)
    (hb : smallI st.l1.bytes) (hs0 : smallI xs) (h : Sat k w (StoreR b st * R)) :
    Calls Try.prog 81 #[.pointer (some ⟨b, 0, none⟩), .int .i64 i] w fun e w' => e = .returned (.tuple #[]) ∧ Sat k w' (StoreR b (unlinkS st i) * R) := by
  obtain ⟨aa, ac, fa, fc, m, hs⟩ := store_open h
  obtain ⟨hb0, hb1⟩ := hb
  obtain ⟨hs1, hs2⟩ := hs0
  have hi := (List.getElem?_eq_some_iff.1 hx).1
  have hi' : (i : Int) < st.A.length := by omega
  have hi0 : (0 : Int) ≤ i := by omega
  have hp := (List.getElem?_eq_some_iff.1 hyp).1
  have HYP := Lib.hid hyp
  clear hyp
  have hp' : (p : Int) < st.A.length := by omega
  have hp0 : (0 : Int) ≤ p := by omega
  have hp1 : ((p : Int) == -1) = false := by simp
  have hq := (List.getElem?_eq_some_iff.1 hyq).1
  have HYQ := Lib.hid hyq
  clear hyq
  have hq' : (q : Int) < st.A.length := by omega
  have hq0 : (0 : Int) ≤ q := by omega
  have hq1 : ((q : Int) == -1) = false := by simp
  have HX : Hid (unlinkS st i = { (st.setLst 1 (unlL st.l1 ⟨xk, xs, 1, (p : Int), (q : Int)⟩)) with A := unlA st.A ⟨xk, xs, 1, (p : Int), (q : Int)⟩ }) := by
    unfold Hid unlinkS
    simp only [List.getD, hx, Option.getD_some]
    rfl
  have HW : Hid (wrap64 (st.l1.bytes - xs) = st.l1.bytes - xs) := by unfold Hid; exact IntWalk.wrap64_in _ ⟨by omega, by omega⟩
  have HB := Lib.hid hx
  clear hx h
  obtain ⟨g, rfl⟩ := ent_addr hs.drop HB.out
  obtain ⟨hgl, d0, d1, d2, d3, d4, hf⟩ := ent_cells hs.drop HB.out
  simp only [] at d0 d1 d2 d3 d4
  obtain ⟨hbg, hgb⟩ := own_ne hs
  have hfb := hs.frozen
  have hbl := hs.lt
  have c0 : w.cell? ⟨b, 0, none⟩ = some (.slice (some ⟨g, 0, none⟩) st.A.length ac) := hs.cell 0
  have c1 : w.cell? ⟨b, 6, none⟩ = some (.int .i64 (st.l1.first)) := hs.cell 6
  have c2 : w.cell? ⟨b, 7, none⟩ = some (.int .i64 (st.l1.last)) := hs.cell 7
  have c3 : w.cell? ⟨b, 8, none⟩ = some (.int .i64 (st.l1.bytes)) := hs.cell 8
  go_enter Try.func81, Try.ntmps81
  go_wp2_with fail
  go_quiet (fail)
  replace hs := hs.drewN nq
  generalize w.drewN nq = w1 at *
  clear hgl d0 d1 d2 d3 d4 hf hbg hgb hfb hbl c0 c1 c2 c3
  obtain ⟨hgl, d0, d1, d2, d3, d4, hf⟩ := ent_cells hs.drop HB.out
  simp only [] at d0 d1 d2 d3 d4
  obtain ⟨hbg, hgb⟩ := own_ne hs
  have hfb := hs.frozen
  have hbl := hs.lt
  have c0 : w1.cell? ⟨b, 0, none⟩ = some (.slice (some ⟨g, 0, none⟩) st.A.length ac) := hs.cell 0
  have c1 : w1.cell? ⟨b, 6, none⟩ = some (.int .i64 (st.l1.first)) := hs.cell 6
  have c2 : w1.cell? ⟨b, 7, none⟩ = some (.int .i64 (st.l1.last)) := hs.cell 7
  have c3 : w1.cell? ⟨b, 8, none⟩ = some (.int .i64 (st.l1.bytes)) := hs.cell 8
  go_wp2_with fail
  obtain ⟨_, _, _, _, _, dp, _⟩ := ent_cells hs.drop HYP.out
  go_region_held3 (fun w' => w'.cell? ⟨b, 0, none⟩ = some (.slice (some ⟨g, 0, none⟩) st.A.length ac) ∧ w'.cell? ⟨g, i * 5 + 3, none⟩ = some (.int .i64 (p : Int)) ∧ w'.cell? ⟨g, i * 5 + 4, none⟩ = some (.int .i64 (q : Int))) (first | exact ⟨c0, d3, d4⟩ | exact ⟨(cell_oth _ _ _ _ (by simp [hgb])).trans c0, (cell_oth _ _ _ _ (by simp <;> omega)).trans d3, (cell_oth _ _ _ _ (by simp <;> omega)).trans d4⟩ | fail) (fail)
  go_wp2_with fail
  have hs2 := (own_setO hs.swap p hp (q : Int)).swap.drew
  have HB2 : Hid ((setO st.A p (q : Int))[i]? = some ⟨xk, xs, 1, (p : Int), (q : Int)⟩) := (setO_ne _ _ _ _ hpi).trans HB.out
  clear hgl d0 d1 d2 d3 d4 hf hbg hgb hfb hbl c0 c1 c2 c3
  generalize (w1.setCell ⟨g, p * 5 + 4, none⟩ (.int .i64 (q : Int))).drew = w2 at hs2 ⊢
  obtain ⟨hgl, d0, d1, d2, d3, d4, hf⟩ := ent_cells hs2.drop HB2.out
  simp only [] at d0 d1 d2 d3 d4
  obtain ⟨hbg, hgb⟩ := own_ne hs2
  have hfb := hs2.frozen
  have hbl := hs2.lt
  have c0 : w2.cell? ⟨b, 0, none⟩ = some (.slice (some ⟨g, 0, none⟩) st.A.length ac) := hs2.cell 0
  have c1 : w2.cell? ⟨b, 6, none⟩ = some (.int .i64 (st.l1.first)) := hs2.cell 6
  have c2 : w2.cell? ⟨b, 7, none⟩ = some (.int .i64 (st.l1.last)) := hs2.cell 7
  have c3 : w2.cell? ⟨b, 8, none⟩ = some (.int .i64 (st.l1.bytes)) := hs2.cell 8
  obtain ⟨yq', HQ'⟩ : ∃ y, Hid ((setO st.A p (q : Int))[q]? = some y) := ⟨(setO st.A p (q : Int))[q]'(by rw [setO_len]; exact hq), by unfold Hid; rw [List.getElem?_eq_getElem]⟩
  obtain ⟨_, _, _, _, dq, _, _⟩ := ent_cells hs2.drop HQ'.out
  go_region_held3 (fun w' => w'.cell? ⟨b, 0, none⟩ = some (.slice (some ⟨g, 0, none⟩) st.A.length ac) ∧ w'.cell? ⟨g, i * 5 + 3, none⟩ = some (.int .i64 (p : Int)) ∧ w'.cell? ⟨g, i * 5 + 4, none⟩ = some (.int .i64 (q : Int))) (first | exact ⟨c0, d3, d4⟩ | exact ⟨(cell_oth _ _ _ _ (by simp [hgb])).trans c0, (cell_oth _ _ _ _ (by simp <;> omega)).trans d3, (cell_oth _ _ _ _ (by simp <;> omega)).trans d4⟩ | fail) (fail)
  go_wp2_with fail
  have hs3 := (own_setN hs2.swap q (by rw [setO_len]; exact hq) (p : Int)).swap.drew
  clear hgl d0 d1 d2 d3 d4 hf hbg hgb hfb hbl c0 c1 c2 c3
  generalize (w2.setCell ⟨g, q * 5 + 3, none⟩ (.int .i64 (p : Int))).drew = w3 at hs3 ⊢
  have HB3 : Hid ((setN (setO st.A p (q : Int)) q (p : Int))[i]? = some ⟨xk, xs, 1, (p : Int), (q : Int)⟩) := (setN_ne _ _ _ _ hqi).trans HB2.out
  obtain ⟨hgl, d0, d1, d2, d3, d4, hf⟩ := ent_cells hs3.drop HB3.out
  simp only [] at d0 d1 d2 d3 d4
  obtain ⟨hbg, hgb⟩ := own_ne hs3
  have hfb := hs3.frozen
  have hbl := hs3.lt
  have c0 : w3.cell? ⟨b, 0, none⟩ = some (.slice (some ⟨g, 0, none⟩) st.A.length ac) := hs3.cell 0
  have c1 : w3.cell? ⟨b, 6, none⟩ = some (.int .i64 (st.l1.first)) := hs3.cell 6
  have c2 : w3.cell? ⟨b, 7, none⟩ = some (.int .i64 (st.l1.last)) := hs3.cell 7
  have c3 : w3.cell? ⟨b, 8, none⟩ = some (.int .i64 (st.l1.bytes)) := hs3.cell 8
  go_region
  all_goals (go_wp2; go_end0)
  all_goals
    try rw [HW.out]
    exact ⟨rfl, store_close (hs3.set 8 _) (by rw [HX.out]; first | rfl | simp [cellsS, St.setLst, unlL]) (by rw [HX.out]; first | rfl | simp [unlA, setN_len, setO_len]) (by rw [HX.out]; first | rfl | simp [unlA]) (by rw [HX.out]; rfl) (by rw [HX.out]; rfl) (by rw [HX.out]; rfl)⟩

end Go.Proofs.Ytlilogcojeoelaa
