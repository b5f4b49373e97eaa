/- Contracts of package slru: link. -/
import Derived.Test.YtlilogcojeoelaaSlruB
namespace Go.Proofs.Ytlilogcojeoelaa
set_option linter.all false
open Go Go.RowKit

theorem ents_set' (A : List Ent) (i j : Nat) (v : Value) (x y : Ent) (hy : A[i]? = some y) (hj : j < 5) (hx : entc x = (entc y).set j v) : (ents A).set (i * 5 + j) v = ents (A.set i x) := by
  obtain ⟨hi, rfl⟩ := List.getElem?_eq_some_iff.1 hy
  exact ents_set A i j v x hi hj hx
theorem own_setE {k : Env} {w : World} {R : Assn} {g n ac : Nat} {A : List Ent} {i : Nat} {y : Ent} (h : Sat k w (Own 134 5 (.slice (some ⟨g, 0, none⟩) n ac) n (ents A) * R)) (hy : A[i]? = some y) (G N O : Int) :
    Sat k (((w.setCell ⟨g, i * 5 + 2, none⟩ (.int .i64 G)).setCell ⟨g, i * 5 + 3, none⟩ (.int .i64 N)).setCell ⟨g, i * 5 + 4, none⟩ (.int .i64 O)) (Own 134 5 (.slice (some ⟨g, 0, none⟩) n ac) n (ents (A.set i ⟨y.k, y.s, G, N, O⟩)) * R) := by
  have hi := (List.getElem?_eq_some_iff.1 hy).1
  have h3 := own_set (own_set (own_set h (i * 5 + 2) (.int .i64 G)) (i * 5 + 3) (.int .i64 N)) (i * 5 + 4) (.int .i64 O)
  rw [ents_set' A i 2 _ ⟨y.k, y.s, G, y.n, y.o⟩ y hy (by decide) rfl] at h3
  rw [ents_set' _ i 3 _ ⟨y.k, y.s, G, N, y.o⟩ ⟨y.k, y.s, G, y.n, y.o⟩ (by simp [hi]) (by decide) rfl] at h3
  rw [ents_set' _ i 4 _ ⟨y.k, y.s, G, N, O⟩ ⟨y.k, y.s, G, N, y.o⟩ (by simp [hi]) (by decide) rfl] at h3
  simpa using h3

set_option maxRecDepth 100000 in
set_option maxHeartbeats 4000000 in
theorem link_00 (k : Env) (w : World) (R : Assn) (b : Nat) (st : St) (i : Nat) (x : Ent) (hx : st.A[i]? = some x) (hl : st.l0.first = (-1))
    (hb : smallI st.l0.bytes) (hs0 : smallI x.s) (h : Sat k w (StoreR b st * R)) :
    Calls Try.prog 77 #[.pointer (some ⟨b, 0, none⟩), .int .i64 i, .int .i64 0] w fun e w' => e = .returned (.tuple #[]) ∧ Sat k w' (StoreR b (linkS st i 0) * R) := by
  obtain ⟨xk, xs, xg, xn, xo⟩ := x
  obtain ⟨aa, ac, fa, fc, m, hs⟩ := store_open h
  obtain ⟨hb0, hb1⟩ := hb
  obtain ⟨hs1, hs2⟩ := hs0
  simp only [] at hs1 hs2
  have hi := (List.getElem?_eq_some_iff.1 hx).1
  have hi' : (i : Int) < st.A.length := by omega
  have hi0 : (0 : Int) ≤ i := by omega
  have HX : Hid (linkS st i 0 = { (st.setLst 0 (linkL st.l0 i ⟨xk, xs, xg, xn, xo⟩)) with A := linkA st.A i 0 st.l0 }) := by
    unfold Hid linkS
    simp only [List.getD, hx, Option.getD_some]
    rfl
  have HA : Hid (linkA st.A i 0 st.l0 = st.A.set i ⟨xk, xs, 0, -1, (-1)⟩) := by
    unfold Hid linkA
    have hx' : st.A[i] = ⟨xk, xs, xg, xn, xo⟩ := (List.getElem?_eq_some_iff.1 hx).2
    rw [modify_set _ _ _ hi, hx', hl]
    rfl
  have HLL : Hid (linkL st.l0 i ⟨xk, xs, xg, xn, xo⟩ = ⟨i, i, st.l0.bytes + xs⟩) := by
    unfold Hid linkL
    rw [hl]
    rfl
  have HB := Lib.hid hx
  clear hx h
  obtain ⟨g, rfl⟩ := ent_addr hs.drop HB.out
  obtain ⟨hgl, d0, d1, d2, d3, d4, hf⟩ := ent_cells hs.drop HB.out
  simp only [] at d0 d1 d2 d3 d4
  obtain ⟨hbg, hgb⟩ := own_ne hs
  have hfb := hs.frozen
  have hbl := hs.lt
  have c0 : w.cell? ⟨b, 0, none⟩ = some (.slice (some ⟨g, 0, none⟩) st.A.length ac) := hs.cell 0
  have c1 : w.cell? ⟨b, 3, none⟩ = some (.int .i64 (st.l0.first)) := hs.cell 3
  have c2 : w.cell? ⟨b, 4, none⟩ = some (.int .i64 (st.l0.last)) := hs.cell 4
  have c3 : w.cell? ⟨b, 5, none⟩ = some (.int .i64 (st.l0.bytes)) := hs.cell 5
  rw [hl] at c1
  have HLF := Lib.hid hl
  clear hl
  go_enter Try.func77, Try.ntmps77
  go_wp2_with fail
  have hs2 := (((own_setE hs.swap HB.out 0 (-1) (-1)).swap.set 4 (.int .i64 i)).set 3 (.int .i64 i))
  clear hgl d0 d1 d2 d3 d4 hf hbg hgb hfb hbl c0 c1 c2 c3
  generalize ((((w.setCell ⟨g, i * 5 + 2, none⟩ (.int .i64 0)).setCell ⟨g, i * 5 + 3, none⟩ (.int .i64 (-1))).setCell ⟨g, i * 5 + 4, none⟩ (.int .i64 (-1))).setCell ⟨b, 4, none⟩ (.int .i64 i)).setCell ⟨b, 3, none⟩ (.int .i64 i) = w2 at hs2 ⊢
  have HB2 : Hid ((st.A.set i ⟨xk, xs, 0, -1, (-1)⟩)[i]? = some ⟨xk, xs, 0, -1, (-1)⟩) := by unfold Hid; simp [hi]
  obtain ⟨hgl, d0, d1, d2, d3, d4, hf⟩ := ent_cells hs2.drop HB2.out
  simp only [] at d0 d1 d2 d3 d4
  obtain ⟨hbg, hgb⟩ := own_ne hs2
  have hfb := hs2.frozen
  have hbl := hs2.lt
  have c0 : w2.cell? ⟨b, 0, none⟩ = some (.slice (some ⟨g, 0, none⟩) st.A.length ac) := hs2.cell 0
  have c1 : w2.cell? ⟨b, 3, none⟩ = some (.int .i64 ((i : Int))) := hs2.cell 3
  have c2 : w2.cell? ⟨b, 4, none⟩ = some (.int .i64 ((i : Int))) := hs2.cell 4
  have c3 : w2.cell? ⟨b, 5, none⟩ = some (.int .i64 (st.l0.bytes)) := hs2.cell 5
  have HW : Hid (wrap64 (st.l0.bytes + xs) = st.l0.bytes + xs) := by unfold Hid; exact IntWalk.wrap64_in _ ⟨by omega, by omega⟩
  go_region
  all_goals (go_wp2; go_end0)
  all_goals
    try rw [HW.out]
    exact ⟨rfl, store_close (hs2.set 5 _) (by rw [HX.out, HLL.out]; first | rfl | simp [cellsS, St.setLst]) (by rw [HX.out]; simp only [HA.out]; first | rfl | simp [setN_len]) (by rw [HX.out]; simp only [HA.out]) (by rw [HX.out]; rfl) (by rw [HX.out]; rfl) (by rw [HX.out]; rfl)⟩

set_option maxRecDepth 100000 in
set_option maxHeartbeats 4000000 in
theorem link_01 (k : Env) (w : World) (R : Assn) (b : Nat) (st : St) (i : Nat) (x : Ent) (p : Nat) (hp : p < st.A.length) (hpi : p ≠ i) (hx : st.A[i]? = some x) (hl : st.l0.first = (p : Int))
    (hb : smallI st.l0.bytes) (hs0 : smallI x.s) (h : Sat k w (StoreR b st * R)) :
    Calls Try.prog 77 #[.pointer (some ⟨b, 0, none⟩), .int .i64 i, .int .i64 0] w fun e w' => e = .returned (.tuple #[]) ∧ Sat k w' (StoreR b (linkS st i 0) * R) := by
  obtain ⟨xk, xs, xg, xn, xo⟩ := x
  obtain ⟨aa, ac, fa, fc, m, hs⟩ := store_open h
  obtain ⟨hb0, hb1⟩ := hb
  obtain ⟨hs1, hs2⟩ := hs0
  simp only [] at hs1 hs2
  have hi := (List.getElem?_eq_some_iff.1 hx).1
  have hi' : (i : Int) < st.A.length := by omega
  have hi0 : (0 : Int) ≤ i := by omega
  have hp' : (p : Int) < st.A.length := by omega
  have hp0 : (0 : Int) ≤ p := by omega
  have hp1 : ((p : Int) == -1) = false := by simp
  have HX : Hid (linkS st i 0 = { (st.setLst 0 (linkL st.l0 i ⟨xk, xs, xg, xn, xo⟩)) with A := linkA st.A i 0 st.l0 }) := by
    unfold Hid linkS
    simp only [List.getD, hx, Option.getD_some]
    rfl
  have HA : Hid (linkA st.A i 0 st.l0 = setN (st.A.set i ⟨xk, xs, 0, -1, (p : Int)⟩) p i) := by
    unfold Hid linkA
    have hx' : st.A[i] = ⟨xk, xs, xg, xn, xo⟩ := (List.getElem?_eq_some_iff.1 hx).2
    rw [modify_set _ _ _ hi, hx', hl]
    rw [if_neg (by omega)]
  have HLL : Hid (linkL st.l0 i ⟨xk, xs, xg, xn, xo⟩ = ⟨i, st.l0.last, st.l0.bytes + xs⟩) := by
    unfold Hid linkL
    rw [hl]
    rw [if_neg (by omega)]
  have HB := Lib.hid hx
  clear hx h
  obtain ⟨g, rfl⟩ := ent_addr hs.drop HB.out
  obtain ⟨hgl, d0, d1, d2, d3, d4, hf⟩ := ent_cells hs.drop HB.out
  simp only [] at d0 d1 d2 d3 d4
  obtain ⟨hbg, hgb⟩ := own_ne hs
  have hfb := hs.frozen
  have hbl := hs.lt
  have c0 : w.cell? ⟨b, 0, none⟩ = some (.slice (some ⟨g, 0, none⟩) st.A.length ac) := hs.cell 0
  have c1 : w.cell? ⟨b, 3, none⟩ = some (.int .i64 (st.l0.first)) := hs.cell 3
  have c2 : w.cell? ⟨b, 4, none⟩ = some (.int .i64 (st.l0.last)) := hs.cell 4
  have c3 : w.cell? ⟨b, 5, none⟩ = some (.int .i64 (st.l0.bytes)) := hs.cell 5
  rw [hl] at c1
  have HLF := Lib.hid hl
  clear hl
  go_enter Try.func77, Try.ntmps77
  go_wp2_with fail
  have hs2 := (own_setE hs.swap HB.out 0 (-1) (p : Int)).swap
  clear hgl d0 d1 d2 d3 d4 hf hbg hgb hfb hbl c0 c1 c2 c3
  generalize ((w.setCell ⟨g, i * 5 + 2, none⟩ (.int .i64 0)).setCell ⟨g, i * 5 + 3, none⟩ (.int .i64 (-1))).setCell ⟨g, i * 5 + 4, none⟩ (.int .i64 (p : Int)) = w2 at hs2 ⊢
  have HB2 : Hid ((st.A.set i ⟨xk, xs, 0, -1, (p : Int)⟩)[i]? = some ⟨xk, xs, 0, -1, (p : Int)⟩) := by unfold Hid; simp [hi]
  obtain ⟨hgl, d0, d1, d2, d3, d4, hf⟩ := ent_cells hs2.drop HB2.out
  simp only [] at d0 d1 d2 d3 d4
  obtain ⟨hbg, hgb⟩ := own_ne hs2
  have hfb := hs2.frozen
  have hbl := hs2.lt
  have c0 : w2.cell? ⟨b, 0, none⟩ = some (.slice (some ⟨g, 0, none⟩) st.A.length ac) := hs2.cell 0
  have c1 : w2.cell? ⟨b, 3, none⟩ = some (.int .i64 (p : Int)) := (hs2.cell 3).trans (by rw [← HLF.out]; rfl)
  have c2 : w2.cell? ⟨b, 4, none⟩ = some (.int .i64 st.l0.last) := hs2.cell 4
  have c3 : w2.cell? ⟨b, 5, none⟩ = some (.int .i64 st.l0.bytes) := hs2.cell 5
  obtain ⟨yp, HP⟩ : ∃ y, Hid ((st.A.set i ⟨xk, xs, 0, -1, (p : Int)⟩)[p]? = some y) := ⟨(st.A.set i ⟨xk, xs, 0, -1, (p : Int)⟩)[p]'(by rw [List.length_set]; exact hp), by unfold Hid; rw [List.getElem?_eq_getElem]⟩
  obtain ⟨_, _, _, _, dp, _, _⟩ := ent_cells hs2.drop HP.out
  go_region_held3 (fun w' => w'.cell? ⟨b, 0, none⟩ = some (.slice (some ⟨g, 0, none⟩) st.A.length ac) ∧ w'.cell? ⟨b, 3, none⟩ = some (.int .i64 (p : Int))) (first | exact ⟨c0, c1⟩ | exact ⟨(cell_oth _ _ _ _ (by simp [hgb])).trans c0, (cell_oth _ _ _ _ (by simp [hgb])).trans c1⟩ | fail) (fail)
  go_wp2_with fail
  have hs3 := ((own_setN hs2.swap p (by rw [List.length_set]; exact hp) i).swap.set 3 (.int .i64 i)).drew
  clear hgl d0 d1 d2 d3 d4 hf hbg hgb hfb hbl c0 c1 c2 c3
  generalize ((w2.setCell ⟨g, p * 5 + 3, none⟩ (.int .i64 i)).setCell ⟨b, 3, none⟩ (.int .i64 i)).drew = w3 at hs3 ⊢
  have HB3 : Hid ((setN (st.A.set i ⟨xk, xs, 0, -1, (p : Int)⟩) p i)[i]? = some ⟨xk, xs, 0, -1, (p : Int)⟩) := (setN_ne _ _ _ _ hpi).trans HB2.out
  obtain ⟨hgl, d0, d1, d2, d3, d4, hf⟩ := ent_cells hs3.drop HB3.out
  simp only [] at d0 d1 d2 d3 d4
  obtain ⟨hbg, hgb⟩ := own_ne hs3
  have hfb := hs3.frozen
  have hbl := hs3.lt
  have c0 : w3.cell? ⟨b, 0, none⟩ = some (.slice (some ⟨g, 0, none⟩) st.A.length ac) := hs3.cell 0
  have c1 : w3.cell? ⟨b, 3, none⟩ = some (.int .i64 ((i : Int))) := hs3.cell 3
  have c2 : w3.cell? ⟨b, 4, none⟩ = some (.int .i64 (st.l0.last)) := hs3.cell 4
  have c3 : w3.cell? ⟨b, 5, none⟩ = some (.int .i64 (st.l0.bytes)) := hs3.cell 5
  have HW : Hid (wrap64 (st.l0.bytes + xs) = st.l0.bytes + xs) := by unfold Hid; exact IntWalk.wrap64_in _ ⟨by omega, by omega⟩
  go_region
  all_goals (go_wp2; go_end0)
  all_goals
    try rw [HW.out]
    exact ⟨rfl, store_close (hs3.set 5 _) (by rw [HX.out, HLL.out]; first | rfl | simp [cellsS, St.setLst]) (by rw [HX.out]; simp only [HA.out]; first | rfl | simp [setN_len]) (by rw [HX.out]; simp only [HA.out]) (by rw [HX.out]; rfl) (by rw [HX.out]; rfl) (by rw [HX.out]; rfl)⟩

set_option maxRecDepth 100000 in
set_option maxHeartbeats 4000000 in
theorem link_10 (k : Env) (w : World) (R : Assn) (b : Nat) (st : St) (i : Nat) (x : Ent) (hx : st.A[i]? = some x) (hl : st.l1.first = (-1))
    (hb : smallI st.l1.bytes) (hs0 : smallI x.s) (h : Sat k w (StoreR b st * R)) :
    Calls Try.prog 77 #[.pointer (some ⟨b, 0, none⟩), .int .i64 i, .int .i64 1] w fun e w' => e = .returned (.tuple #[]) ∧ Sat k w' (StoreR b (linkS st i 1) * R) := by
  obtain ⟨xk, xs, xg, xn, xo⟩ := x
  obtain ⟨aa, ac, fa, fc, m, hs⟩ := store_open h
  obtain ⟨hb0, hb1⟩ := hb
  obtain ⟨hs1, hs2⟩ := hs0
  simp only [] at hs1 hs2
  have hi := (List.getElem?_eq_some_iff.1 hx).1
  have hi' : (i : Int) < st.A.length := by omega
  have hi0 : (0 : Int) ≤ i := by omega
  have HX : Hid (linkS st i 1 = { (st.setLst 1 (linkL st.l1 i ⟨xk, xs, xg, xn, xo⟩)) with A := linkA st.A i 1 st.l1 }) := by
    unfold Hid linkS
    simp only [List.getD, hx, Option.getD_some]
    rfl
  have HA : Hid (linkA st.A i 1 st.l1 = st.A.set i ⟨xk, xs, 1, -1, (-1)⟩) := by
    unfold Hid linkA
    have hx' : st.A[i] = ⟨xk, xs, xg, xn, xo⟩ := (List.getElem?_eq_some_iff.1 hx).2
    rw [modify_set _ _ _ hi, hx', hl]
    rfl
  have HLL : Hid (linkL st.l1 i ⟨xk, xs, xg, xn, xo⟩ = ⟨i, i, st.l1.bytes + xs⟩) := by
    unfold Hid linkL
    rw [hl]
    rfl
  have HB := Lib.hid hx
  clear hx h
  obtain ⟨g, rfl⟩ := ent_addr hs.drop HB.out
  obtain ⟨hgl, d0, d1, d2, d3, d4, hf⟩ := ent_cells hs.drop HB.out
  simp only [] at d0 d1 d2 d3 d4
  obtain ⟨hbg, hgb⟩ := own_ne hs
  have hfb := hs.frozen
  have hbl := hs.lt
  have c0 : w.cell? ⟨b, 0, none⟩ = some (.slice (some ⟨g, 0, none⟩) st.A.length ac) := hs.cell 0
  have c1 : w.cell? ⟨b, 6, none⟩ = some (.int .i64 (st.l1.first)) := hs.cell 6
  have c2 : w.cell? ⟨b, 7, none⟩ = some (.int .i64 (st.l1.last)) := hs.cell 7
  have c3 : w.cell? ⟨b, 8, none⟩ = some (.int .i64 (st.l1.bytes)) := hs.cell 8
  rw [hl] at c1
  have HLF := Lib.hid hl
  clear hl
  go_enter Try.func77, Try.ntmps77
  go_wp2_with fail
  have hs2 := (((own_setE hs.swap HB.out 1 (-1) (-1)).swap.set 7 (.int .i64 i)).set 6 (.int .i64 i))
  clear hgl d0 d1 d2 d3 d4 hf hbg hgb hfb hbl c0 c1 c2 c3
  generalize ((((w.setCell ⟨g, i * 5 + 2, none⟩ (.int .i64 1)).setCell ⟨g, i * 5 + 3, none⟩ (.int .i64 (-1))).setCell ⟨g, i * 5 + 4, none⟩ (.int .i64 (-1))).setCell ⟨b, 7, none⟩ (.int .i64 i)).setCell ⟨b, 6, none⟩ (.int .i64 i) = w2 at hs2 ⊢
  have HB2 : Hid ((st.A.set i ⟨xk, xs, 1, -1, (-1)⟩)[i]? = some ⟨xk, xs, 1, -1, (-1)⟩) := by unfold Hid; simp [hi]
  obtain ⟨hgl, d0, d1, d2, d3, d4, hf⟩ := ent_cells hs2.drop HB2.out
  simp only [] at d0 d1 d2 d3 d4
  obtain ⟨hbg, hgb⟩ := own_ne hs2
  have hfb := hs2.frozen
  have hbl := hs2.lt
  have c0 : w2.cell? ⟨b, 0, none⟩ = some (.slice (some ⟨g, 0, none⟩) st.A.length ac) := hs2.cell 0
  have c1 : w2.cell? ⟨b, 6, none⟩ = some (.int .i64 ((i : Int))) := hs2.cell 6
  have c2 : w2.cell? ⟨b, 7, none⟩ = some (.int .i64 ((i : Int))) := hs2.cell 7
  have c3 : w2.cell? ⟨b, 8, none⟩ = some (.int .i64 (st.l1.bytes)) := hs2.cell 8
  have HW : Hid (wrap64 (st.l1.bytes + xs) = st.l1.bytes + xs) := by unfold Hid; exact IntWalk.wrap64_in _ ⟨by omega, by omega⟩
  go_region
  all_goals (go_wp2; go_end0)
  all_goals
    try rw [HW.out]
    exact ⟨rfl, store_close (hs2.set 8 _) (by rw [HX.out, HLL.out]; first | rfl | simp [cellsS, St.setLst]) (by rw [HX.out]; simp only [HA.out]; first | rfl | simp [setN_len]) (by rw [HX.out]; simp only [HA.out]) (by rw [HX.out]; rfl) (by rw [HX.out]; rfl) (by rw [HX.out]; rfl)⟩

set_option maxRecDepth 100000 in
set_option maxHeartbeats 4000000 in
theorem link_11 (k : Env) (w : World) (R : Assn) (b : Nat) (st : St) (i : Nat) (x : Ent) (p : Nat) (hp : p < st.A.length) (hpi : p ≠ i) (hx : st.A[i]? = some x) (hl : st.l1.first = (p : Int))
    (hb : smallI st.l1.bytes) (hs0 : smallI x.s) (h : Sat k w (StoreR b st * R)) :
    Calls Try.prog 77 #[.pointer (some ⟨b, 0, none⟩), .int .i64 i, .int .i64 1] w fun e w' => e = .returned (.tuple #[]) ∧ Sat k w' (StoreR b (linkS st i 1) * R) := by
  obtain ⟨xk, xs, xg, xn, xo⟩ := x
  obtain ⟨aa, ac, fa, fc, m, hs⟩ := store_open h
  obtain ⟨hb0, hb1⟩ := hb
  obtain ⟨hs1, hs2⟩ := hs0
  simp only [] at hs1 hs2
  have hi := (List.getElem?_eq_some_iff.1 hx).1
  have hi' : (i : Int) < st.A.length := by omega
  have hi0 : (0 : Int) ≤ i := by omega
  have hp' : (p : Int) < st.A.length := by omega
  have hp0 : (0 : Int) ≤ p := by omega
  have hp1 : ((p : Int) == -1) = false := by simp
  have HX : Hid (linkS st i 1 = { (st.setLst 1 (linkL st.l1 i ⟨xk, xs, xg, xn, xo⟩)) with A := linkA st.A i 1 st.l1 }) := by
    unfold Hid linkS
    simp only [List.getD, hx, Option.getD_some]
    rfl
  have HA : Hid (linkA st.A i 1 st.l1 = setN (st.A.set i ⟨xk, xs, 1, -1, (p : Int)⟩) p i) := by
    unfold Hid linkA
    have hx' : st.A[i] = ⟨xk, xs, xg, xn, xo⟩ := (List.getElem?_eq_some_iff.1 hx).2
    rw [modify_set _ _ _ hi, hx', hl]
    rw [if_neg (by omega)]
  have HLL : Hid (linkL st.l1 i ⟨xk, xs, xg, xn, xo⟩ = ⟨i, st.l1.last, st.l1.bytes + xs⟩) := by
    unfold Hid linkL
    rw [hl]
    rw [if_neg (by omega)]
  have HB := Lib.hid hx
  clear hx h
  obtain ⟨g, rfl⟩ := ent_addr hs.drop HB.out
  obtain ⟨hgl, d0, d1, d2, d3, d4, hf⟩ := ent_cells hs.drop HB.out
  simp only [] at d0 d1 d2 d3 d4
  obtain ⟨hbg, hgb⟩ := own_ne hs
  have hfb := hs.frozen
  have hbl := hs.lt
  have c0 : w.cell? ⟨b, 0, none⟩ = some (.slice (some ⟨g, 0, none⟩) st.A.length ac) := hs.cell 0
  have c1 : w.cell? ⟨b, 6, none⟩ = some (.int .i64 (st.l1.first)) := hs.cell 6
  have c2 : w.cell? ⟨b, 7, none⟩ = some (.int .i64 (st.l1.last)) := hs.cell 7
  have c3 : w.cell? ⟨b, 8, none⟩ = some (.int .i64 (st.l1.bytes)) := hs.cell 8
  rw [hl] at c1
  have HLF := Lib.hid hl
  clear hl
  go_enter Try.func77, Try.ntmps77
  go_wp2_with fail
  have hs2 := (own_setE hs.swap HB.out 1 (-1) (p : Int)).swap
  clear hgl d0 d1 d2 d3 d4 hf hbg hgb hfb hbl c0 c1 c2 c3
  generalize ((w.setCell ⟨g, i * 5 + 2, none⟩ (.int .i64 1)).setCell ⟨g, i * 5 + 3, none⟩ (.int .i64 (-1))).setCell ⟨g, i * 5 + 4, none⟩ (.int .i64 (p : Int)) = w2 at hs2 ⊢
  have HB2 : Hid ((st.A.set i ⟨xk, xs, 1, -1, (p : Int)⟩)[i]? = some ⟨xk, xs, 1, -1, (p : Int)⟩) := by unfold Hid; simp [hi]
  obtain ⟨hgl, d0, d1, d2, d3, d4, hf⟩ := ent_cells hs2.drop HB2.out
  simp only [] at d0 d1 d2 d3 d4
  obtain ⟨hbg, hgb⟩ := own_ne hs2
  have hfb := hs2.frozen
  have hbl := hs2.lt
  have c0 : w2.cell? ⟨b, 0, none⟩ = some (.slice (some ⟨g, 0, none⟩) st.A.length ac) := hs2.cell 0
  have c1 : w2.cell? ⟨b, 6, none⟩ = some (.int .i64 (p : Int)) := (hs2.cell 6).trans (by rw [← HLF.out]; rfl)
  have c2 : w2.cell? ⟨b, 7, none⟩ = some (.int .i64 st.l1.last) := hs2.cell 7
  have c3 : w2.cell? ⟨b, 8, none⟩ = some (.int .i64 st.l1.bytes) := hs2.cell 8
  obtain ⟨yp, HP⟩ : ∃ y, Hid ((st.A.set i ⟨xk, xs, 1, -1, (p : Int)⟩)[p]? = some y) := ⟨(st.A.set i ⟨xk, xs, 1, -1, (p : Int)⟩)[p]'(by rw [List.length_set]; exact hp), by unfold Hid; rw [List.getElem?_eq_getElem]⟩
  obtain ⟨_, _, _, _, dp, _, _⟩ := ent_cells hs2.drop HP.out
  go_region_held3 (fun w' => w'.cell? ⟨b, 0, none⟩ = some (.slice (some ⟨g, 0, none⟩) st.A.length ac) ∧ w'.cell? ⟨b, 6, none⟩ = some (.int .i64 (p : Int))) (first | exact ⟨c0, c1⟩ | exact ⟨(cell_oth _ _ _ _ (by simp [hgb])).trans c0, (cell_oth _ _ _ _ (by simp [hgb])).trans c1⟩ | fail) (fail)
  go_wp2_with fail
  have hs3 := ((own_setN hs2.swap p (by rw [List.length_set]; exact hp) i).swap.set 6 (.int .i64 i)).drew
  clear hgl d0 d1 d2 d3 d4 hf hbg hgb hfb hbl c0 c1 c2 c3
  generalize ((w2.setCell ⟨g, p * 5 + 3, none⟩ (.int .i64 i)).setCell ⟨b, 6, none⟩ (.int .i64 i)).drew = w3 at hs3 ⊢
  have HB3 : Hid ((setN (st.A.set i ⟨xk, xs, 1, -1, (p : Int)⟩) p i)[i]? = some ⟨xk, xs, 1, -1, (p : Int)⟩) := (setN_ne _ _ _ _ hpi).trans HB2.out
  obtain ⟨hgl, d0, d1, d2, d3, d4, hf⟩ := ent_cells hs3.drop HB3.out
  simp only [] at d0 d1 d2 d3 d4
  obtain ⟨hbg, hgb⟩ := own_ne hs3
  have hfb := hs3.frozen
  have hbl := hs3.lt
  have c0 : w3.cell? ⟨b, 0, none⟩ = some (.slice (some ⟨g, 0, none⟩) st.A.length ac) := hs3.cell 0
  have c1 : w3.cell? ⟨b, 6, none⟩ = some (.int .i64 ((i : Int))) := hs3.cell 6
  have c2 : w3.cell? ⟨b, 7, none⟩ = some (.int .i64 (st.l1.last)) := hs3.cell 7
  have c3 : w3.cell? ⟨b, 8, none⟩ = some (.int .i64 (st.l1.bytes)) := hs3.cell 8
  have HW : Hid (wrap64 (st.l1.bytes + xs) = st.l1.bytes + xs) := by unfold Hid; exact IntWalk.wrap64_in _ ⟨by omega, by omega⟩
  go_region
  all_goals (go_wp2; go_end0)
  all_goals
    try rw [HW.out]
    exact ⟨rfl, store_close (hs3.set 8 _) (by rw [HX.out, HLL.out]; first | rfl | simp [cellsS, St.setLst]) (by rw [HX.out]; simp only [HA.out]; first | rfl | simp [setN_len]) (by rw [HX.out]; simp only [HA.out]) (by rw [HX.out]; rfl) (by rw [HX.out]; rfl) (by rw [HX.out]; rfl)⟩

end Go.Proofs.Ytlilogcojeoelaa
