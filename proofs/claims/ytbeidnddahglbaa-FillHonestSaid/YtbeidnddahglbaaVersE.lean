/- Contracts of package vers: Take, Fresh. -/
import Derived.Test.YtbeidnddahglbaaVersD
namespace Go.Proofs.Ytbeidnddahglbaa
set_option linter.all false
open Go Go.RowKit

theorem rd_news {k : Env} {w : World} {R : Assn} {a : Option Addr} {l : List ByteArray} (h : Rd k R a l) (hs : Sat k w R) : 0 < l.length → ∃ ad', a = some ad' ∧ ∀ j u, (strs l)[j]? = some u → w.cell? (ad'.add j) = some u := by
  intro hp
  obtain ⟨g, o, h1, h2⟩ := h
  refine ⟨⟨g, o, none⟩, h1 (by intro e; subst e; cases hp), fun j u hu => ?_⟩
  have hj : j < l.length := by
    have := (List.getElem?_eq_some_iff.1 hu).1
    simpa [strs] using this
  have := h2 w hs j hj
  rw [Addr.add_lit, this]
  simpa [strs, hj] using hu

set_option maxRecDepth 100000 in
set_option maxHeartbeats 2000000 in
theorem vtake_any (k : Env) (w : World) (R : Assn) (b n : Nat) (V : VS) (a : Option Addr) (cap : Nat) (l : List ByteArray) (hr : Rd k R a l) (hn : l.length ≤ 1000000000) (h : Sat k w (VersV b V n * R)) :
    Calls Try.prog 29 #[pv b, .slice a l.length cap] w fun e w' => ∃ va vb, e = .returned (.agg #[.int .i64 V.ep, va, vb]) ∧ Sat k w' (Strs va l * (Ints vb (l.map V.N) * (VersV b V n * R))) := by
  have h0 := h.alloc (.cells #[.int .i64 0, .slice none 0 0, .slice none 0 0] 32)
  obtain ⟨L, ht, h1⟩ := vv_open h0.swap
  obtain ⟨m, hs⟩ := vr_open h1
  have c1 : (w.alloc (.cells #[.int .i64 0, .slice none 0 0, .slice none 0 0] 32)).cell? ⟨b, 1, none⟩ = some (.map (some m)) := hs.cell 1
  have c0 : (w.alloc (.cells #[.int .i64 0, .slice none 0 0, .slice none 0 0] 32)).cell? ⟨b, 0, none⟩ = some (.int .i64 V.ep) := hs.cell 0
  have HR := Lib.hid hr
  clear hs h1 ht h hr
  go_enter Try.func29, Try.ntmps29
  go_upto_region 1 with fail
  generalize w.alloc (.cells #[.int .i64 0, .slice none 0 0, .slice none 0 0] 32) = w0 at *
  generalize w.heap.size = o4 at *
  go_upto_region 4 with (first | (go_at_call 45; refine (vthere_any _ _ _ c1).mono ?_; rintro e w' ⟨rfl, rfl⟩) | (go_at_call 46; refine (aload_any _ _ _ c0).mono ?_; rintro e w' ⟨rfl, rfl⟩) | (at_builtin; refine wpList_append_sat TStrs (own_nil h0) (.const (.slice none 0 0)) (.tmp 16) a l.length cap (strs l) rfl rfl rfl rfl (by simp [strs]) (rd_news HR.out h0.drop.drop) (strs_one l) (by simp [maxLen]; omega) (by omega) ?_; intro a2 c2 w2 h2))
  simp only [Nat.zero_add, List.nil_append] at h2
  have h3 := h2.alloc (.cells #[.int .i64 V.ep, .slice a2 l.length c2, .slice none 0 0] 32)
  generalize w2.alloc (.cells #[.int .i64 V.ep, .slice a2 l.length c2, .slice none 0 0] 32) = w3 at *
  generalize w2.heap.size = o5 at *
  have h4 : Sat k w3 (blk o5 (.cells #[.int .i64 V.ep, .slice a2 l.length c2, .slice none 0 0] 32 (0, 0)) * (Ints (.slice none 0 0) ((l.take 0).map V.N) * (Strs (.slice a2 l.length c2) l * (blk o4 (.cells #[.int .i64 0, .slice none 0 0, .slice none 0 0] 32 (0, 0)) * (VersV b V n * R))))) := (own_nil h3).swap
  clear h3 h2 h0 c1 c0
  go_wp2_with fail
  go_loopw [21] (fun i wr => ∃ (j : Nat) (vb : Value), j ≤ l.length ∧ i = .int .i64 j ∧ Sat k wr (blk o5 (.cells #[.int .i64 V.ep, .slice a2 l.length c2, vb] 32 (0, 0)) * (Ints vb ((l.take j).map V.N) * (Strs (.slice a2 l.length c2) l * (blk o4 (.cells #[.int .i64 0, .slice none 0 0, .slice none 0 0] 32 (0, 0)) * (VersV b V n * R)))))) (fun i _ => l.length - (intOf i).toNat)
  case atStart => exact ⟨0, _, Nat.zero_le _, rfl, h4⟩
  case round =>
    clear h4
    obtain ⟨j, vb, hj, rfl, hr⟩ := hrel
    by_cases hlt : j < l.length
    · have hlt' : (j : Int) < l.length := by omega
      obtain ⟨g, o, rfl, d⟩ := rd_get HR.out hr.drop.drop.drop.drop.drop j hlt
      have hsn : (l.take (j + 1)).map V.N = (l.take j).map V.N ++ [V.N l[j]] := by
        have : l.take (j + 1) = l.take j ++ [l[j]] := by rw [List.take_succ]; simp [hlt]
        rw [this, List.map_append]; rfl
      have htl : ((l.take j).map V.N).length = j := by rw [List.length_map, List.length_take]; omega
      have HSN := Lib.hid hsn
      have HTL := Lib.hid htl
      clear hsn htl
      generalize (l.take j).map V.N = p0 at *
      obtain ⟨ba, bc, hvb⟩ := own_val hr.swap
      rw [HTL.out] at hvb
      subst hvb
      generalize l[j] = s at *
      go_upto_region 7 with fail
      have e2 : wr.cell? ⟨o5, 2, none⟩ = some (.slice ba j bc) := hr.cell 2
      have f2 := hr.frozen 2
      have C := Lib.hid (fun w' R' (h' : Sat k w' (VersV b V n * R')) => vnum_any k w' R' b n V s h')
      have eA : (wr.alloc (.cells #[.int .i64 (V.N s)] 3)).cell? ⟨o5, 2, none⟩ = some (.slice ba j bc) := (hr.alloc _).swap.cell 2
      go_region_law (first | (go_simp; go_at_call 47; (with_reducible refine (C.out _ _ (by first | exact hr.get5 | exact (Sat.drew hr).get5)).mono ?_); rintro e w' ⟨rfl, rfl⟩) | (refine step_append_sat TInts ((hr.swap.drew).alloc' _) (.tmp 26) (.tmp 30) _ 1 1 [.int .i64 (V.N s)] rfl rfl (by simp [Act.eval, Act.put]) (by simp [Act.eval, Act.put]; rfl) rfl (fun _ => ⟨_, rfl, new_cells_at _ _ _ _ (by first | rfl | simp)⟩) (ints_one [V.N s]) (by rw [HTL.out]; simp [maxLen]; omega) (by rw [HTL.out]; omega) ?_; intro a7 c7 w7 h7; have e2' : w7.cell? ⟨o5, 2, none⟩ = some (.slice ba j bc) := h7.swap.cell 2; have f2' := h7.swap.frozen 2))
      all_goals
        have h8 := ints_push h7
        have h9 := h8.swap.set 2 (.slice a7 (p0.length + 1) c7)
        have h10 : Sat k (w7.setCell ⟨o5, 2, none⟩ (.slice a7 (p0.length + 1) c7)) (blk o5 (.cells #[.int .i64 V.ep, .slice a2 l.length c2, .slice a7 (p0.length + 1) c7] 32 (0, 0)) * (Ints (.slice a7 (p0.length + 1) c7) ((l.take (j + 1)).map V.N) * (Strs (.slice a2 l.length c2) l * (blk o4 (.cells #[.int .i64 0, .slice none 0 0, .slice none 0 0] 32 (0, 0)) * (VersV b V n * R))))) := by
          rw [HSN.out]; exact h9
        generalize w7.setCell ⟨o5, 2, none⟩ (.slice a7 (p0.length + 1) c7) = w8 at *
        go_wp2_with fail
        go_roundw
        case rel => exact ⟨j + 1, _, by omega, by go_num, h10⟩
        case measure => simp [intOf]; omega
    · have hjl : j = l.length := by omega
      subst hjl
      rw [List.take_length] at hr
      obtain ⟨ba, bc, rfl⟩ := own_val hr.swap
      have e0 : wr.cell? ⟨o5, 0, none⟩ = some (.int .i64 V.ep) := hr.cell 0
      have e1 : wr.cell? ⟨o5, 1, none⟩ = some (.slice a2 l.length c2) := hr.cell 1
      have e2 : wr.cell? ⟨o5, 2, none⟩ = some (.slice ba (l.map V.N).length bc) := hr.cell 2
      have g0 : wr.cell? ⟨o4, 0, none⟩ = some (.int .i64 0) := hr.get4.cell 0
      have g1 : wr.cell? ⟨o4, 1, none⟩ = some (.slice none 0 0) := hr.get4.cell 1
      have g2 : wr.cell? ⟨o4, 2, none⟩ = some (.slice none 0 0) := hr.get4.cell 2
      have f0 := hr.get4.frozen 0
      have f1 := hr.get4.frozen 1
      have f2 := hr.get4.frozen 2
      go_wp2_with fail
      have h5 := ((hr.get4.set 0 (.int .i64 V.ep)).set 1 (.slice a2 l.length c2)).set 2 (.slice ba (l.map V.N).length bc)
      clear g0 g1 g2 f0 f1 f2 e0 e1 e2
      rw [List.length_map] at h5
      generalize ((wr.setCell ⟨o4, 0, none⟩ (.int .i64 V.ep)).setCell ⟨o4, 1, none⟩ (.slice a2 l.length c2)).setCell ⟨o4, 2, none⟩ (.slice ba l.length bc) = w9 at *
      have g0 : w9.cell? ⟨o4, 0, none⟩ = some (.int .i64 V.ep) := h5.cell 0
      have g1 : w9.cell? ⟨o4, 1, none⟩ = some (.slice a2 l.length c2) := h5.cell 1
      have g2 : w9.cell? ⟨o4, 2, none⟩ = some (.slice ba l.length bc) := h5.cell 2
      refine bodyPost_ret (v := .agg #[.int .i64 V.ep, .slice a2 l.length c2, .slice ba l.length bc]) (by simp [results, Try.results29, go_sem, g0, g1, g2]) rfl ?_
      exact ⟨_, _, rfl, h5.drop.drop.swap⟩

end Go.Proofs.Ytbeidnddahglbaa
