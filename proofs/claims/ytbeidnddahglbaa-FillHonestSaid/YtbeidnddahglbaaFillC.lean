/- Contracts of package fill: copied, forget. -/
import Derived.Test.YtbeidnddahglbaaFillB
namespace Go.Proofs.Ytbeidnddahglbaa
set_option linter.all false
open Go Go.RowKit

theorem rdi_news {k : Env} {w : World} {R : Assn} {a : Option Addr} {l : List Int} (h : RdI k R a l) (hs : Sat k w R) : 0 < l.length → ∃ ad', a = some ad' ∧ ∀ j u, (ints l)[j]? = some u → w.cell? (ad'.add j) = some u := by
  intro hp
  obtain ⟨g, o, h1, h2⟩ := h
  refine ⟨⟨g, o, none⟩, h1 (by intro e; subst e; cases hp), fun j u hu => ?_⟩
  have hj : j < l.length := by
    have := (List.getElem?_eq_some_iff.1 hu).1
    simpa [ints] using this
  have := h2 w hs j hj
  rw [Addr.add_lit, this]
  simpa [ints, hj] using hu

set_option maxRecDepth 100000 in
set_option maxHeartbeats 2000000 in
theorem fcopied_any (k : Env) (w : World) (R : Assn) (s : StM) (hr : Rd k R s.a s.names) (hi : RdI k R s.i s.nums) (hn : s.names.length ≤ 1000000000) (hm : s.nums.length ≤ 1000000000) (h : Sat k w R) :
    Calls Try.prog 28 #[s.v] w fun e w' => ∃ s' : StM, e = .returned s'.v ∧ s'.ep = s.ep ∧ s'.names = s.names ∧ s'.nums = s.nums ∧ Sat k w' (stampS s' * R) := by
  obtain ⟨ep, a, ac, names, i, ic, nums⟩ := s
  simp only [StM.v] at *
  have h0 := (h.alloc (.cells #[.int .i64 ep, .slice a names.length ac, .slice i nums.length ic] 32)).alloc (.cells #[.int .i64 0, .slice none 0 0, .slice none 0 0] 32)
  rw [show (w.alloc (.cells #[.int .i64 ep, .slice a names.length ac, .slice i nums.length ic] 32)).heap.size = w.heap.size + 1 from by simp] at h0
  clear h
  have HR := Lib.hid hr
  have HI := Lib.hid hi
  clear hr hi
  go_enter Try.func28, Try.ntmps28
  go_upto_region 1 with fail
  generalize (w.alloc (.cells #[.int .i64 ep, .slice a names.length ac, .slice i nums.length ic] 32)).alloc (.cells #[.int .i64 0, .slice none 0 0, .slice none 0 0] 32) = w0 at *
  generalize w.heap.size = o1 at *
  have d0 : w0.cell? ⟨o1, 0, none⟩ = some (.int .i64 ep) := h0.swap.cell 0
  have d1 : w0.cell? ⟨o1, 1, none⟩ = some (.slice a names.length ac) := h0.swap.cell 1
  have d2 : w0.cell? ⟨o1, 2, none⟩ = some (.slice i nums.length ic) := h0.swap.cell 2
  go_region_law (first | (refine step_append_sat TStrs (own_nil h0.drew) (.const (.slice none 0 0)) (.tmp 6) a names.length ac (strs names) rfl rfl rfl (by simp [Act.eval, Act.put]) (by simp [strs]) (rd_news HR.out h0.drop.drop.drew) (strs_one names) (by simp [maxLen]; omega) (by omega) ?_; intro a5 c5 w5 h5; have d2' : w5.cell? ⟨o1, 2, none⟩ = some (.slice i nums.length ic) := h5.get3.cell 2; have d0' : w5.cell? ⟨o1, 0, none⟩ = some (.int .i64 ep) := h5.get3.cell 0) | (refine step_append_sat TInts (own_nil h5) (.const (.slice none 0 0)) (.tmp 9) i nums.length ic (ints nums) rfl rfl rfl (by simp [Act.eval, Act.put]) (by simp [ints]) (rdi_news HI.out h5.drop.drop.drop) (ints_one nums) (by simp [maxLen]; omega) (by omega) ?_; intro a6 c6 w6 h6; have d0' : w6.cell? ⟨o1, 0, none⟩ = some (.int .i64 ep) := h6.get4.cell 0; have e0 : w6.cell? ⟨o1 + 1, 0, none⟩ = some (.int .i64 0) := h6.get3.cell 0; have e1 : w6.cell? ⟨o1 + 1, 1, none⟩ = some (.slice none 0 0) := h6.get3.cell 1; have e2 : w6.cell? ⟨o1 + 1, 2, none⟩ = some (.slice none 0 0) := h6.get3.cell 2; have f0 := h6.get3.frozen 0; have f1 := h6.get3.frozen 1; have f2 := h6.get3.frozen 2))
  all_goals
    simp only [Nat.zero_add, List.nil_append] at h6
    have h7 := ((h6.get3.set 0 (.int .i64 ep)).set 1 (.slice a5 names.length c5)).set 2 (.slice a6 nums.length c6)
    generalize ((w6.setCell ⟨o1 + 1, 0, none⟩ (.int .i64 ep)).setCell ⟨o1 + 1, 1, none⟩ (.slice a5 names.length c5)).setCell ⟨o1 + 1, 2, none⟩ (.slice a6 nums.length c6) = w9 at *
    clear e0 e1 e2 f0 f1 f2 h6 h5 d0 d1 d2 d0' d2'
    have g0 : w9.cell? ⟨o1 + 1, 0, none⟩ = some (.int .i64 ep) := h7.cell 0
    have g1 : w9.cell? ⟨o1 + 1, 1, none⟩ = some (.slice a5 names.length c5) := h7.cell 1
    have g2 : w9.cell? ⟨o1 + 1, 2, none⟩ = some (.slice a6 nums.length c6) := h7.cell 2
    go_wp2_with fail
    refine bodyPost_ret (v := .agg #[.int .i64 ep, .slice a5 names.length c5, .slice a6 nums.length c6]) (by simp [results, Try.results28, go_sem, g0, g1, g2]) rfl ?_
    refine ⟨⟨ep, a5, c5, names, a6, c6, nums⟩, by simp, rfl, rfl, rfl, ?_⟩
    have h8 := h7.drop
    have h9 := h8.swap.get3.drop
    unfold stampS Strs Ints
    rw [star_assoc]
    exact h9

/-- Keys' stamps go. -/
def mdels (ys : List Ky) (S : List (Ky × StM)) : List (Ky × StM) := ys.foldl (fun s y => mdel y s) S
theorem mdels_snoc (ys : List Ky) (y : Ky) (S : List (Ky × StM)) : mdels (ys ++ [y]) S = mdel y (mdels ys S) := by simp [mdels]
theorem keys_get {k : Env} {w : World} {a : Option Addr} {c : Nat} {l : List Ky} {R : Assn} (h : Sat k w (Kys (.slice a l.length c) l * R)) (j : Nat) (hj : j < l.length) :
    ∃ g, a = some ⟨g, 0, none⟩ ∧ w.cell? ⟨g, j * 4, none⟩ = some (.string l[j].db) ∧ w.cell? ⟨g, j * 4 + 1, none⟩ = some (.string l[j].ro) ∧ w.cell? ⟨g, j * 4 + 2, none⟩ = some (.int .i64 l[j].fm) ∧ w.cell? ⟨g, j * 4 + 3, none⟩ = some (.string l[j].nm) := by
  obtain ⟨g, e, _, hc⟩ := rec_get h (by decide) j hj
  exact ⟨g, e, hc 0 (by decide), hc 1 (by decide), hc 2 (by decide), hc 3 (by decide)⟩

set_option maxRecDepth 100000 in
set_option maxHeartbeats 4000000 in
theorem fforget_any (k : Env) (w : World) (R : Assn) (b n nv : Nat) (c : CS) (V : VS) (S : List (Ky × StM)) (a : Option Addr) (cap : Nat) (ys : List Ky) (hl : (ys.length : Int) ≤ 1073741824) (h : Sat k w (Kys (.slice a ys.length cap) ys * (FillR b c n nv V S * R))) :
    Calls Try.prog 27 #[pq b, .slice a ys.length cap] w fun e w' => e = .returned (.int .i64 ys.length) ∧ Sat k w' (Kys (.slice a ys.length cap) ys * (FillR b c n nv V (mdels ys S) * R)) := by
  have h0 : Sat k w (Kys (.slice a ys.length cap) ys * (FillR b c n nv V (mdels (ys.take 0) S) * R)) := h
  clear h
  go_enter Try.func27, Try.ntmps27
  go_wp2_with fail
  go_loopw [6, 9] (fun _ i wr => ∃ j : Nat, j ≤ ys.length ∧ i = .int .i64 j ∧ Sat k wr (Kys (.slice a ys.length cap) ys * (FillR b c n nv V (mdels (ys.take j) S) * R))) (fun _ i _ => ys.length - (intOf i).toNat)
  case atStart => exact ⟨0, Nat.zero_le _, rfl, h0⟩
  case round =>
    clear h0
    obtain ⟨j, hj, rfl, hr⟩ := hrel
    by_cases hlt : j < ys.length
    · have hlt' : (j : Int) < ys.length := by omega
      obtain ⟨g, rfl, e0, e1, e2, e3⟩ := keys_get hr j hlt
      have hsn : ys.take (j + 1) = ys.take j ++ [ys[j]] := by rw [List.take_succ]; simp [hlt]
      have HSN : Hid (mdels (ys.take (j + 1)) S = mdel ys[j] (mdels (ys.take j) S)) := by unfold Hid; rw [hsn, mdels_snoc]
      clear hsn
      generalize ys[j] = y at *
      generalize mdels (ys.take j) S = S1 at *
      have h3 := hr.alloc (.cells #[.string y.db, .string y.ro, .int .i64 y.fm, .string y.nm] 30)
      go_upto_region 4 with fail
      generalize wr.alloc (.cells #[.string y.db, .string y.ro, .int .i64 y.fm, .string y.nm] 30) = w3 at *
      generalize wr.heap.size = o6 at *
      clear e0 e1 e2 e3 hr
      obtain ⟨cb, vb, m, hs⟩ := fi_open h3.get3
      have c2 : w3.cell? ⟨b, 2, none⟩ = some (.map (some m)) := hs.cell 2
      have d0 : w3.cell? ⟨o6, 0, none⟩ = some (.string y.db) := h3.cell 0
      have d1 : w3.cell? ⟨o6, 1, none⟩ = some (.string y.ro) := h3.cell 1
      have d2 : w3.cell? ⟨o6, 2, none⟩ = some (.int .i64 y.fm) := h3.cell 2
      have d3 : w3.cell? ⟨o6, 3, none⟩ = some (.string y.nm) := h3.cell 3
      clear h3
      go_region_held3 (fun w' => w'.cell? ⟨b, 2, none⟩ = some (.map (some m)) ∧ w'.cell? ⟨o6, 0, none⟩ = some (.string y.db) ∧ w'.cell? ⟨o6, 1, none⟩ = some (.string y.ro) ∧ w'.cell? ⟨o6, 2, none⟩ = some (.int .i64 y.fm) ∧ w'.cell? ⟨o6, 3, none⟩ = some (.string y.nm)) (first | exact ⟨c2, d0, d1, d2, d3⟩ | exact ⟨(h4.swap.cell 2).trans rfl, (h4.get6.cell 0).trans rfl, (h4.get6.cell 1).trans rfl, (h4.get6.cell 2).trans rfl, (h4.get6.cell 3).trans rfl⟩ | fail) ((refine step_delete_sat KKey mapSt hs.drew.get4 y (.tmp 16) (.tmp 17) rfl rfl rfl rfl ?_; intro w4 h4))
      rw [sents_del] at h4
      have h5 : Sat k w4 (Kys (.slice (some ⟨g, 0, none⟩) ys.length cap) ys * (FillR b c n nv V (mdels (ys.take (j + 1)) S) * R)) := by
        rw [HSN.out]
        have h6 := h4.get5
        have h7 := stars_del y S1 _ h6
        have h8 := h7.put5.put4
        exact (fi_close (cb := cb) (vb := vb) (m := m) h8 rfl).swap.drop.swap
      go_wp2_with fail
      go_roundw
      case rel => exact ⟨j + 1, by omega, by go_num, h5⟩
      case measure => simp [intOf]; omega
    · have hjl : j = ys.length := by omega
      subst hjl
      rw [List.take_length] at hr
      go_wp2_with fail
      go_ret
      exact ⟨rfl, hr⟩

end Go.Proofs.Ytbeidnddahglbaa
