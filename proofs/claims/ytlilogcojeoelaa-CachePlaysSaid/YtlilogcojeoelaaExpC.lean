/- Contracts of package expiry: remove. -/
import Derived.Test.YtlilogcojeoelaaExpB
import Derived.Deep.DeepCutAuto
namespace Go.Proofs.Ytlilogcojeoelaa
set_option linter.all false
open Go Go.RowKit

theorem PlOK.cut {H : List It} {P : List (ByteArray × Int)} (h : PlOK H P) (h0 : 0 < H.length) (hn : (P.map (·.1)).Nodup) : PlOK H.dropLast (mdel (hat H (H.length - 1)).k P) := by
  intro a v
  rw [mget_del _ _ _ hn]
  by_cases e : (hat H (H.length - 1)).k = a
  · rw [if_pos e]
    constructor
    · intro q; cases q
    · rintro ⟨j, hj, rfl, q⟩
      rw [List.length_dropLast] at hj
      rw [hat_dropLast hj] at q
      have := h.inj (i := j) (j := H.length - 1) (by omega) (by omega) (q.trans e.symm)
      omega
  · rw [if_neg e, h a v]
    constructor
    · rintro ⟨j, hj, rfl, q⟩
      have hne : j ≠ H.length - 1 := by rintro rfl; exact e q
      exact ⟨j, by rw [List.length_dropLast]; omega, rfl, by rw [hat_dropLast (by omega)]; exact q⟩
    · rintro ⟨j, hj, rfl, q⟩
      rw [List.length_dropLast] at hj
      rw [hat_dropLast hj] at q
      exact ⟨j, by omega, rfl, q⟩

theorem plv_keys (P : List (ByteArray × Int)) : (plv P).map (·.1) = P.map (·.1) := by simp [plv, Function.comp_def]

def itV (x : It) : Value := .agg #[.string x.k, .int .i64 x.at_, .int .i64 x.num]

set_option maxRecDepth 100000 in
set_option maxHeartbeats 2000000 in
theorem qremove_any (k : Env) (w : World) (R : Assn) (b : Nat) (H : List It) (s : Int) (i : Nat) (hh : HeapOK H) (hi : i < H.length) (hl : (H.length : Int) ≤ 1073741824) (h : Sat k w (QueueR b H s * R)) :
    Calls Try.prog 89 #[.pointer (some ⟨b, 0, none⟩), .int .i64 i] w fun e w' => e = .returned (itV (hat H i)) ∧ ∃ H', HeapOK H' ∧ (hat H i :: H').Perm H ∧ Sat k w' (QueueR b H' s * R) := by
  have HPM := Lib.hid (cutL_perm hi)
  have HH := Lib.hid hh
  have hcl := cutL_len H i
  have hHC : Hid ((swapL H i (H.length - 1)).dropLast = cutL H i) := rfl
  have hHK : Hid (hat (swapL H i (H.length - 1)) (H.length - 1) = hat H i) := by unfold Hid; rw [hat_swap hi (by omega), if_pos rfl]
  go_enter Try.func89, Try.ntmps89
  go_upto_region 1 with fail
  have hz := (h.alloc (.cells #[.string ⟨#[]⟩, .int .i64 0, .int .i64 0] 137)).swap
  generalize w.alloc (.cells #[.string ⟨#[]⟩, .int .i64 0, .int .i64 0] 137) = w0 at *
  generalize w.heap.size = o4 at *
  have hq := (hz.alloc (.cells (itc (hat H i)).toArray 137)).swap
  obtain ⟨P, hp, hc⟩ := queue_open hz
  obtain ⟨a, c, m, hs⟩ := qc_open hc
  obtain ⟨g, rfl⟩ := it_addr hs.swap hi
  obtain ⟨hg, d0, d1, d2, hf⟩ := it_cells hs.swap hi rfl
  have c0 : w0.cell? ⟨b, 0, none⟩ = some (.slice (some ⟨g, 0, none⟩) H.length c) := hs.cell 0
  obtain ⟨n, hn⟩ : ∃ n : Nat, H.length = n + 1 := ⟨H.length - 1, by omega⟩
  have hx : Hid (hat H i = ⟨(hat H i).k, (hat H i).at_, (hat H i).num⟩) := rfl
  have SW := Lib.hid (fun w' R' => qswap_any k w' R' b H s i n hi (by omega))
  rw [show H.length - 1 = n by omega] at hHC hHK
  simp only [itc] at hq
  generalize hHI : hat H i = x at *
  obtain ⟨xk, xa, xn⟩ := x
  have HX := Lib.hid hHI
  clear hHI
  simp only at d0 d1 d2 hq
  have hnn : ((n + 1 : Nat) : Int) - 1 = n := by omega
  have hsl := swapL_len H i n
  generalize hS2 : swapL H i n = S2 at *
  go_upto_region 2 with fail
  generalize w0.alloc (.cells #[.string xk, .int .i64 xa, .int .i64 xn] 137) = w1 at *
  generalize w0.heap.size = o5 at *
  clear c0
  obtain ⟨P1, _, hc1⟩ := queue_open hq
  obtain ⟨a1, c1, m1, hs1⟩ := qc_open hc1
  have c0 : w1.cell? ⟨b, 0, none⟩ = some (.slice a1 H.length c1) := hs1.cell 0
  rw [hn] at c0
  clear hs1 hc1
  go_wp2_with fail
  clear d0 d1 d2 hf c0 hs hc hp hg
  refine (SW.out w1 _ hq).mono ?_
  rintro e w2 ⟨rfl, h2⟩
  obtain ⟨P2, hp2, hc2⟩ := queue_open h2
  obtain ⟨a2, c2, m2, hs2⟩ := qc_open hc2
  have hn2 := map_nodup hs2.get3
  rw [plv_keys] at hn2
  have hl2 : S2.length = n + 1 := by omega
  obtain ⟨g2, rfl⟩ := it_addr hs2.swap (show i < S2.length by omega)
  have hcap := own_cap hs2.swap
  have hsub := (own_sub (m := n) (c := c2) hs2.swap (by omega) (by omega) (Nat.le_refl _) (by omega)).swap
  have h3 := hsub.set 0 (.slice (some ⟨g2, 0, none⟩) n c2)
  rw [hl2] at hs2
  have c0 : w2.cell? ⟨b, 0, none⟩ = some (.slice (some ⟨g2, 0, none⟩) (n + 1) c2) := hs2.cell 0
  have f0 := hs2.frozen 0
  have hPC := Lib.hid (PlOK.cut hp2 (by omega) hn2)
  rw [show S2.length - 1 = n by omega, hHK.out, hHC.out] at hPC
  clear hsub hp2 hc2 hn2 h2 hq
  have hnc : (n : Int) ≤ c2 := by omega
  go_wp2_with fail
  generalize w2.setCell ⟨b, 0, none⟩ (.slice (some ⟨g2, 0, none⟩) n c2) = w3 at *
  clear c0 f0 hs2
  have c1 : w3.cell? ⟨b, 1, none⟩ = some (.map (some m2)) := h3.cell 1
  have e0 : w3.cell? ⟨o5, 0, none⟩ = some (.string xk) := h3.get4.cell 0
  go_region_held3 (fun w' => w'.cell? ⟨b, 1, none⟩ = some (.map (some m2)) ∧ w'.cell? ⟨o5, 0, none⟩ = some (.string xk)) (first | exact ⟨c1, e0⟩ | exact ⟨(h4.swap.cell 1).trans rfl, (h4.get4.cell 0).trans rfl⟩ | fail) ((refine step_delete_sat KStr mapT h3.drew.get3 xk (.tmp 36) (.tmp 38) rfl rfl rfl rfl ?_; intro w4 h4))
  rw [plv_del] at h4
  have h5 : Sat k w4 (QueueR b (cutL H i) s * (blk o5 (.cells #[.string xk, .int .i64 xa, .int .i64 xn] 137) * (blk o4 (.cells #[.string ⟨#[]⟩, .int .i64 0, .int .i64 0] 137) * R))) :=
    queue_close (qc_close h4.put3 rfl (by omega) (by rw [show n * 3 = n * EIt.n from rfl, EIt.recs_take, ← hHC.out, List.dropLast_eq_take, hl2]; rfl) rfl) hPC.out
  clear h3 h4 c1 e0
  by_cases hin : i < n
  · have hdn := Lib.hid (HH.out.cut (i := i) (by omega))
    go_wp2_with (first | (go_at_call 94; refine (qdown_any k w4 _ b (cutL H i) s i hdn.out (by omega) h5).mono ?_; rintro e w5 ⟨rfl, H5, hu5, hp5, h6⟩; have HU5 := Lib.hid hu5; have HP5 := Lib.hid hp5; clear hu5 hp5) | (go_at_call 80; refine (qup_any k w5 _ b H5 s i HU5.out (by have := HP5.out.length_eq; omega) h6).mono ?_; rintro e w6 ⟨rfl, H6, hh6, hp6, h7⟩; have HH6 := Lib.hid hh6; have HP6 := Lib.hid hp6; clear hh6 hp6; have e0 : w6.cell? ⟨o5, 0, none⟩ = some (.string xk) := h7.swap.cell 0; have e1 : w6.cell? ⟨o5, 1, none⟩ = some (.int .i64 xa) := h7.swap.cell 1; have e2 : w6.cell? ⟨o5, 2, none⟩ = some (.int .i64 xn) := h7.swap.cell 2; have g0 : w6.cell? ⟨o4, 0, none⟩ = some (.string ⟨#[]⟩) := h7.get3.cell 0; have g1 : w6.cell? ⟨o4, 1, none⟩ = some (.int .i64 0) := h7.get3.cell 1; have g2 : w6.cell? ⟨o4, 2, none⟩ = some (.int .i64 0) := h7.get3.cell 2; have gf := h7.get3.frozen))
    refine bodyPost_ret (v := itV ⟨xk, xa, xn⟩) (by simp [results, Try.results89, go_sem, e0, e1, e2, g0, g1, g2, itV]) rfl ?_
    rw [HX.out]
    exact ⟨rfl, H6, HH6.out, ((HP6.out.trans HP5.out).cons _).trans HPM.out, (((h7.get3.set 0 _).set 1 _).set 2 _).drop.swap.drop⟩
  · have hin' : i = n := by omega
    have hdn := Lib.hid (HH.out.cut_last (i := i) (by omega) (by omega))
    have e0 : w4.cell? ⟨o5, 0, none⟩ = some (.string xk) := h5.swap.cell 0
    have e1 : w4.cell? ⟨o5, 1, none⟩ = some (.int .i64 xa) := h5.swap.cell 1
    have e2 : w4.cell? ⟨o5, 2, none⟩ = some (.int .i64 xn) := h5.swap.cell 2
    have g0 : w4.cell? ⟨o4, 0, none⟩ = some (.string ⟨#[]⟩) := h5.get3.cell 0
    have g1 : w4.cell? ⟨o4, 1, none⟩ = some (.int .i64 0) := h5.get3.cell 1
    have g2 : w4.cell? ⟨o4, 2, none⟩ = some (.int .i64 0) := h5.get3.cell 2
    have gf := h5.get3.frozen
    go_wp2_with fail
    refine bodyPost_ret (v := itV ⟨xk, xa, xn⟩) (by simp [results, Try.results89, go_sem, e0, e1, e2, g0, g1, g2, itV]) rfl ?_
    rw [HX.out]
    exact ⟨rfl, _, hdn.out, HPM.out, (((h5.get3.set 0 _).set 1 _).set 2 _).drop.swap.drop⟩

end Go.Proofs.Ytlilogcojeoelaa
