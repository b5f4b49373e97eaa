/- The law SetsTells: its walk. -/
import Derived.Test.YtkjhfpjjcagecaaSetsV
namespace Go.Proofs.Ytkjhfpjjcagecaa
set_option linter.all false
open Go Go.RowKit

def lightB (l : List Tok) : Bool := decide (l.length ≤ 100) && l.all fun x => decide (x.t.size ≤ 100)
set_option maxRecDepth 100000 in
set_option maxHeartbeats 2000000 in
theorem light7_any (k : Env) (w : World) (R : Assn) (a : Option Addr) (cap : Nat) (l : List Tok) (hr : RdT k R a l) (h : Sat k w R) :
    Calls Try.prog 8 #[.slice a l.length cap] w fun e w' => e = .returned (.bool (lightB l)) ∧ Sat k w' R := by
  obtain ⟨res, hres⟩ : ∃ res, lightB l = res := ⟨_, rfl⟩
  rw [hres]
  by_cases hbig : 100 < l.length
  · have hbig' : (100 : Int) < l.length := by omega
    obtain rfl : res = false := by rw [← hres]; unfold lightB; rw [decide_eq_false (by omega)]; rfl
    clear hres
    go_enter Try.func8, Try.ntmps8
    go_wp2_with fail
    go_ret
    exact ⟨rfl, h⟩
  · have hbig' : ¬ (100 : Int) < l.length := by omega
    have HX : Hid ((l.drop 0).all (fun x => decide (x.t.size ≤ 100)) = res) := by
      unfold Hid; rw [← hres]; unfold lightB; rw [decide_eq_true (by omega)]; rfl
    have HR := Lib.hid hr
    clear hres hr
    go_enter Try.func8, Try.ntmps8
    go_wp2_with fail
    go_loopw [3] (fun s3 wr => ∃ j : Nat, j ≤ l.length ∧ s3 = .int .i64 j ∧ Hid ((l.drop j).all (fun x => decide (x.t.size ≤ 100)) = res) ∧ w = wr) (fun s3 _ => l.length - (intOf s3).toNat)
    case atStart => exact ⟨0, Nat.zero_le _, rfl, HX, rfl⟩
    case round =>
      clear HX
      obtain ⟨j, hj, rfl, HS, rfl⟩ := hrel
      by_cases hlt : j < l.length
      · have hlt' : (j : Int) < l.length := by omega
        obtain ⟨g, o, rfl, c0, c1, c2⟩ := rdt_get HR.out h j hlt
        have HSN : Hid ((l.drop j).all (fun x => decide (x.t.size ≤ 100)) = (decide (l[j].t.size ≤ 100) && (l.drop (j + 1)).all (fun x => decide (x.t.size ≤ 100)))) := by
          unfold Hid; rw [List.drop_eq_getElem_cons hlt]; rfl
        generalize l[j] = x at *
        obtain ⟨xk, xt, xa⟩ := x
        simp only at c0 c1 c2 HSN
        by_cases hx : 100 < xt.size
        · have hx' : (100 : Int) < xt.size := by omega
          obtain rfl : res = false := by rw [← HS.out, HSN.out, decide_eq_false (by omega)]; rfl
          clear HSN HS
          go_wp2_with fail
          go_ret
          exact ⟨rfl, h⟩
        · have hx' : ¬ (100 : Int) < xt.size := by omega
          have HN : Hid ((l.drop (j + 1)).all (fun x => decide (x.t.size ≤ 100)) = res) := by
            unfold Hid; rw [← HS.out, HSN.out, decide_eq_true (by omega)]; rfl
          clear HSN HS
          go_wp2_with fail
          go_roundw
          case rel => exact ⟨j + 1, by omega, by go_num, HN, trivial⟩
          case measure => simp [intOf]; omega
      · obtain rfl : j = l.length := by omega
        obtain rfl : res = true := by rw [← HS.out, List.drop_eq_nil_of_le (Nat.le_refl _)]; rfl
        clear HS
        go_wp2_with fail
        go_ret
        exact ⟨rfl, h⟩
theorem light_wt {l : List Tok} (h : lightB l = true) : wt l ≤ 101 * l.length ∧ l.length ≤ 100 := by
  unfold lightB at h
  rw [Bool.and_eq_true, decide_eq_true_eq, List.all_eq_true] at h
  refine ⟨?_, h.1⟩
  have h2 := h.2
  clear h
  induction l with
  | nil => simp [wt]
  | cons x r ih =>
    have h3 := h2 x (by simp)
    rw [decide_eq_true_eq] at h3
    have := ih fun y hy => h2 y (List.mem_cons_of_mem _ hy)
    rw [wt, List.length_cons]; omega
theorem rdt_news {k : Env} {w : World} {R : Assn} {a : Option Addr} {l : List Tok} (h : RdT k R a l) (hs : Sat k w R) : 0 < l.length → ∃ ad', a = some ad' ∧ ∀ j u, (ETok.recs l)[j]? = some u → w.cell? (ad'.add j) = some u := by
  intro hp
  obtain ⟨g, o, h1, h2⟩ := rdt_at h (by intro e; subst e; cases hp)
  refine ⟨⟨g, o, none⟩, h1, fun j u hu => ?_⟩
  have hl : (ETok.recs l).length = l.length * 3 := by rw [ETok.recs_len]; rfl
  have hj : j < l.length * 3 := by
    have := (List.getElem?_eq_some_iff.1 hu).1
    omega
  have hj3 : j / 3 < l.length := by omega
  obtain ⟨c0, c1, c2⟩ := h2 w hs (j / 3) hj3
  have hg : (ETok.recs l)[j / 3 * 3 + j % 3]? = (tokc l[j / 3])[j % 3]? := ETok.recs_get l (j / 3) (j % 3) hj3 (by show j % 3 < 3; omega)
  have ej : j / 3 * 3 + j % 3 = j := by omega
  rw [ej, hu] at hg
  rw [Addr.add_lit, hg]
  have h3 : j % 3 = 0 ∨ j % 3 = 1 ∨ j % 3 = 2 := by omega
  rcases h3 with q | q | q
  · rw [q, show o + j = o + j / 3 * 3 by omega, c0]; rfl
  · rw [q, show o + j = o + j / 3 * 3 + 1 by omega, c1]; rfl
  · rw [q, show o + j = o + j / 3 * 3 + 2 by omega, c2]; rfl

set_option maxRecDepth 100000 in
set_option maxHeartbeats 4000000 in
theorem walkSetsTells (W : World) (a : Option Addr) (len cap : Nat) (xs : List (List Value)) (z : IsRecs W a len cap 3 okTok xs) :
    Calls Try.prog 3 #[.slice a len cap] W fun e w' => e = .returned (.bool true) ∧ Below W.heap.size W w' := by
  obtain ⟨l, rfl, hlc, hcm, _, hr0⟩ := toks_in z
  have hr := hr0 (World.env W)
  clear z hr0
  have h := Sat.whole W
  have K := Lib.hid (fun w R h => known7_any (World.env W) w R h)
  have L := light7_any (World.env W) W _ a cap l hr h
  cases hl : lightB l with
  | false =>
    rw [hl] at L
    have L1 := Lib.hid L
    clear L hr
    go_enter Try.func3, Try.ntmps3
    go_wp2_with (first | (go_at_call 8; (refine (L1.out).mono ?_); rintro e w1 ⟨rfl, h1⟩) | (go_at_call 9; (refine (K.out _ _ h1).mono ?_); rintro e w2 ⟨rfl, h2⟩))
    go_ret
    exact ⟨rfl, h2.below⟩
  | true =>
    rw [hl] at L
    have L1 := Lib.hid L
    obtain ⟨hw1, hn⟩ := light_wt hl
    have hw : wt l ≤ 20000 := by omega
    clear L hl hw1
    go_enter Try.func3, Try.ntmps3
    go_upto_region 3 with (go_at_call 8; (refine (L1.out).mono ?_); rintro e w1 ⟨rfl, h1⟩)
    have h2 : Sat (World.env W) (w1.alloc (.cells #[] 40)) (Own 40 3 (.slice (some ⟨w1.heap.size, 0, none⟩) 0 0) 0 [] * whole W) := own_mk (h1.alloc _) (Nat.le_refl _) (by simp) (by simp) rfl rfl
    have HLEN : Hid ((ETok.recs l).length = l.length * 3) := by unfold Hid; rw [ETok.recs_len]; rfl
    have NEWS := Lib.hid (rdt_news hr h2.drop)
    have hlc' := Lib.hid hlc
    clear hlc
    go_upto_region 4 with (at_builtin; refine wpList_append_sat TTok h2 (.tmp 8) (.tmp 9) a l.length cap (ETok.recs l) rfl rfl rfl rfl HLEN.out NEWS.out (ETok.recs_ones l) (by unfold maxLen; omega) (by omega) ?_; intro a2 c2 w2 h3)
    rw [Nat.zero_add, List.nil_append] at h3
    have h4 : Sat (World.env W) w2 (Toks (.slice a2 l.length c2) l * whole W) := h3
    have hc2 : l.length ≤ c2 := (rec_cap h4).1
    obtain ⟨B, hB⟩ : ∃ B, B = Toks (.slice a2 l.length c2) l * whole W := ⟨_, rfl⟩
    have RO : RdT (World.env W) B a2 l := by rw [hB]; exact rdt_own h4
    have RL : RdT (World.env W) B a l := hr.mono (by intro w' q; rw [hB] at q; exact q.drop)
    have HW : Hid (∀ w', Sat (World.env W) w' B → Sat (World.env W) w' (whole W)) := by
      intro w' q
      rw [hB] at q
      exact q.drop
    rw [← hB] at h4
    have hT : ∀ x ∈ l, x.t.size ≤ 1000000 := fun x hx => by have := wt_mem hx; omega
    have hlcI := hlc'.out
    have fw := few_of l (by omega)
    have fr := readsL_len l
    have fs := writesS_len l
    have f3 : l.length * (l.length + 1) ≤ 100 * 101 := Nat.mul_le_mul hn (by omega)
    have A1 := Lib.hid (fun w h => reads_any (World.env W) w B a2 c2 l RO (by omega) hT h)
    have A2 := Lib.hid (fun w R' (hm : ∀ w', Sat (World.env W) w' R' → Sat (World.env W) w' B) h => rreads_any (World.env W) w R' a cap l (RL.mono hm) (by omega) hT h)
    have A3 := Lib.hid (fun w h => swrites_any (World.env W) w B a2 c2 l RO (by omega) hT h)
    have A4 := Lib.hid (fun w R' (hm : ∀ w', Sat (World.env W) w' R' → Sat (World.env W) w' B) h => rwrites2_any (World.env W) w R' a cap l (RL.mono hm) (by omega) hT h)
    have A5 := Lib.hid (fun w h => sof_wt (World.env W) w B a2 c2 l RO hc2 hw h)
    have A6 := Lib.hid (fun w R' (hm : ∀ w', Sat (World.env W) w' R' → Sat (World.env W) w' B) h => rof_wt (World.env W) w R' a cap l (RL.mono hm) hlcI hw h)
    have A7 := Lib.hid (fun w h => rsame_any (World.env W) w B a2 a c2 cap l RO RL (by omega) h)
    generalize readsL l = rd at *
    generalize writesS l = wr at *
    generalize ofS l = x at *
    have TX := Lib.hid (fun w (X : List ByteArray) (v1 v2 : Option Addr) (e1 e2 : Nat) (hX : X.length ≤ 2000000000000) (h : Sat (World.env W) w (Strs (.slice v1 X.length e1) X * (Strs (.slice v2 X.length e2) X * B))) => rtexts_any (World.env W) w _ v2 e2 v1 e1 X ((rd_own h.swap).mono fun _ q => q.swap) (rd_own h) hX h)
    have SX := Lib.hid (fun w (v1 v2 u1 u2 : Option Addr) (e1 e2 i1 i2 : Nat) (h : Sat (World.env W) w (Strs (.slice v2 x.rs.length e2) x.rs * (Strs (.slice u2 x.ws.length i2) x.ws * (Strs (.slice v1 x.rs.length e1) x.rs * (Strs (.slice u1 x.ws.length i1) x.ws * B))))) => rsame7_any (World.env W) w _ x.cl v1 u1 v2 u2 e1 i1 e2 i2 x.rs x.ws x.nm ((rd_own h.get3).mono fun _ q => q.get3) ((rd_own h.get4).mono fun _ q => q.get4) (rd_own h) ((rd_own h.swap).mono fun _ q => q.swap) (by have := fw.1; omega) (by have := fw.2; omega) h)
    have hrd : rd.length ≤ 2000000000000 := by omega
    have hwr : wr.length ≤ 2000000000000 := by omega
    clear h h1 h2 h3 L1 NEWS HLEN hB RO RL hT fw fr fs f3 hr hw hcm hc2
    go_wp2_with (first
      | (go_at_call 11; (refine (A1.out _ h4).mono ?_); rintro e x1 ⟨v1, e1, rfl, q1⟩)
      | (go_at_call 12; (refine (A2.out _ _ (fun _ q => q.drop) q1).mono ?_); rintro e x2 ⟨v2, e2, rfl, q2⟩)
      | (go_at_call 13; (refine (A3.out _ q3).mono ?_); rintro e x4 ⟨v4, e4, rfl, q4⟩)
      | (go_at_call 14; (refine (A4.out _ _ (fun _ q => q.drop) q4).mono ?_); rintro e x5 ⟨v5, e5, rfl, q5⟩)
      | (go_at_call 10; (first
        | ((refine (TX.out _ _ _ _ _ _ hwr q5).mono ?_); rintro e x6 ⟨rfl, q6⟩; replace q6 := q6.drop.drop)
        | ((refine (TX.out _ _ _ _ _ _ hrd q2).mono ?_); rintro e x3 ⟨rfl, q3⟩; replace q3 := q3.drop.drop)))
      | (go_at_call 16; (refine (A5.out _ q6).mono ?_); rintro e x7 ⟨v7, rfl, q7⟩; obtain ⟨a7, i7, b7, j7, rfl, q8⟩ := stv_open q7)
      | (go_at_call 17; (refine (A6.out _ _ (fun _ q => q.drop.drop) q8).mono ?_); rintro e x8 ⟨v8, rfl, q9⟩; obtain ⟨a8, i8, b8, j8, rfl, q10⟩ := stv_open q9)
      | (go_at_call 15; (refine (SX.out _ _ _ _ _ _ _ _ _ q10).mono ?_); rintro e x9 ⟨rfl, q11⟩; replace q11 := q11.drop.drop.drop.drop)
      | (go_at_call 18; (refine (A7.out _ q11).mono ?_); rintro e x10 ⟨rfl, q12⟩)
      | (go_at_call 9; (refine (K.out _ _ q12).mono ?_); rintro e x11 ⟨rfl, q13⟩))
    go_ret
    exact ⟨rfl, (HW.out _ q13).below⟩

end Go.Proofs.Ytkjhfpjjcagecaa
