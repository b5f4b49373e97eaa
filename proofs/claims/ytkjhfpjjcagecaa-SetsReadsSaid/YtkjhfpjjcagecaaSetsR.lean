/- The law SetsReads: its walk. -/
import Derived.Test.YtkjhfpjjcagecaaSetsP
import Derived.Below
namespace Go.Proofs.Ytkjhfpjjcagecaa
set_option linter.all false
open Go Go.RowKit

/-- What holds of what is known of a statement. -/
structure OkSt (x : St7) : Prop where
  rr : Rise x.rs
  rw' : Rise x.ws
  nw : x.cl ≠ 2 → x.ws = []
  nr : x.cl ≠ 2 → x.cl ≠ 1 → x.cl ≠ 7 → x.rs = []
  sr : ∀ y ∈ x.rs, y.size ≤ 1000000000
  sw : ∀ y ∈ x.ws, y.size ≤ 1000000000
theorem okSt_no : OkSt noSt := ⟨List.Pairwise.nil, List.Pairwise.nil, fun _ => rfl, fun _ _ _ => rfl, by simp [noSt], by simp [noSt]⟩
theorem okSt_of (l : List Tok) (h : wt l ≤ 20000) : OkSt (ofS l) := by
  have hT : ∀ x ∈ l, x.t.size ≤ 1000000 := fun x hx => by have := wt_mem hx; omega
  refine ⟨?_, ?_, ?_, ?_, ?_, ?_⟩
  · show Rise (ofR l)
    unfold ofR
    split
    · exact sort_rise _
    · exact List.Pairwise.nil
  · show Rise (ofW l)
    unfold ofW
    split
    · exact sort_rise _
    · exact List.Pairwise.nil
  · intro q
    show ofW l = []
    unfold ofW
    exact if_neg q
  · intro q1 q2 q3
    show ofR l = []
    unfold ofR
    refine if_neg ?_
    rintro (q | q | q)
    · exact q1 q
    · exact q2 q
    · exact q3 q
  · intro y hy
    have hy' : y ∈ ofR l := hy
    unfold ofR at hy'
    split at hy'
    · exact rAll_size l hT _ y ((sort_mem _ _).1 hy')
    · cases hy'
  · intro y hy
    have hy' : y ∈ ofW l := hy
    unfold ofW at hy'
    split at hy'
    · exact wAll_size l hT _ y ((sort_mem _ _).1 hy')
    · cases hy'
theorem okSt_par (s : ByteArray) : OkSt (parS s).1 := by
  unfold parS
  split
  · exact okSt_no
  · rename_i l hl
    have hw := scanB_wt hl
    have hp := splitL_wt 4000 l [] [] (by simp only [wt]; omega) (by simp)
    unfold parL
    split
    · exact okSt_of _ (by simp [wt])
    · rename_i x hx
      refine okSt_of x ?_
      have := hp x (by rw [hx]; simp)
      omega
    · exact okSt_no
theorem par_no (s : ByteArray) (h : (parS s).2 ≠ 0) : (parS s).1 = noSt := by
  unfold parS at h ⊢
  split
  · rfl
  · rename_i l hl
    rw [hl] at h
    simp only at h
    unfold parL at h ⊢
    split
    · rename_i q; rw [q] at h; exact absurd rfl h
    · rename_i q; rw [q] at h; exact absurd rfl h
    · rfl
theorem rise_next {l : List ByteArray} (h : Rise l) (i : Nat) (hi : i + 1 < l.length) : ltB (l[i]'(by omega)) l[i + 1] = true := by
  unfold Rise at h
  rw [List.pairwise_iff_getElem] at h
  exact h i (i + 1) (by omega) hi (by omega)

set_option maxRecDepth 100000 in
set_option maxHeartbeats 4000000 in
theorem walkSetsReads (W : World) (s : ByteArray) (_w : s.size ≤ 140737488351232) :
    Calls Try.prog 5 #[.string s] W fun e w' => e = .returned (.bool true) ∧ Below W.heap.size W w' := by
  have h := Sat.whole W
  have K := Lib.hid (fun w R h => known7_any (World.env W) w R h)
  by_cases hbig : 2100 < s.size
  · have hbig' : (2100 : Int) < s.size := by omega
    go_enter Try.func5, Try.ntmps5
    go_wp2_with (go_at_call 9; (refine (K.out _ _ h).mono ?_); rintro e w1 ⟨rfl, h1⟩)
    go_ret
    exact ⟨rfl, h1.below⟩
  · have hbig' : ¬ (2100 : Int) < s.size := by omega
    have D := sparse_any (World.env W) W _ s (by omega) h
    have ok := okSt_par s
    have hno := par_no s
    obtain ⟨res, hres⟩ : ∃ res, parS s = res := ⟨_, rfl⟩
    rw [hres] at D ok hno
    obtain ⟨⟨cl, rs, ws, nm⟩, er⟩ := res
    have HD := Lib.hid D
    clear D hbig
    go_enter Try.func5, Try.ntmps5
    go_upto_region 4 with (go_at_call 19; (refine (HD.out).mono ?_); rintro e w1 ⟨v, rfl, h1⟩; obtain ⟨a, c, b, d, rfl, h2⟩ := stv_open h1)
    have h3 := h2.alloc (.cells #[.int .i64 cl, .slice a rs.length c, .slice b ws.length d, .string nm] 30)
    generalize (w1.alloc (.cells #[.int .i64 cl, .slice a rs.length c, .slice b ws.length d, .string nm] 30)) = w2 at *
    generalize w1.heap.size = o at *
    have fw := few_par s
    rw [hres] at fw
    have RA : Rd (World.env W) (blk o (.cells #[.int .i64 cl, .slice a rs.length c, .slice b ws.length d, .string nm] 30) * (Strs (.slice a rs.length c) rs * (Strs (.slice b ws.length d) ws * whole W))) a rs := (rd_own h3.swap).mono fun _ q => q.swap
    have RB : Rd (World.env W) (blk o (.cells #[.int .i64 cl, .slice a rs.length c, .slice b ws.length d, .string nm] 30) * (Strs (.slice a rs.length c) rs * (Strs (.slice b ws.length d) ws * whole W))) b ws := (rd_own h3.get3).mono fun _ q => q.get3
    have HC : Hid (∀ {w' : World}, Sat (World.env W) w' (blk o (.cells #[.int .i64 cl, .slice a rs.length c, .slice b ws.length d, .string nm] 30) * (Strs (.slice a rs.length c) rs * (Strs (.slice b ws.length d) ws * whole W))) → w'.cell? ⟨o, 0, none⟩ = some (.int .i64 cl) ∧ w'.cell? ⟨o, 1, none⟩ = some (.slice a rs.length c) ∧ w'.cell? ⟨o, 2, none⟩ = some (.slice b ws.length d) ∧ w'.cell? ⟨o, 3, none⟩ = some (.string nm)) := by
      unfold Hid
      intro w' q
      exact ⟨q.cell 0, q.cell 1, q.cell 2, q.cell 3⟩
    have HW : Hid (∀ {w' : World}, Sat (World.env W) w' (blk o (.cells #[.int .i64 cl, .slice a rs.length c, .slice b ws.length d, .string nm] 30) * (Strs (.slice a rs.length c) rs * (Strs (.slice b ws.length d) ws * whole W))) → Sat (World.env W) w' (whole W)) := by
      unfold Hid
      intro w' q
      exact q.drop.drop.drop
    obtain ⟨Pz, hP⟩ : ∃ Pz, Pz = (blk o (.cells #[.int .i64 cl, .slice a rs.length c, .slice b ws.length d, .string nm] 30) * (Strs (.slice a rs.length c) rs * (Strs (.slice b ws.length d) ws * whole W))) := ⟨_, rfl⟩
    rw [← hP] at h3 RA RB HC HW
    clear h h1 h2 HD hP hres
    by_cases he : er = 0
    · subst he
      clear hno
      have fw1 : rs.length ≤ 500000000 := fw.1
      have fw2 : ws.length ≤ 500000000 := fw.2
      clear fw
      have HOK := Lib.hid ok
      clear ok
      have HS0 := h3
      obtain ⟨d0, d1, d2, d3⟩ := HC.out h3
      go_upto_region 6 with fail
      go_wp2_with fail
      clear h3 d0 d1 d2 d3
      go_loopw [5] (fun s5 wr => ∃ j : Nat, 1 ≤ j ∧ j ≤ rs.length + 1 ∧ s5 = .int .i64 j ∧ Sat (World.env W) wr Pz) (fun s5 _ => rs.length + 1 - (intOf s5).toNat)
      case atStart => exact ⟨1, Nat.le_refl _, by omega, rfl, by assumption⟩
      case round =>
        clear HS0
        obtain ⟨j, hj1, hj2, rfl, hs⟩ := hrel
        by_cases hlt : j < rs.length
        · have hlt' : (j : Int) < rs.length := by omega
          obtain ⟨i1, hi1⟩ : ∃ i1, j = i1 + 1 := ⟨j - 1, by omega⟩
          have hwm : IntKind.i64.wrap ((j : Int) - 1) = i1 := by rw [IntWalk.i64_in _ (by omega)]; omega
          have hi1' : (i1 : Int) < rs.length := by omega
          obtain ⟨g, og, hg, hgc⟩ := RA
          obtain rfl := hg (by rintro rfl; cases hlt)
          have hlt2 : ltB (rs[i1]'(by omega)) rs[j] = true := by subst hi1; exact rise_next HOK.out.rr i1 hlt
          have HDD : Hid (∀ {w' : World}, Sat (World.env W) w' Pz → w'.cell? ⟨o, 1, none⟩ = some (.slice (some ⟨g, og, none⟩) rs.length c) ∧ w'.cell? ⟨g, og + i1, none⟩ = some (.string (rs[i1]'(by omega))) ∧ w'.cell? ⟨g, og + j, none⟩ = some (.string rs[j])) := by
            unfold Hid
            intro w' q
            exact ⟨(HC.out q).2.1, hgc w' q i1 (by omega), hgc w' q j hlt⟩
          have CL := Lib.hid (fun w' q => rless_any (World.env W) w' Pz (rs[i1]'(by omega)) rs[j] (HOK.out.sr _ (List.getElem_mem _)) (HOK.out.sr _ (List.getElem_mem _)) q)
          rw [hlt2] at CL
          generalize rs[i1] = x at *
          generalize rs[j] = y at *
          obtain ⟨d0, d1, d2, d3⟩ := HC.out hs
          have HI := Lib.hid hi1
          have HL := Lib.hid hlt
          clear hlt2 hi1 hlt hgc hg
          go_wp2_with fail
          go_region_held3 (fun w' => w'.cell? ⟨o, 1, none⟩ = some (.slice (some ⟨g, og, none⟩) rs.length c) ∧ w'.cell? ⟨g, og + i1, none⟩ = some (.string x) ∧ w'.cell? ⟨g, og + j, none⟩ = some (.string y)) (first | exact HDD.out (by assumption) | fail) (first | (go_at_call 23; (with_reducible refine (CL.out _ (by first | assumption | exact Sat.drew (by assumption))).mono ?_); rintro e w' ⟨rfl, hq⟩) | fail)
          go_wp2_with fail
          go_roundw
          case rel => exact ⟨j + 1, by omega, by have := HL.out; omega, by go_num, by assumption⟩
          case measure => have := HL.out; simp [intOf]; omega
        · have hlt' : ¬ (j : Int) < rs.length := by omega
          obtain ⟨d0, d1, d2, d3⟩ := HC.out hs
          have HS0 := hs
          go_upto_region 11 with fail
          go_wp2_with fail
          go_loopw [6] (fun s5 wr => ∃ j : Nat, 1 ≤ j ∧ j ≤ ws.length + 1 ∧ s5 = .int .i64 j ∧ Sat (World.env W) wr Pz) (fun s5 _ => ws.length + 1 - (intOf s5).toNat)
          case atStart => exact ⟨1, Nat.le_refl _, by omega, rfl, by assumption⟩
          case round =>
            clear HS0
            obtain ⟨j, hj1, hj2, rfl, hs⟩ := hrel
            by_cases hlt : j < ws.length
            · have hlt' : (j : Int) < ws.length := by omega
              obtain ⟨i1, hi1⟩ : ∃ i1, j = i1 + 1 := ⟨j - 1, by omega⟩
              have hwm : IntKind.i64.wrap ((j : Int) - 1) = i1 := by rw [IntWalk.i64_in _ (by omega)]; omega
              have hi1' : (i1 : Int) < ws.length := by omega
              obtain ⟨g, og, hg, hgc⟩ := RB
              obtain rfl := hg (by rintro rfl; cases hlt)
              have hlt2 : ltB (ws[i1]'(by omega)) ws[j] = true := by subst hi1; exact rise_next HOK.out.rw' i1 hlt
              have HDD : Hid (∀ {w' : World}, Sat (World.env W) w' Pz → w'.cell? ⟨o, 2, none⟩ = some (.slice (some ⟨g, og, none⟩) ws.length d) ∧ w'.cell? ⟨g, og + i1, none⟩ = some (.string (ws[i1]'(by omega))) ∧ w'.cell? ⟨g, og + j, none⟩ = some (.string ws[j])) := by
                unfold Hid
                intro w' q
                exact ⟨(HC.out q).2.2.1, hgc w' q i1 (by omega), hgc w' q j hlt⟩
              have CL := Lib.hid (fun w' q => rless_any (World.env W) w' Pz (ws[i1]'(by omega)) ws[j] (HOK.out.sw _ (List.getElem_mem _)) (HOK.out.sw _ (List.getElem_mem _)) q)
              rw [hlt2] at CL
              generalize ws[i1] = x at *
              generalize ws[j] = y at *
              obtain ⟨d0, d1, d2, d3⟩ := HC.out hs
              have HI := Lib.hid hi1
              have HL := Lib.hid hlt
              clear hlt2 hi1 hlt hgc hg
              go_wp2_with fail
              go_region_held3 (fun w' => w'.cell? ⟨o, 2, none⟩ = some (.slice (some ⟨g, og, none⟩) ws.length d) ∧ w'.cell? ⟨g, og + i1, none⟩ = some (.string x) ∧ w'.cell? ⟨g, og + j, none⟩ = some (.string y)) (first | exact HDD.out (by assumption) | fail) (first | (go_at_call 23; (with_reducible refine (CL.out _ (by first | assumption | exact Sat.drew (by assumption))).mono ?_); rintro e w' ⟨rfl, hq⟩) | fail)
              go_wp2_with fail
              go_roundw
              case rel => exact ⟨j + 1, by omega, by have := HL.out; omega, by go_num, by assumption⟩
              case measure => have := HL.out; simp [intOf]; omega
            · have hlt' : ¬ (j : Int) < ws.length := by omega
              obtain ⟨d0, d1, d2, d3⟩ := HC.out hs
              have HS1 := hs
              clear RA RB hlt hs
              by_cases k2 : cl = 2
              · subst k2
                clear HOK
                go_wp2_with (go_at_call 9; (refine (K.out _ _ HS1).mono ?_); rintro e w3 ⟨rfl, h4⟩)
                go_ret
                exact ⟨rfl, (HW.out h4).below⟩
              · have hw : ws = [] := HOK.out.nw k2
                by_cases k17 : cl = 1 ∨ cl = 7
                · subst hw
                  clear HOK
                  rcases k17 with rfl | rfl
                  all_goals
                    clear k2
                    go_wp2_with (go_at_call 9; (refine (K.out _ _ HS1).mono ?_); rintro e w3 ⟨rfl, h4⟩)
                    go_ret
                    exact ⟨rfl, (HW.out h4).below⟩
                · have hr : rs = [] := HOK.out.nr k2 (fun q => k17 (.inl q)) (fun q => k17 (.inr q))
                  subst hw hr
                  have b1 : (cl == 1) = false := by simp; omega
                  have b1' : (cl != 1) = true := by rw [bne, b1]; rfl
                  have b2 : (cl == 2) = false := by simp; omega
                  have b7 : (cl == 7) = false := by simp; omega
                  clear HOK k2 k17
                  go_wp2_with (go_at_call 9; (refine (K.out _ _ HS1).mono ?_); rintro e w3 ⟨rfl, h4⟩)
                  go_ret
                  exact ⟨rfl, (HW.out h4).below⟩
    · have he1 : (er == 0) = false := by simp [he]
      have he2 : (er != 0) = true := by rw [bne, he1]; rfl
      have hx := hno he
      obtain ⟨rfl, rfl, rfl, rfl⟩ : cl = 0 ∧ rs = [] ∧ ws = [] ∧ nm = ⟨#[]⟩ := by injection hx with a b c d; exact ⟨a, b, c, d⟩
      obtain ⟨d0, d1, d2, d3⟩ := HC.out h3
      have hz := noTl
      clear ok hno hx he HC
      go_wp2_with (go_at_call 9; (refine (K.out _ _ h3).mono ?_); rintro e w3 ⟨rfl, h4⟩)
      go_ret
      exact ⟨rfl, (HW.out h4).below⟩

end Go.Proofs.Ytkjhfpjjcagecaa
