/- Several texts in one: StRt, StRu, StRv. -/
import Derived.Test.YtoeepbjnbgpmpaaSG
namespace Go.Proofs.Ytoeepbjnbgpmpaa
set_option linter.all false
open Go Go.RowKit

theorem pairwise_take {α : Type} {r : α → α → Prop} (tr : ∀ a b c, r a b → r b c → r a c) (l : List α) (j : Nat) (h : j < l.length) : (l.take (j + 1)).Pairwise r ↔ (l.take j).Pairwise r ∧ (j = 0 ∨ ∃ p, l[j - 1]? = some p ∧ r p l[j]) := by
  rw [List.take_succ_eq_append_getElem h, List.pairwise_append]
  constructor
  · rintro ⟨h1, _, h2⟩
    refine ⟨h1, ?_⟩
    rcases Nat.eq_zero_or_pos j with q | q
    · exact .inl q
    · right
      refine ⟨l[j - 1], List.getElem?_eq_getElem (by omega), h2 _ ?_ _ (by simp)⟩
      rw [List.mem_take_iff_getElem]
      exact ⟨j - 1, by omega, rfl⟩
  · rintro ⟨h1, h2⟩
    refine ⟨h1, List.pairwise_singleton _ _, fun a ha b hb => ?_⟩
    rw [List.mem_singleton] at hb
    subst hb
    rcases h2 with rfl | ⟨p, hp, hr⟩
    · simp at ha
    · obtain ⟨m, hm, rfl⟩ := List.mem_take_iff_getElem.1 ha
      obtain ⟨hp1, hp2⟩ := List.getElem?_eq_some_iff.1 hp
      by_cases e : m = j - 1
      · subst e; rw [hp2]; exact hr
      · refine tr _ p _ ?_ hr
        rw [← hp2]
        have hw := List.pairwise_iff_getElem.1 h1 m (j - 1) (by rw [List.length_take]; omega) (by rw [List.length_take]; omega) (by omega)
        simpa using hw
def inP (y : Rw2) : Prop := (0 ≤ y.1 ∧ y.1 ≤ 999999) ∧ 0 ≤ y.2 ∧ y.2 ≤ 999999
def RowsP (l : List Rw2) : Prop := RiseR l ∧ ∀ y ∈ l, inP y
theorem rowsP_take (l : List Rw2) (j : Nat) (h : j < l.length) : RowsP (l.take (j + 1)) ↔ RowsP (l.take j) ∧ inP l[j] ∧ (j = 0 ∨ ∃ p, l[j - 1]? = some p ∧ p.1 < l[j].1) := by
  unfold RowsP RiseR
  rw [pairwise_take (r := fun a b : Rw2 => a.1 < b.1) (fun a b c h1 h2 => Int.lt_trans h1 h2) l j h, List.take_succ_eq_append_getElem h]
  simp only [List.mem_append, List.mem_singleton]
  constructor
  · rintro ⟨⟨h1, h2⟩, h3⟩
    exact ⟨⟨h1, fun y hy => h3 y (.inl hy)⟩, h3 _ (.inr rfl), h2⟩
  · rintro ⟨⟨h1, h2⟩, h3, h4⟩
    exact ⟨⟨h1, h4⟩, fun y hy => hy.elim (h2 y) (fun e => e ▸ h3)⟩
theorem rowsP_pre {l : List Rw2} (h : RowsP l) (j : Nat) : RowsP (l.take j) :=
  ⟨List.Pairwise.sublist (List.take_sublist _ _) h.1, fun y hy => h.2 y (List.mem_of_mem_take hy)⟩
def TabP (t : Tb) : Prop := (1 ≤ t.1.size ∧ t.1.size ≤ 30) ∧ t.2.length ≤ 64 ∧ RowsP t.2
def ltT (a b : Tb) : Prop := ltB a.1 b.1 = true
theorem ltT_trans (a b c : Tb) (h1 : ltT a b) (h2 : ltT b c) : ltT a c := bless_trans _ _ _ h1 h2
def TabsP (S : List Tb) : Prop := S.Pairwise ltT ∧ ∀ t ∈ S, TabP t
theorem tabsP_take (l : List Tb) (j : Nat) (h : j < l.length) : TabsP (l.take (j + 1)) ↔ TabsP (l.take j) ∧ TabP l[j] ∧ (j = 0 ∨ ∃ p, l[j - 1]? = some p ∧ ltT p l[j]) := by
  unfold TabsP
  rw [pairwise_take ltT_trans l j h, List.take_succ_eq_append_getElem h]
  simp only [List.mem_append, List.mem_singleton]
  constructor
  · rintro ⟨⟨h1, h2⟩, h3⟩
    exact ⟨⟨h1, fun y hy => h3 y (.inl hy)⟩, h3 _ (.inr rfl), h2⟩
  · rintro ⟨⟨h1, h2⟩, h3, h4⟩
    exact ⟨⟨h1, h4⟩, fun y hy => hy.elim (h2 y) (fun e => e ▸ h3)⟩
theorem tabsP_pre {l : List Tb} (h : TabsP l) (j : Nat) : TabsP (l.take j) :=
  ⟨List.Pairwise.sublist (List.take_sublist _ _) h.1, fun y hy => h.2 y (List.mem_of_mem_take hy)⟩
/-- A state that can be. -/
def RightP (S : List Tb) : Prop := S.length ≤ 16 ∧ TabsP S
noncomputable def rightB (S : List Tb) : Bool := @decide (RightP S) (Classical.propDecidable _)
theorem rightB_true {S : List Tb} (h : RightP S) : rightB S = true := by unfold rightB; exact @decide_eq_true _ (Classical.propDecidable _) h
theorem rightB_false {S : List Tb} (h : ¬ RightP S) : rightB S = false := by unfold rightB; exact @decide_eq_false _ (Classical.propDecidable _) h
theorem rightB_iff (S : List Tb) : rightB S = true ↔ RightP S := by unfold rightB; exact @decide_eq_true_iff _ (Classical.propDecidable _)
theorem rightP_ok {S : List Tb} (h : RightP S) : okT S := ⟨h.1, fun t ht => by
  obtain ⟨h1, h2, h3⟩ := h.2.2 t ht
  exact ⟨h1.2, h2, h3.1, fun y hy => (h3.2 y hy).2⟩⟩
theorem inB_iff (n : Int) : inB n = true ↔ 0 ≤ n ∧ n ≤ 999999 := by unfold inB; simp

theorem no_of_row {S : List Tb} {t : Tb} {j : Nat} (ht : t ∈ S) (h : ¬ RowsP (t.2.take j)) : ¬ RightP S := fun q => h (rowsP_pre (q.2.2 t ht).2.2 j)
theorem no_of_tab {S : List Tb} {j : Nat} (h : ¬ TabsP (S.take j)) : ¬ RightP S := fun q => h (tabsP_pre q.2 j)

end Go.Proofs.Ytoeepbjnbgpmpaa

namespace Go.Proofs.Ytoeepbjnbgpmpaa
set_option linter.all false
open Go Go.RowKit

/-- What of a table is looked at ahead of its rows. -/
def HeadP (S : List Tb) (i : Nat) (pn : ByteArray) (n : Nat) : Prop := (1 ≤ pn.size ∧ pn.size ≤ 30) ∧ (i = 0 ∨ ∃ q, S[i - 1]? = some q ∧ ltB q.1 pn = true) ∧ n ≤ 64
def NoP (t : Bool) (p : Prop) : Prop := t = true ↔ ¬ p
theorem noP_t {p : Prop} (h : ¬ p) : NoP true p := ⟨fun _ => h, fun _ => rfl⟩
theorem noP_f {p : Prop} (h : p) : NoP false p := ⟨fun e => (by cases e), fun q => absurd h q⟩
def RowOk (l : List Rw2) (j : Nat) (y : Rw2) : Prop := inP y ∧ (j = 0 ∨ ∃ p, l[j - 1]? = some p ∧ p.1 < y.1)



set_option maxRecDepth 100000 in
set_option maxHeartbeats 8000000 in
theorem sright_any (k : Env) (w : World) (R : Assn) (a : Option Addr) (c : Nat) (P : List TbM) (hr : RdS k R a P) (hn : P.length ≤ 1000000) (hrows : ∀ p ∈ P, p.rows.length ≤ 1000000) (h : Sat k w R) :
    Calls Try.prog 15 #[.slice a P.length c] w fun e w' => e = .returned (.bool (rightB (pairs P))) ∧ Sat k w' R := by
  obtain ⟨res, hres⟩ : ∃ res, rightB (pairs P) = res := ⟨_, rfl⟩
  rw [hres]
  have HRES := Lib.hid hres
  have HR := Lib.hid hr
  have HRW := Lib.hid hrows
  clear hres hr hrows
  go_enter Try.func15, Try.ntmps15
  go_wp2_with fail
  go_loopw [9] (fun s9 wr => ∃ i : Nat, i ≤ P.length ∧ s9 = .int .i64 i ∧ Hid (TabsP ((pairs P).take i)) ∧ Sat k wr R) (fun s9 _ => P.length - (intOf s9).toNat)
  case atStart => exact ⟨0, Nat.zero_le _, rfl, ⟨by simp, by simp⟩, h⟩
  case round =>
    clear h
    obtain ⟨i, hi, rfl, HS, hs⟩ := hrel
    by_cases hlt : i < P.length
    · have hlt' : (i : Int) < P.length := by omega
      obtain ⟨g, o, rfl, hg⟩ := rds_at HR.out (by rintro rfl; cases hlt)
      have HG : Hid (∀ {w' : World} {m : Nat} (hm : m < P.length), Sat k w' R → (w'.cell? ⟨g, o + m * 2, none⟩ = some (.string P[m].nm) ∧ w'.cell? ⟨g, o + m * 2 + 1, none⟩ = some (.slice P[m].a P[m].rows.length P[m].c))) := by
        unfold Hid
        intro w' m hm q
        exact hg w' q m hm
      obtain ⟨c0, c1⟩ := HG.out hlt hs
      have R1 := Lib.hid (HR.out.2 _ (List.getElem_mem hlt))
      have hrl := HRW.out _ (List.getElem_mem hlt)
      have HPI := Lib.hid (pairs_get hlt)
      obtain ⟨qn, qr, hq⟩ : ∃ qn qr, i = 0 ∨ ((pairs P)[i - 1]? = some (qn, qr) ∧ ∀ w', Sat k w' R → w'.cell? ⟨g, o + (i - 1) * 2, none⟩ = some (.string qn)) := by
        rcases Nat.eq_zero_or_pos i with rfl | hp
        · exact ⟨ByteArray.empty, [], .inl rfl⟩
        · have hm : i - 1 < P.length := by omega
          exact ⟨_, _, .inr ⟨pairs_get hm, fun w' q => (HG.out hm q).1⟩⟩
      clear hg
      generalize P[i] = p at *
      obtain ⟨pn, pa, pc, pr⟩ := p
      simp only at c0 c1 R1 hrl HPI
      have h4 := hs.alloc (.cells #[.string pn, .slice pa pr.length pc] 43)
      go_upto_region 4 with fail
      generalize wr.alloc (.cells #[.string pn, .slice pa pr.length pc] 43) = w4 at *
      generalize wr.heap.size = oo at *
      clear c0 c1 hs
      have d0 : w4.cell? ⟨oo, 0, none⟩ = some (.string pn) := h4.cell 0
      have d1 : w4.cell? ⟨oo, 1, none⟩ = some (.slice pa pr.length pc) := h4.cell 1
      go_cut [43] (fun s43 wx => ∃ t : Bool, s43 = .bool t ∧ Hid (NoP t (HeadP (pairs P) i pn pr.length)) ∧ Sat k wx (blk oo (.cells #[.string pn, .slice pa pr.length pc] 43 (0, 0)) * R))
      case first =>
        have hw1 : 0 < i → IntKind.i64.wrap ((i : Int) - 1) = ((i - 1 : Nat) : Int) := by
          intro hp
          rw [IntWalk.i64_in _ (by omega)]; omega
        by_cases e0 : pn.size = 0
        · have hl : pn.toList = [] := by
            rw [← List.length_eq_zero_iff, ByteArray.toList_eq, Array.length_toList]; exact e0
          have HN : Hid (NoP true (HeadP (pairs P) i pn pr.length)) := noP_t fun q => by have := q.1.1; omega
          clear hq e0
          (
            go_quiet (fail)
            replace h4 := h4.drewN nq
            generalize w4.drewN nq = w5 at *
            go_wp2_with fail
            go_meet
            case rel => exact ⟨_, rfl, HN, h4⟩)
        · have hl : ¬ pn.toList = [] := by
            rw [← List.length_eq_zero_iff, ByteArray.toList_eq, Array.length_toList]; exact e0
          have hl2 : (pn.toList == ([] : List UInt8)) = false := by rw [Bool.eq_false_iff]; intro q; exact hl (by simpa using q)
          have hl3 : pn.toList.isEmpty = false := by rw [Bool.eq_false_iff]; intro q; exact hl (by simpa using q)
          by_cases e1 : 30 < pn.size
          · have e1' : (30 : Int) < pn.size := by omega
            have HN : Hid (NoP true (HeadP (pairs P) i pn pr.length)) := noP_t fun q => by have := q.1.2; omega
            clear hq e0 e1
            (
              go_quiet (fail)
              replace h4 := h4.drewN nq
              generalize w4.drewN nq = w5 at *
              go_wp2_with fail
              go_meet
              case rel => exact ⟨_, rfl, HN, h4⟩)
          · have e1' : ¬ (30 : Int) < pn.size := by omega
            rcases Nat.eq_zero_or_pos i with hi0 | hip
            · have i1' : ¬ (0 : Int) < (i : Int) := by omega
              have i1n : ¬ 0 < i := by omega
              by_cases e2 : 64 < pr.length
              · have e2' : (64 : Int) < pr.length := by omega
                have HN : Hid (NoP true (HeadP (pairs P) i pn pr.length)) := noP_t fun q => by have := q.2.2; omega
                clear hq e0 e1 e2 hi0 hw1
                (
                  go_quiet (fail)
                  replace h4 := h4.drewN nq
                  generalize w4.drewN nq = w5 at *
                  go_wp2_with fail
                  go_meet
                  case rel => exact ⟨_, rfl, HN, h4⟩)
              · have e2' : ¬ (64 : Int) < pr.length := by omega
                have HN : Hid (NoP false (HeadP (pairs P) i pn pr.length)) := noP_f ⟨⟨by omega, by omega⟩, .inl hi0, by omega⟩
                clear hq e0 e1 e2 hi0 hw1
                (
                  go_quiet (fail)
                  replace h4 := h4.drewN nq
                  generalize w4.drewN nq = w5 at *
                  go_wp2_with fail
                  go_meet
                  case rel => exact ⟨_, rfl, HN, h4⟩)
            · have i1' : (0 : Int) < (i : Int) := by omega
              obtain ⟨hq1, hq2⟩ : (pairs P)[i - 1]? = some (qn, qr) ∧ ∀ w', Sat k w' R → w'.cell? ⟨g, o + (i - 1) * 2, none⟩ = some (.string qn) := by
                rcases hq with q | q
                · omega
                · exact q
              have f1 := hq2 _ h4.drop
              have hw2 := hw1 hip
              have i2 : (0 : Int) ≤ ((i - 1 : Nat) : Int) := by omega
              have i3 : ((i - 1 : Nat) : Int) < P.length := by omega
              have HQ := Lib.hid hq1
              clear hq hq1 hq2 hw1
              cases hb : ltB qn pn with
              | false =>
                have hbl : Op.bytesLess qn.toList pn.toList = false := hb
                have HN : Hid (NoP true (HeadP (pairs P) i pn pr.length)) := noP_t fun q => by
                  rcases q.2.1 with q | ⟨r, hr1, hr2⟩
                  · omega
                  · rw [HQ.out] at hr1
                    cases hr1
                    rw [hb] at hr2; cases hr2
                clear e0 e1 hb
                (
                  go_quiet (fail)
                  replace h4 := h4.drewN nq
                  generalize w4.drewN nq = w5 at *
                  go_wp2_with fail
                  go_meet
                  case rel => exact ⟨_, rfl, HN, h4⟩)
              | true =>
                have hbl : Op.bytesLess qn.toList pn.toList = true := hb
                by_cases e2 : 64 < pr.length
                · have e2' : (64 : Int) < pr.length := by omega
                  have HN : Hid (NoP true (HeadP (pairs P) i pn pr.length)) := noP_t fun q => by have := q.2.2; omega
                  clear e0 e1 e2 hb
                  (
                    go_quiet (fail)
                    replace h4 := h4.drewN nq
                    generalize w4.drewN nq = w5 at *
                    go_wp2_with fail
                    go_meet
                    case rel => exact ⟨_, rfl, HN, h4⟩)
                · have e2' : ¬ (64 : Int) < pr.length := by omega
                  have HN : Hid (NoP false (HeadP (pairs P) i pn pr.length)) := noP_f ⟨⟨by omega, by omega⟩, .inr ⟨_, HQ.out, hb⟩, by omega⟩
                  clear e0 e1 e2 hb
                  (
                    go_quiet (fail)
                    replace h4 := h4.drewN nq
                    generalize w4.drewN nq = w5 at *
                    go_wp2_with fail
                    go_meet
                    case rel => exact ⟨_, rfl, HN, h4⟩)
      case rest =>
        clear h4 d0 d1 hq
        obtain ⟨t, rfl, HN, h4⟩ := hcut
        have d0 : wc.cell? ⟨oo, 0, none⟩ = some (.string pn) := h4.cell 0
        have d1 : wc.cell? ⟨oo, 1, none⟩ = some (.slice pa pr.length pc) := h4.cell 1
        cases t with
        | true =>
          have hno : ¬ RightP (pairs P) := by
            refine no_of_tab (j := i + 1) fun q => (HN.out.1 rfl) ?_
            obtain ⟨_, q1, q2⟩ := (tabsP_take (pairs P) i (by rw [pairs_length]; exact hlt)).1 q
            have hpg : (pairs P)[i]'(by rw [pairs_length]; exact hlt) = (pn, pr) := (List.getElem?_eq_some_iff.1 HPI.out).2
            rw [hpg] at q1 q2
            exact ⟨q1.1, q2, q1.2.1⟩
          obtain rfl : res = false := by rw [← HRES.out]; exact rightB_false hno
          clear HN hno
          go_wp2_with fail
          go_ret
          exact ⟨rfl, h4.drop⟩
        | false =>
          have hhead : HeadP (pairs P) i pn pr.length := by
            have := HN.out
            unfold NoP at this
            exact Classical.byContradiction fun q => by have := this.2 q; cases this
          have HH := Lib.hid hhead
          clear HN hhead
          go_wp2_with fail
          go_loopw [47] (fun s47 wr => ∃ j : Nat, j ≤ pr.length ∧ s47 = .int .i64 j ∧ Hid (RowsP (pr.take j)) ∧ Sat k wr (blk oo (.cells #[.string pn, .slice pa pr.length pc] 43 (0, 0)) * R)) (fun s47 _ => pr.length - (intOf s47).toNat)
          case atStart => exact ⟨0, Nat.zero_le _, rfl, ⟨by simp [RiseR], by simp⟩, h4⟩
          case round =>
            clear h4 d0 d1
            obtain ⟨j, hj, rfl, HJ, hs⟩ := hrel
            by_cases hjl : j < pr.length
            · have hjl' : (j : Int) < pr.length := by omega
              have RM := Lib.hid (R1.out.mono (R' := blk oo (.cells #[.string pn, .slice pa pr.length pc] 43 (0, 0)) * R) (fun _ q => q.drop))
              obtain ⟨gr, og, rfl, hgr⟩ := rdr_at R1.out j hjl
              have HGR := Lib.hid hgr
              obtain ⟨c0, c1⟩ := hgr _ hs.drop
              obtain ⟨qr, hq⟩ : ∃ qr : Rw2, j = 0 ∨ (pr[j - 1]? = some qr ∧ ∀ w', Sat k w' R → w'.cell? ⟨gr, og + (j - 1) * 2, none⟩ = some (.int .i64 qr.1)) := by
                rcases Nat.eq_zero_or_pos j with rfl | hp
                · exact ⟨(0, 0), .inl rfl⟩
                · have hm : j - 1 < pr.length := by omega
                  obtain ⟨g2, o2, e2, h2⟩ := rdr_at R1.out (j - 1) hm
                  simp only [Option.some.injEq, Addr.mk.injEq, and_true] at e2
                  obtain ⟨rfl, rfl⟩ := e2
                  exact ⟨_, .inr ⟨List.getElem?_eq_getElem hm, fun w' q => (h2 w' q).1⟩⟩
              have HPJ : Hid (pr[j]? = some pr[j]) := List.getElem?_eq_getElem hjl
              clear hgr HGR RM
              generalize pr[j] = y at *
              have h5 := hs.alloc (.cells #[.int .i64 y.1, .int .i64 y.2] 45)
              go_upto_region 9 with fail
              generalize wr.alloc (.cells #[.int .i64 y.1, .int .i64 y.2] 45) = w5 at *
              generalize wr.heap.size = o5 at *
              clear c0 c1 hs
              have d0 : w5.cell? ⟨o5, 0, none⟩ = some (.int .i64 y.1) := h5.cell 0
              have d1 : w5.cell? ⟨o5, 1, none⟩ = some (.int .i64 y.2) := h5.cell 1
              have d2 : w5.cell? ⟨oo, 1, none⟩ = some (.slice (some ⟨gr, og, none⟩) pr.length pc) := h5.swap.cell 1
              go_cut [77] (fun s77 wx => ∃ t : Bool, s77 = .bool t ∧ Hid (NoP t (RowOk pr j y)) ∧ Sat k wx (blk oo (.cells #[.string pn, .slice (some ⟨gr, og, none⟩) pr.length pc] 43 (0, 0)) * R))
              case first =>
                have hin1 := inB_iff y.1
                have hin2 := inB_iff y.2
                have C1 := fun w => within_any w y.1
                have C2 := fun w => within_any w y.2
                cases hb1 : inB y.1 with
                | false =>
                  rw [hb1] at C1
                  have D1 := Lib.hid (fun n => (C1 (w5.drewN n)).mono fun _ _ z => And.intro z.1 z.2.symm)
                  have HN : Hid (NoP true (RowOk pr j y)) := noP_t fun q => by have := hin1.2 q.1.1; rw [hb1] at this; cases this
                  clear C1 C2 hin1 hin2 hb1 hq
                  go_quiet ((go_at_call 32; (with_reducible exact Calls.quiet_of_same (D1.out _))))
                  (
                    replace h5 := h5.drewN nq
                    generalize w5.drewN nq = w6 at *
                    go_wp2_with fail
                    go_meet
                    case rel => exact ⟨_, rfl, HN, h5.drop⟩)
                | true =>
                  rw [hb1] at C1
                  have D1 := Lib.hid (fun n => (C1 (w5.drewN n)).mono fun _ _ z => And.intro z.1 z.2.symm)
                  cases hb2 : inB y.2 with
                  | false =>
                    rw [hb2] at C2
                    have D2 := Lib.hid (fun n => (C2 (w5.drewN n)).mono fun _ _ z => And.intro z.1 z.2.symm)
                    have HN : Hid (NoP true (RowOk pr j y)) := noP_t fun q => by have := hin2.2 q.1.2; rw [hb2] at this; cases this
                    clear C1 C2 hin1 hin2 hb1 hb2 hq
                    go_quiet ((go_at_call 32; (first | with_reducible exact Calls.quiet_of_same (D1.out _) | with_reducible exact Calls.quiet_of_same (D2.out _))))
                    (
                      replace h5 := h5.drewN nq
                      generalize w5.drewN nq = w6 at *
                      go_wp2_with fail
                      go_meet
                      case rel => exact ⟨_, rfl, HN, h5.drop⟩)
                  | true =>
                    rw [hb2] at C2
                    have D2 := Lib.hid (fun n => (C2 (w5.drewN n)).mono fun _ _ z => And.intro z.1 z.2.symm)
                    have HIN : Hid (inP y) := ⟨hin1.1 hb1, hin2.1 hb2⟩
                    clear C1 C2 hin1 hin2 hb1 hb2
                    rcases Nat.eq_zero_or_pos j with hj0 | hjp
                    · have i1' : ¬ (0 : Int) < (j : Int) := by omega
                      have i1n : ¬ 0 < j := by omega
                      have HN : Hid (NoP false (RowOk pr j y)) := noP_f ⟨HIN.out, .inl hj0⟩
                      clear hq hj0
                      go_quiet ((go_at_call 32; (first | with_reducible exact Calls.quiet_of_same (D1.out _) | with_reducible exact Calls.quiet_of_same (D2.out _))))
                      (
                        replace h5 := h5.drewN nq
                        generalize w5.drewN nq = w6 at *
                        go_wp2_with fail
                        go_meet
                        case rel => exact ⟨_, rfl, HN, h5.drop⟩)
                    · have i1' : (0 : Int) < (j : Int) := by omega
                      obtain ⟨hq1, hq2⟩ : pr[j - 1]? = some qr ∧ ∀ w', Sat k w' R → w'.cell? ⟨gr, og + (j - 1) * 2, none⟩ = some (.int .i64 qr.1) := by
                        rcases hq with q | q
                        · omega
                        · exact q
                      have f1 := hq2 _ h5.drop.drop
                      have hw2 : IntKind.i64.wrap ((j : Int) - 1) = ((j - 1 : Nat) : Int) := by rw [IntWalk.i64_in _ (by omega)]; omega
                      have i2 : (0 : Int) ≤ ((j - 1 : Nat) : Int) := by omega
                      have i3 : ((j - 1 : Nat) : Int) < pr.length := by omega
                      have HQ := Lib.hid hq1
                      clear hq hq1 hq2
                      by_cases hle : y.1 ≤ qr.1
                      · have HN : Hid (NoP true (RowOk pr j y)) := noP_t fun q => by
                          rcases q.2 with q | ⟨r, hr1, hr2⟩
                          · omega
                          · rw [HQ.out] at hr1
                            cases hr1
                            omega
                        go_quiet ((go_at_call 32; (first | with_reducible exact Calls.quiet_of_same (D1.out _) | with_reducible exact Calls.quiet_of_same (D2.out _))))
                        (
                          replace h5 := h5.drewN nq
                          generalize w5.drewN nq = w6 at *
                          go_wp2_with fail
                          go_meet
                          case rel => exact ⟨_, rfl, HN, h5.drop⟩)
                      · have HN : Hid (NoP false (RowOk pr j y)) := noP_f ⟨HIN.out, .inr ⟨_, HQ.out, by omega⟩⟩
                        go_quiet ((go_at_call 32; (first | with_reducible exact Calls.quiet_of_same (D1.out _) | with_reducible exact Calls.quiet_of_same (D2.out _))))
                        (
                          replace h5 := h5.drewN nq
                          generalize w5.drewN nq = w6 at *
                          go_wp2_with fail
                          go_meet
                          case rel => exact ⟨_, rfl, HN, h5.drop⟩)
              case rest =>
                clear h5 d0 d1 d2 hq
                obtain ⟨t, rfl, HN, h5⟩ := hcut
                have hstep := rowsP_take pr j hjl
                have hpj : pr[j] = y := (List.getElem?_eq_some_iff.1 HPJ.out).2
                rw [hpj] at hstep
                have HST := Lib.hid hstep
                clear hstep hpj
                cases t with
                | true =>
                  have hno : ¬ RightP (pairs P) := by
                    refine no_of_row (t := (pn, pr)) (j := j + 1) (List.mem_iff_getElem?.2 ⟨i, HPI.out⟩) fun q => (HN.out.1 rfl) ?_
                    obtain ⟨_, q1, q2⟩ := HST.out.1 q
                    exact ⟨q1, q2⟩
                  obtain rfl : res = false := by rw [← HRES.out]; exact rightB_false hno
                  clear HN hno
                  go_wp2_with fail
                  go_ret
                  exact ⟨rfl, h5.drop⟩
                | false =>
                  have HJ2 : Hid (RowsP (pr.take (j + 1))) := by
                    have hro : RowOk pr j y := by
                      have := HN.out
                      unfold NoP at this
                      exact Classical.byContradiction fun q => by have := this.2 q; cases this
                    exact HST.out.2 ⟨HJ.out, hro.1, hro.2⟩
                  clear HN
                  go_wp2_with fail
                  go_roundw
                  case rel => exact ⟨j + 1, by omega, by go_num, HJ2, h5⟩
                  case measure => simp [intOf]; omega
            · obtain rfl : j = pr.length := by omega
              have HT : Hid (TabsP ((pairs P).take (i + 1))) := by
                refine (tabsP_take (pairs P) i (by rw [pairs_length]; exact hlt)).2 ?_
                have hpg : (pairs P)[i]'(by rw [pairs_length]; exact hlt) = (pn, pr) := (List.getElem?_eq_some_iff.1 HPI.out).2
                rw [hpg]
                have hrw := HJ.out
                rw [List.take_of_length_le (Nat.le_refl _)] at hrw
                exact ⟨HS.out, ⟨HH.out.1, HH.out.2.2, hrw⟩, HH.out.2.1⟩
              clear HJ HS
              go_wp2_with fail
              go_roundw
              case rel => exact ⟨i + 1, by omega, by go_num, HT, hs.drop⟩
              case measure => simp [intOf]; omega
    · obtain rfl : i = P.length := by omega
      have ht := HS.out
      rw [List.take_of_length_le (by rw [pairs_length]; exact Nat.le_refl _)] at ht
      have hpl := pairs_length P
      by_cases h16 : P.length ≤ 16
      · have h16' : (P.length : Int) ≤ 16 := by omega
        obtain rfl : res = true := by rw [← HRES.out]; exact rightB_true ⟨by omega, ht⟩
        clear HS ht hpl
        go_wp2_with fail
        go_ret
        exact ⟨rfl, hs⟩
      · have h16' : ¬ (P.length : Int) ≤ 16 := by omega
        obtain rfl : res = false := by rw [← HRES.out]; exact rightB_false fun q => by have := q.1; omega
        clear HS ht hpl
        go_wp2_with fail
        go_ret
        exact ⟨rfl, hs⟩
end Go.Proofs.Ytoeepbjnbgpmpaa

namespace Go.Proofs.Ytoeepbjnbgpmpaa
set_option linter.all false
open Go Go.RowKit

theorem dr_next {w wr : World} (h : ∃ m, wr = w.drewN m) (n : Nat) : ∃ m, wr.drewN n = w.drewN m := by
  obtain ⟨m, rfl⟩ := h
  exact ⟨m + n, by rw [World.drewN_drewN]⟩
set_option maxHeartbeats 2000000 in
theorem rless_q (w : World) (x y : ByteArray) (hx : x.size ≤ 1000000000) (hy : y.size ≤ 1000000000) :
    Calls Try.prog 37 #[.string x, .string y] w fun e w' => e = .returned (.bool (ltB x y)) ∧ ∃ m, w' = w.drewN m := by
  obtain ⟨res, hres⟩ : ∃ res, res = ltB x y := ⟨_, rfl⟩
  rw [← hres]
  have HX : Hid (Op.bytesLess ((bl x).drop 0) ((bl y).drop 0) = res) := by unfold Hid; rw [hres, ltB_bl]; rfl
  clear hres
  go_enter Try.func37, Try.ntmps37
  go_wp2_with fail
  go_loopw [5] (fun s5 wr => ∃ j : Nat, j ≤ x.size ∧ j ≤ y.size ∧ s5 = .int .i64 j ∧ Hid (Op.bytesLess ((bl x).drop j) ((bl y).drop j) = res) ∧ (∃ m, wr = w.drewN m)) (fun s5 _ => x.size - (intOf s5).toNat)
  case atStart => exact ⟨0, Nat.zero_le _, Nat.zero_le _, rfl, HX, ⟨0, rfl⟩⟩
  case round =>
    clear HX
    obtain ⟨j, hj, hj2, rfl, HR, hs⟩ := hrel
    by_cases hlt : j < x.size
    · have hlt' : (j : Int) < x.size := by omega
      by_cases hl2 : j < y.size
      · have hl2' : (j : Int) < y.size := by omega
        have HS : Hid (Op.bytesLess ((bl x).drop j) ((bl y).drop j) = if x[j] = y[j] then Op.bytesLess ((bl x).drop (j + 1)) ((bl y).drop (j + 1)) else decide (x[j] < y[j])) := by
          unfold Hid; rw [bl_drop x j hlt, bl_drop y j hl2, bless_cons]
        by_cases he : x[j] = y[j]
        · have b1 : ((x[j].toNat : Int) == y[j].toNat) = true := by rw [he]; simp
          have b2 : ((x[j].toNat : Int) != y[j].toNat) = false := by rw [he]; simp
          have HN : Hid (Op.bytesLess ((bl x).drop (j + 1)) ((bl y).drop (j + 1)) = res) := by unfold Hid; rw [← HR.out, HS.out, if_pos he]
          clear HR HS he
          go_wp2_with fail
          go_quiet (fail)
          replace hs := dr_next hs nq
          generalize wr.drewN nq = wr at *
          go_wp2_with fail
          go_roundw
          case rel => exact ⟨j + 1, by omega, by omega, by go_num, HN, hs⟩
          case measure => simp [intOf]; omega
        · have b1 : ((x[j].toNat : Int) == y[j].toNat) = false := by
            simp only [beq_eq_false_iff_ne, ne_eq, Int.natCast_inj]; exact fun e => he (UInt8.toNat_inj.1 e)
          have b2 : ((x[j].toNat : Int) != y[j].toNat) = true := by rw [bne, b1]; rfl
          have HN : Hid (decide (x[j].toNat < y[j].toNat) = res) := by
            unfold Hid; rw [← HR.out, HS.out, if_neg he]; rfl
          clear HR HS he
          by_cases hl : x[j].toNat < y[j].toNat
          · have hl' : (x[j].toNat : Int) < y[j].toNat := by omega
            obtain rfl : res = true := by rw [← HN.out, decide_eq_true hl]
            clear HN
            go_wp2_with fail
            go_quiet (fail)
            replace hs := dr_next hs nq
            generalize wr.drewN nq = wr at *
            go_wp2_with fail
            go_quiet (fail)
            replace hs := dr_next hs nq
            generalize wr.drewN nq = wr at *
            go_wp2_with fail
            go_ret
            exact ⟨rfl, hs⟩
          · have hl' : ¬ (x[j].toNat : Int) < y[j].toNat := by omega
            obtain rfl : res = false := by rw [← HN.out, decide_eq_false hl]
            clear HN
            go_wp2_with fail
            go_quiet (fail)
            replace hs := dr_next hs nq
            generalize wr.drewN nq = wr at *
            go_wp2_with fail
            go_quiet (fail)
            replace hs := dr_next hs nq
            generalize wr.drewN nq = wr at *
            go_wp2_with fail
            go_ret
            exact ⟨rfl, hs⟩
      · have hl2' : ¬ (j : Int) < y.size := by omega
        have hsz : ¬ (x.size : Int) < y.size := by omega
        have e : (bl y).drop j = [] := List.drop_eq_nil_of_le (by rw [bl_len]; omega)
        obtain rfl : res = false := by rw [← HR.out, e]; cases (bl x).drop j <;> rfl
        clear e
        clear HR
        go_wp2_with fail
        go_ret
        exact ⟨rfl, hs⟩
    · have hlt' : ¬ (j : Int) < x.size := by omega
      obtain rfl : j = x.size := by omega
      have hres : res = decide (x.size < y.size) := by
        have e : (bl x).drop x.size = [] := List.drop_eq_nil_of_le (by rw [bl_len]; omega)
        rw [← HR.out, e]
        by_cases hq : x.size < y.size
        · rw [bl_drop y _ hq, decide_eq_true hq]; rfl
        · have e : (bl y).drop x.size = [] := List.drop_eq_nil_of_le (by rw [bl_len]; omega)
          rw [e, decide_eq_false hq]; rfl
      clear HR
      by_cases hq : x.size < y.size
      · have hq' : (x.size : Int) < y.size := by omega
        rw [decide_eq_true hq] at hres
        subst hres
        go_wp2_with fail
        go_ret
        exact ⟨rfl, hs⟩
      · have hq' : ¬ (x.size : Int) < y.size := by omega
        rw [decide_eq_false hq] at hres
        subst hres
        go_wp2_with fail
        go_ret
        exact ⟨rfl, hs⟩



set_option maxRecDepth 100000 in
set_option maxHeartbeats 8000000 in
theorem rright_any (k : Env) (w : World) (R : Assn) (a : Option Addr) (c : Nat) (P : List TbM) (hr : RdS k R a P) (hn : P.length ≤ 1000000) (hnm : ∀ p ∈ P, p.nm.size ≤ 1000000000) (hrows : ∀ p ∈ P, p.rows.length ≤ 1000000) (h : Sat k w R) :
    Calls Try.prog 16 #[.slice a P.length c] w fun e w' => e = .returned (.bool (rightB (pairs P))) ∧ Sat k w' R := by
  obtain ⟨res, hres⟩ : ∃ res, rightB (pairs P) = res := ⟨_, rfl⟩
  rw [hres]
  have HRES := Lib.hid hres
  have HR := Lib.hid hr
  have HRW := Lib.hid hrows
  have HNM := Lib.hid hnm
  clear hres hr hrows hnm
  by_cases h16 : P.length ≤ 16
  rotate_left
  · have h16' : (16 : Int) < P.length := by omega
    obtain rfl : res = false := by rw [← HRES.out]; exact rightB_false fun q => by have := q.1; rw [pairs_length] at this; omega
    clear HRES
    go_enter Try.func16, Try.ntmps16
    go_wp2_with fail
    go_ret
    exact ⟨rfl, h⟩
  have h16' : ¬ (16 : Int) < P.length := by omega
  go_enter Try.func16, Try.ntmps16
  go_wp2_with fail
  go_loopw [3] (fun s3 wr => ∃ i : Nat, i ≤ P.length ∧ s3 = .int .i64 i ∧ Hid (TabsP ((pairs P).take i)) ∧ Sat k wr R) (fun s3 _ => P.length - (intOf s3).toNat)
  case atStart => exact ⟨0, Nat.zero_le _, rfl, ⟨by simp, by simp⟩, h⟩
  case round =>
    clear h
    obtain ⟨i, hi, rfl, HS, hs⟩ := hrel
    by_cases hlt : i < P.length
    · have hlt' : (i : Int) < P.length := by omega
      obtain ⟨g, o, rfl, hg⟩ := rds_at HR.out (by rintro rfl; cases hlt)
      have HG : Hid (∀ {w' : World} {m : Nat} (hm : m < P.length), Sat k w' R → (w'.cell? ⟨g, o + m * 2, none⟩ = some (.string P[m].nm) ∧ w'.cell? ⟨g, o + m * 2 + 1, none⟩ = some (.slice P[m].a P[m].rows.length P[m].c))) := by
        unfold Hid
        intro w' m hm q
        exact hg w' q m hm
      obtain ⟨c0, c1⟩ := HG.out hlt hs
      have R1 := Lib.hid (HR.out.2 _ (List.getElem_mem hlt))
      have hrl := HRW.out _ (List.getElem_mem hlt)
      have HPI := Lib.hid (pairs_get hlt)
      have HPE : Hid (P[i]? = some P[i]) := List.getElem?_eq_getElem hlt
      have HC : Hid (∀ {w' : World}, Sat k w' R → (w'.cell? ⟨g, o + i * 2, none⟩ = some (.string P[i].nm) ∧ w'.cell? ⟨g, o + i * 2 + 1, none⟩ = some (.slice P[i].a P[i].rows.length P[i].c))) := fun {w'} q => HG.out hlt q
      obtain ⟨qn, qr, hq⟩ : ∃ (qn : ByteArray) (qr : List Rw2), i = 0 ∨ ((pairs P)[i - 1]? = some (qn, qr) ∧ qn.size ≤ 1000000000 ∧ ∀ w', Sat k w' R → w'.cell? ⟨g, o + (i - 1) * 2, none⟩ = some (.string qn)) := by
        rcases Nat.eq_zero_or_pos i with rfl | hp
        · exact ⟨ByteArray.empty, [], .inl rfl⟩
        · have hm : i - 1 < P.length := by omega
          exact ⟨_, _, .inr ⟨pairs_get hm, HNM.out _ (List.getElem_mem hm), fun w' q => (HG.out hm q).1⟩⟩
      clear hg
      generalize P[i] = p at *
      obtain ⟨pn, pa, pc, pr⟩ := p
      simp only at c0 c1 R1 hrl HPI HC
      have h4 := hs
      have hnz := HNM.out ⟨pn, pa, pc, pr⟩ (List.mem_of_getElem? HPE.out)
      go_upto_region 6 with fail
      generalize wr = w4 at *
      clear hs
      go_cut [58] (fun s58 wx => ∃ t : Bool, s58 = .bool t ∧ Hid (NoP t (HeadP (pairs P) i pn pr.length)) ∧ Sat k wx (R))
      case first =>
        have hw1 : 0 < i → IntKind.i64.wrap ((i : Int) - 1) = ((i - 1 : Nat) : Int) := by
          intro hp
          rw [IntWalk.i64_in _ (by omega)]; omega
        by_cases e0 : pn.size = 0
        · have hl : (pn.size : Int) < 1 := by omega
          have HN : Hid (NoP true (HeadP (pairs P) i pn pr.length)) := noP_t fun q => by have := q.1.1; omega
          clear hq e0
          (
            go_quiet ((go_at_call 37; (with_reducible exact Calls.quiet_of (DL.out _))))
            replace h4 := h4.drewN nq
            generalize w4.drewN nq = w5 at *
            go_wp2_with fail
            go_meet
            case rel => exact ⟨_, rfl, HN, h4⟩)
        · have hl : ¬ (pn.size : Int) < 1 := by omega
          by_cases e1 : 30 < pn.size
          · have e1' : (30 : Int) < pn.size := by omega
            have HN : Hid (NoP true (HeadP (pairs P) i pn pr.length)) := noP_t fun q => by have := q.1.2; omega
            clear hq e0 e1
            (
              go_quiet ((go_at_call 37; (with_reducible exact Calls.quiet_of (DL.out _))))
              replace h4 := h4.drewN nq
              generalize w4.drewN nq = w5 at *
              go_wp2_with fail
              go_meet
              case rel => exact ⟨_, rfl, HN, h4⟩)
          · have e1' : ¬ (30 : Int) < pn.size := by omega
            rcases Nat.eq_zero_or_pos i with hi0 | hip
            · have i1' : ¬ (0 : Int) < (i : Int) := by omega
              have i1n : ¬ 0 < i := by omega
              by_cases e2 : 64 < pr.length
              · have e2' : (64 : Int) < pr.length := by omega
                have HN : Hid (NoP true (HeadP (pairs P) i pn pr.length)) := noP_t fun q => by have := q.2.2; omega
                clear hq e0 e1 e2 hi0 hw1
                (
                  go_quiet ((go_at_call 37; (with_reducible exact Calls.quiet_of (DL.out _))))
                  replace h4 := h4.drewN nq
                  generalize w4.drewN nq = w5 at *
                  go_wp2_with fail
                  go_meet
                  case rel => exact ⟨_, rfl, HN, h4⟩)
              · have e2' : ¬ (64 : Int) < pr.length := by omega
                have HN : Hid (NoP false (HeadP (pairs P) i pn pr.length)) := noP_f ⟨⟨by omega, by omega⟩, .inl hi0, by omega⟩
                clear hq e0 e1 e2 hi0 hw1
                (
                  go_quiet ((go_at_call 37; (with_reducible exact Calls.quiet_of (DL.out _))))
                  replace h4 := h4.drewN nq
                  generalize w4.drewN nq = w5 at *
                  go_wp2_with fail
                  go_meet
                  case rel => exact ⟨_, rfl, HN, h4⟩)
            · have i1' : (0 : Int) < (i : Int) := by omega
              obtain ⟨hq1, hqs, hq2⟩ : (pairs P)[i - 1]? = some (qn, qr) ∧ qn.size ≤ 1000000000 ∧ ∀ w', Sat k w' R → w'.cell? ⟨g, o + (i - 1) * 2, none⟩ = some (.string qn) := by
                rcases hq with q | q
                · omega
                · exact q
              have f1 := hq2 _ h4
              have CL := fun w => rless_q w qn pn hqs hnz
              have hw2 := hw1 hip
              have i2 : (0 : Int) ≤ ((i - 1 : Nat) : Int) := by omega
              have i3 : ((i - 1 : Nat) : Int) < P.length := by omega
              have HQ := Lib.hid hq1
              clear hq hq1 hq2 hw1 hqs
              cases hb : ltB qn pn with
              | false =>
                rw [hb] at CL
                have DL := Lib.hid (fun n => CL (w4.drewN n))
                clear CL
                have HN : Hid (NoP true (HeadP (pairs P) i pn pr.length)) := noP_t fun q => by
                  rcases q.2.1 with q | ⟨r, hr1, hr2⟩
                  · omega
                  · rw [HQ.out] at hr1
                    cases hr1
                    rw [hb] at hr2; cases hr2
                clear e0 e1 hb
                (
                  go_quiet ((go_at_call 37; (with_reducible exact Calls.quiet_of (DL.out _))))
                  replace h4 := h4.drewN nq
                  generalize w4.drewN nq = w5 at *
                  go_wp2_with fail
                  go_meet
                  case rel => exact ⟨_, rfl, HN, h4⟩)
              | true =>
                rw [hb] at CL
                have DL := Lib.hid (fun n => CL (w4.drewN n))
                clear CL
                by_cases e2 : 64 < pr.length
                · have e2' : (64 : Int) < pr.length := by omega
                  have HN : Hid (NoP true (HeadP (pairs P) i pn pr.length)) := noP_t fun q => by have := q.2.2; omega
                  clear e0 e1 e2 hb
                  (
                    go_quiet ((go_at_call 37; (with_reducible exact Calls.quiet_of (DL.out _))))
                    replace h4 := h4.drewN nq
                    generalize w4.drewN nq = w5 at *
                    go_wp2_with fail
                    go_meet
                    case rel => exact ⟨_, rfl, HN, h4⟩)
                · have e2' : ¬ (64 : Int) < pr.length := by omega
                  have HN : Hid (NoP false (HeadP (pairs P) i pn pr.length)) := noP_f ⟨⟨by omega, by omega⟩, .inr ⟨_, HQ.out, hb⟩, by omega⟩
                  clear e0 e1 e2 hb
                  (
                    go_quiet ((go_at_call 37; (with_reducible exact Calls.quiet_of (DL.out _))))
                    replace h4 := h4.drewN nq
                    generalize w4.drewN nq = w5 at *
                    go_wp2_with fail
                    go_meet
                    case rel => exact ⟨_, rfl, HN, h4⟩)
      case rest =>
        clear h4 c0 c1 hq
        obtain ⟨t, rfl, HN, h4⟩ := hcut
        cases t with
        | true =>
          have hno : ¬ RightP (pairs P) := by
            refine no_of_tab (j := i + 1) fun q => (HN.out.1 rfl) ?_
            obtain ⟨_, q1, q2⟩ := (tabsP_take (pairs P) i (by rw [pairs_length]; exact hlt)).1 q
            have hpg : (pairs P)[i]'(by rw [pairs_length]; exact hlt) = (pn, pr) := (List.getElem?_eq_some_iff.1 HPI.out).2
            rw [hpg] at q1 q2
            exact ⟨q1.1, q2, q1.2.1⟩
          obtain rfl : res = false := by rw [← HRES.out]; exact rightB_false hno
          clear HN hno
          go_wp2_with fail
          go_ret
          exact ⟨rfl, h4⟩
        | false =>
          have hhead : HeadP (pairs P) i pn pr.length := by
            have := HN.out
            unfold NoP at this
            exact Classical.byContradiction fun q => by have := this.2 q; cases this
          have HH := Lib.hid hhead
          clear HN hhead
          go_wp2_with fail
          go_loopw [4] (fun s4 wr => ∃ j : Nat, j ≤ pr.length ∧ s4 = .int .i64 j ∧ Hid (RowsP (pr.take j)) ∧ Sat k wr (R)) (fun s4 _ => pr.length - (intOf s4).toNat)
          case atStart => exact ⟨0, Nat.zero_le _, rfl, ⟨by simp [RiseR], by simp⟩, h4⟩
          case round =>
            clear h4
            obtain ⟨j, hj, rfl, HJ, hs⟩ := hrel
            obtain ⟨b0, b1⟩ := HC.out hs
            by_cases hjl : j < pr.length
            · have hjl' : (j : Int) < pr.length := by omega
              obtain ⟨gr, og, rfl, hgr⟩ := rdr_at R1.out j hjl
              have HGR := Lib.hid hgr
              obtain ⟨c0, c1⟩ := hgr _ hs
              obtain ⟨qr, hq⟩ : ∃ qr : Rw2, j = 0 ∨ (pr[j - 1]? = some qr ∧ ∀ w', Sat k w' R → w'.cell? ⟨gr, og + (j - 1) * 2, none⟩ = some (.int .i64 qr.1)) := by
                rcases Nat.eq_zero_or_pos j with rfl | hp
                · exact ⟨(0, 0), .inl rfl⟩
                · have hm : j - 1 < pr.length := by omega
                  obtain ⟨g2, o2, e2, h2⟩ := rdr_at R1.out (j - 1) hm
                  simp only [Option.some.injEq, Addr.mk.injEq, and_true] at e2
                  obtain ⟨rfl, rfl⟩ := e2
                  exact ⟨_, .inr ⟨List.getElem?_eq_getElem hm, fun w' q => (h2 w' q).1⟩⟩
              have HPJ : Hid (pr[j]? = some pr[j]) := List.getElem?_eq_getElem hjl
              clear hgr HGR
              generalize pr[j] = y at *
              have h5 := hs.alloc (.cells #[.int .i64 y.1, .int .i64 y.2] 45)
              go_upto_region 12 with fail
              generalize wr.alloc (.cells #[.int .i64 y.1, .int .i64 y.2] 45) = w5 at *
              generalize wr.heap.size = o5 at *
              clear c0 c1 hs b0 b1
              obtain ⟨b0, b1⟩ := HC.out h5.drop
              have d0 : w5.cell? ⟨o5, 0, none⟩ = some (.int .i64 y.1) := h5.cell 0
              have d1 : w5.cell? ⟨o5, 1, none⟩ = some (.int .i64 y.2) := h5.cell 1
              go_cut [105] (fun s105 wx => ∃ t : Bool, s105 = .bool t ∧ Hid (NoP t (RowOk pr j y)) ∧ Sat k wx (R))
              case first =>
                have hin1 := inB_iff y.1
                have hin2 := inB_iff y.2
                have C1 := fun w => rin8_any w y.1
                have C2 := fun w => rin8_any w y.2
                cases hb1 : inB y.1 with
                | false =>
                  rw [hb1] at C1
                  have D1 := Lib.hid (fun n => (C1 (w5.drewN n)).mono fun _ _ z => And.intro z.1 z.2.symm)
                  have HN : Hid (NoP true (RowOk pr j y)) := noP_t fun q => by have := hin1.2 q.1.1; rw [hb1] at this; cases this
                  clear C1 C2 hin1 hin2 hb1 hq
                  go_quiet ((go_at_call 35; (with_reducible exact Calls.quiet_of_same (D1.out _))))
                  (
                    replace h5 := h5.drewN nq
                    generalize w5.drewN nq = w6 at *
                    go_wp2_with fail
                    go_meet
                    case rel => exact ⟨_, rfl, HN, h5.drop⟩)
                | true =>
                  rw [hb1] at C1
                  have D1 := Lib.hid (fun n => (C1 (w5.drewN n)).mono fun _ _ z => And.intro z.1 z.2.symm)
                  cases hb2 : inB y.2 with
                  | false =>
                    rw [hb2] at C2
                    have D2 := Lib.hid (fun n => (C2 (w5.drewN n)).mono fun _ _ z => And.intro z.1 z.2.symm)
                    have HN : Hid (NoP true (RowOk pr j y)) := noP_t fun q => by have := hin2.2 q.1.2; rw [hb2] at this; cases this
                    clear C1 C2 hin1 hin2 hb1 hb2 hq
                    go_quiet ((go_at_call 35; (first | with_reducible exact Calls.quiet_of_same (D1.out _) | with_reducible exact Calls.quiet_of_same (D2.out _))))
                    (
                      replace h5 := h5.drewN nq
                      generalize w5.drewN nq = w6 at *
                      go_wp2_with fail
                      go_meet
                      case rel => exact ⟨_, rfl, HN, h5.drop⟩)
                  | true =>
                    rw [hb2] at C2
                    have D2 := Lib.hid (fun n => (C2 (w5.drewN n)).mono fun _ _ z => And.intro z.1 z.2.symm)
                    have HIN : Hid (inP y) := ⟨hin1.1 hb1, hin2.1 hb2⟩
                    clear C1 C2 hin1 hin2 hb1 hb2
                    rcases Nat.eq_zero_or_pos j with hj0 | hjp
                    · have i1' : ¬ (0 : Int) < (j : Int) := by omega
                      have i1n : ¬ 0 < j := by omega
                      have HN : Hid (NoP false (RowOk pr j y)) := noP_f ⟨HIN.out, .inl hj0⟩
                      clear hq hj0
                      go_quiet ((go_at_call 35; (first | with_reducible exact Calls.quiet_of_same (D1.out _) | with_reducible exact Calls.quiet_of_same (D2.out _))))
                      (
                        replace h5 := h5.drewN nq
                        generalize w5.drewN nq = w6 at *
                        go_wp2_with fail
                        go_meet
                        case rel => exact ⟨_, rfl, HN, h5.drop⟩)
                    · have i1' : (0 : Int) < (j : Int) := by omega
                      obtain ⟨hq1, hq2⟩ : pr[j - 1]? = some qr ∧ ∀ w', Sat k w' R → w'.cell? ⟨gr, og + (j - 1) * 2, none⟩ = some (.int .i64 qr.1) := by
                        rcases hq with q | q
                        · omega
                        · exact q
                      have f1 := hq2 _ h5.drop
                      have hw2 : IntKind.i64.wrap ((j : Int) - 1) = ((j - 1 : Nat) : Int) := by rw [IntWalk.i64_in _ (by omega)]; omega
                      have i2 : (0 : Int) ≤ ((j - 1 : Nat) : Int) := by omega
                      have i3 : ((j - 1 : Nat) : Int) < pr.length := by omega
                      have HQ := Lib.hid hq1
                      clear hq hq1 hq2
                      by_cases hle : y.1 ≤ qr.1
                      · have HN : Hid (NoP true (RowOk pr j y)) := noP_t fun q => by
                          rcases q.2 with q | ⟨r, hr1, hr2⟩
                          · omega
                          · rw [HQ.out] at hr1
                            cases hr1
                            omega
                        go_quiet ((go_at_call 35; (first | with_reducible exact Calls.quiet_of_same (D1.out _) | with_reducible exact Calls.quiet_of_same (D2.out _))))
                        (
                          replace h5 := h5.drewN nq
                          generalize w5.drewN nq = w6 at *
                          go_wp2_with fail
                          go_meet
                          case rel => exact ⟨_, rfl, HN, h5.drop⟩)
                      · have HN : Hid (NoP false (RowOk pr j y)) := noP_f ⟨HIN.out, .inr ⟨_, HQ.out, by omega⟩⟩
                        go_quiet ((go_at_call 35; (first | with_reducible exact Calls.quiet_of_same (D1.out _) | with_reducible exact Calls.quiet_of_same (D2.out _))))
                        (
                          replace h5 := h5.drewN nq
                          generalize w5.drewN nq = w6 at *
                          go_wp2_with fail
                          go_meet
                          case rel => exact ⟨_, rfl, HN, h5.drop⟩)
              case rest =>
                clear h5 d0 d1 b0 b1 hq
                obtain ⟨t, rfl, HN, h5⟩ := hcut
                have hstep := rowsP_take pr j hjl
                have hpj : pr[j] = y := (List.getElem?_eq_some_iff.1 HPJ.out).2
                rw [hpj] at hstep
                have HST := Lib.hid hstep
                clear hstep hpj
                cases t with
                | true =>
                  have hno : ¬ RightP (pairs P) := by
                    refine no_of_row (t := (pn, pr)) (j := j + 1) (List.mem_iff_getElem?.2 ⟨i, HPI.out⟩) fun q => (HN.out.1 rfl) ?_
                    obtain ⟨_, q1, q2⟩ := HST.out.1 q
                    exact ⟨q1, q2⟩
                  obtain rfl : res = false := by rw [← HRES.out]; exact rightB_false hno
                  clear HN hno
                  go_wp2_with fail
                  go_ret
                  exact ⟨rfl, h5⟩
                | false =>
                  have HJ2 : Hid (RowsP (pr.take (j + 1))) := by
                    have hro : RowOk pr j y := by
                      have := HN.out
                      unfold NoP at this
                      exact Classical.byContradiction fun q => by have := this.2 q; cases this
                    exact HST.out.2 ⟨HJ.out, hro.1, hro.2⟩
                  clear HN
                  go_wp2_with fail
                  go_roundw
                  case rel => exact ⟨j + 1, by omega, by go_num, HJ2, h5⟩
                  case measure => simp [intOf]; omega
            · obtain rfl : j = pr.length := by omega
              have HT : Hid (TabsP ((pairs P).take (i + 1))) := by
                refine (tabsP_take (pairs P) i (by rw [pairs_length]; exact hlt)).2 ?_
                have hpg : (pairs P)[i]'(by rw [pairs_length]; exact hlt) = (pn, pr) := (List.getElem?_eq_some_iff.1 HPI.out).2
                rw [hpg]
                have hrw := HJ.out
                rw [List.take_of_length_le (Nat.le_refl _)] at hrw
                exact ⟨HS.out, ⟨HH.out.1, HH.out.2.2, hrw⟩, HH.out.2.1⟩
              clear HJ HS
              go_wp2_with fail
              go_roundw
              case rel => exact ⟨i + 1, by omega, by go_num, HT, hs⟩
              case measure => simp [intOf]; omega
    · obtain rfl : i = P.length := by omega
      have ht := HS.out
      rw [List.take_of_length_le (by rw [pairs_length]; exact Nat.le_refl _)] at ht
      have hpl := pairs_length P
      obtain rfl : res = true := by rw [← HRES.out]; exact rightB_true ⟨by omega, ht⟩
      clear HS ht hpl
      go_wp2_with fail
      go_ret
      exact ⟨rfl, hs⟩
end Go.Proofs.Ytoeepbjnbgpmpaa
