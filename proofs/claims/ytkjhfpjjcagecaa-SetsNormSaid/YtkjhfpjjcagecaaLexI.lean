/- Contracts of Split: of package lexer and of the document's lexer. -/
import Derived.Test.YtkjhfpjjcagecaaLexH
namespace Go.Proofs.Ytkjhfpjjcagecaa
set_option linter.all false
open Go Go.RowKit

theorem semi_eq (k : Int) (t : ByteArray) (p : Int) : isSemi ⟨k, t, p⟩ = (decide (k = 5) && decide (t = mk [59])) := rfl
/-- Where Split stands. -/
def SplV (bn bo : Nat) (va : Option Addr) (vc : Nat) (now : List Tok) (vo : Value) (P : List Sp) : Assn :=
  blk bn (.cells #[.slice va now.length vc] 22 (0, 0)) * (blk bo (.cells #[vo] 54 (0, 0)) * (Toks (.slice va now.length vc) now * SpV vo P))

theorem sp_nil {k : Env} {w : World} {R : Assn} (h : Sat k w R) : Sat k w (SpV (.slice none 0 0) [] * R) := by
  unfold SpV
  rw [stars, star_emp]
  exact own_nil h
theorem sp_val {k : Env} {w : World} {R : Assn} {v : Value} {P : List Sp} (h : Sat k w (SpV v P * R)) : ∃ a c, v = .slice a P.length c := by
  unfold SpV at h
  rw [star_assoc] at h
  exact own_val h
set_option maxRecDepth 100000 in
set_option maxHeartbeats 8000000 in
theorem split_any (k : Env) (w : World) (R : Assn) (a : Option Addr) (cap : Nat) (l : List Tok) (hr : RdT k R a l) (hl : l.length ≤ 1000000) (h : Sat k w R) :
    Calls Try.prog 38 #[.slice a l.length cap] w fun e w' => ∃ v P, e = .returned v ∧ P.map Sp.l = splitL l [] [] ∧ P.length ≤ l.length + 1 ∧ Sat k w' (SpV v P * R) := by
  obtain ⟨res, HX⟩ : ∃ res, Hid (splitL l [] [] = res) := ⟨_, rfl⟩
  rw [HX.out]
  have hmf : ∀ (fn : Fn) (first cap : Array Value) (w : World), (Instr.makeFunc fn first cap).run Try.prog w = .ok (.func fn first cap) w := fun _ _ _ _ => rfl
  have HR := Lib.hid hr
  have h1 := (h.alloc (.cells #[.slice none 0 0] 54)).alloc (.cells #[.slice none 0 0] 22)
  simp only [World.size_alloc] at h1
  have h2 : Sat k _ (blk (w.heap.size + 1) (.cells #[.slice none 0 0] 22 (0, 0)) * (blk w.heap.size (.cells #[.slice none 0 0] 54 (0, 0)) * (Toks (.slice none 0 0) [] * (SpV (.slice none 0 0) [] * R)))) :=
    (rec_nil (E := ETok) (t := 40) (sp_nil h1)).of_eq (by unfold Toks; ac_rfl)
  clear hr h h1
  go_enter Try.func38, Try.ntmps38
  go_wp2_with fail
  generalize (w.alloc (.cells #[.slice none 0 0] 54)).alloc (.cells #[.slice none 0 0] 22) = w1 at *
  generalize w.heap.size + 1 = bn at *
  generalize w.heap.size = bo at *
  go_loopw [7, 11] (fun _ s11 wr => ∃ (j : Nat) (now : List Tok) (P : List Sp) (va : Option Addr) (vc : Nat) (vo : Value), j ≤ l.length ∧ s11 = .int .i64 j ∧ now.length ≤ j ∧ P.length ≤ j ∧ Hid (splitL (l.drop j) now (P.map Sp.l) = res) ∧
    Sat k wr (blk bn (.cells #[.slice va now.length vc] 22 (0, 0)) * (blk bo (.cells #[vo] 54 (0, 0)) * (Toks (.slice va now.length vc) now * (SpV vo P * R))))) (fun _ s11 _ => l.length - (intOf s11).toNat)
  case atStart => exact ⟨0, [], [], none, 0, _, Nat.zero_le _, rfl, by simp, by simp, HX, h2⟩
  case round =>
    clear h2 HX
    obtain ⟨j, now, P, va, vc, vo, hj, rfl, hn, hP, HS, hs⟩ := hrel
    by_cases hlt : j < l.length
    · have hlt' : (j : Int) < l.length := by omega
      obtain ⟨g, o, rfl, c0, c1, c2⟩ := rdt_get HR.out hs.drop.drop.drop.drop j hlt
      have HST : Hid (splitL (l.drop j) now (P.map Sp.l) = if isSemi l[j] = true then splitL (l.drop (j + 1)) [] (if now = [] then P.map Sp.l else P.map Sp.l ++ [now]) else splitL (l.drop (j + 1)) (now ++ [l[j]]) (P.map Sp.l)) := by
        unfold Hid
        rw [List.drop_eq_getElem_cons hlt]; rfl
      generalize l[j] = x at *
      obtain ⟨xk, xt, xa⟩ := x
      simp only at c0 c1 c2
      have h4 := hs.alloc (.cells #[.int .i64 xk, .string xt, .int .i64 xa] 40)
      go_upto_region 7 with fail
      generalize wr.alloc (.cells #[.int .i64 xk, .string xt, .int .i64 xa] 40) = w4 at *
      generalize wr.heap.size = oo at *
      have d0 : w4.cell? ⟨oo, 0, none⟩ = some (.int .i64 xk) := h4.cell 0
      have d1 : w4.cell? ⟨oo, 1, none⟩ = some (.string xt) := h4.cell 1
      have d2 : w4.cell? ⟨oo, 2, none⟩ = some (.int .i64 xa) := h4.cell 2
      replace h4 := h4.drop
      clear c0 c1 c2 hs
      cases hsm : isSemi ⟨xk, xt, xa⟩ with
      | true =>
        have HN : Hid (splitL (l.drop (j + 1)) [] (if now = [] then P.map Sp.l else P.map Sp.l ++ [now]) = res) := by
          unfold Hid; rw [← HS.out, HST.out, if_pos hsm]
        rw [semi_eq] at hsm
        simp only [Bool.and_eq_true, decide_eq_true_eq] at hsm
        obtain ⟨rfl, rfl⟩ := hsm
        have hcm : ((mk [59]).toList == [59]) = true := by decide +kernel
        clear HS HST
        go_wp2_with (go_at_call 66; (refine (flush_any k w4 R bn bo va vc now vo P (by omega) h4).mono ?_); rintro e w5 ⟨vo', P', rfl, hp1, hp2, h5⟩; rw [← hp1] at HN; clear hp1)
        go_roundw
        case rel => exact ⟨j + 1, [], P', none, 0, vo', by omega, by go_num, by simp, by omega, HN, (rec_nil (E := ETok) (t := 40) h5).put3⟩
        case measure => simp [intOf]; omega
      | false =>
        have HN : Hid (splitL (l.drop (j + 1)) (now ++ [⟨xk, xt, xa⟩]) (P.map Sp.l) = res) := by
          unfold Hid; rw [← HS.out, HST.out, if_neg (by rw [hsm]; decide)]
        have rb := h4.frozen
        have rbc : w4.cell? ⟨bn, 0, none⟩ = some (.slice va now.length vc) := h4.cell 0
        rw [semi_eq] at hsm
        have hts : (xk = 5 ∧ xt ≠ mk [59]) ∨ xk ≠ 5 := by
          by_cases h5 : xk = 5
          · left
            refine ⟨h5, fun e => ?_⟩
            rw [h5, e] at hsm
            simp at hsm
          · exact .inr h5
        clear HS HST hsm
        rcases hts with ⟨rfl, hne⟩ | hne
        · have hcm : (xt.toList == [59]) = false := by
            have h := tl_beq xt (mk [59])
            rw [decide_eq_false hne] at h
            have e : (mk [59]).toList = [59] := by decide +kernel
            rw [e] at h
            exact h
          clear hne
          go_wp2_with (at_builtin; refine wpList_append_sat TTok (h4.get3.alloc' _) (.tmp 25) (.tmp 27) _ 1 1 (tokc ⟨5, xt, xa⟩) rfl rfl rfl rfl rfl (fun _ => ⟨_, rfl, new_cells_at _ _ _ _ (by first | rfl | simp)⟩) (ETok.one ⟨5, xt, xa⟩) (by simp [maxLen]; omega) (by omega) ?_; intro a7 c7 w7 h7; have rf1 := h7.swap.frozen; have rc1 : w7.cell? ⟨bn, 0, none⟩ = some (.slice va now.length vc) := h7.swap.cell 0)
          go_roundw
          case rel => exact ⟨j + 1, now ++ [⟨5, xt, xa⟩], P, a7, c7, vo, by omega, by go_num, by simp; omega, by omega, HN, ((rec_push (E := ETok) h7).swap.set 0 (.slice a7 (now.length + 1) c7)).swap2.of_eq (by simp [Toks])⟩
          case measure => simp [intOf]; omega
        · have hb5 : (xk == 5) = false := by simpa using hne
          clear hne
          go_wp2_with (at_builtin; refine wpList_append_sat TTok (h4.get3.alloc' _) (.tmp 25) (.tmp 27) _ 1 1 (tokc ⟨xk, xt, xa⟩) rfl rfl rfl rfl rfl (fun _ => ⟨_, rfl, new_cells_at _ _ _ _ (by first | rfl | simp)⟩) (ETok.one ⟨xk, xt, xa⟩) (by simp [maxLen]; omega) (by omega) ?_; intro a7 c7 w7 h7; have rf1 := h7.swap.frozen; have rc1 : w7.cell? ⟨bn, 0, none⟩ = some (.slice va now.length vc) := h7.swap.cell 0)
          go_roundw
          case rel => exact ⟨j + 1, now ++ [⟨xk, xt, xa⟩], P, a7, c7, vo, by omega, by go_num, by simp; omega, by omega, HN, ((rec_push (E := ETok) h7).swap.set 0 (.slice a7 (now.length + 1) c7)).swap2.of_eq (by simp [Toks])⟩
          case measure => simp [intOf]; omega
    · have hjl : j = l.length := by omega
      subst hjl
      have hres : res = if now = [] then P.map Sp.l else P.map Sp.l ++ [now] := by rw [← HS.out, List.drop_length]; rfl
      have HRES := Lib.hid hres
      clear hres HS
      go_wp2_with (go_at_call 66; (refine (flush_any k wr R bn bo va vc now vo P (by omega) hs).mono ?_); rintro e w5 ⟨vo', P', rfl, hp1, hp2, h5⟩; have HP := Lib.hid (hp1.trans HRES.out.symm); clear hp1; have q1 : w5.cell? ⟨bo, 0, none⟩ = some vo' := h5.swap.cell 0)
      go_ret
      exact ⟨_, P', rfl, HP.out, by omega, h5.drop.drop⟩

set_option maxRecDepth 100000 in
set_option maxHeartbeats 8000000 in
theorem rsplit_any (k : Env) (w : World) (R : Assn) (a : Option Addr) (cap : Nat) (l : List Tok) (hr : RdT k R a l) (hl : l.length ≤ 1000000) (h : Sat k w R) :
    Calls Try.prog 40 #[.slice a l.length cap] w fun e w' => ∃ v P, e = .returned v ∧ P.map Sp.l = splitL l [] [] ∧ P.length ≤ l.length + 1 ∧ Sat k w' (SpV v P * R) := by
  obtain ⟨res, HX⟩ : ∃ res, Hid (splitL l [] [] = res) := ⟨_, rfl⟩
  rw [HX.out]
  have HR := Lib.hid hr
  have h2 : Sat k w (Toks (.slice none 0 0) [] * (SpV (.slice none 0 0) [] * R)) := rec_nil (E := ETok) (t := 40) (sp_nil h)
  clear hr h
  go_enter Try.func40, Try.ntmps40
  go_wp2_with fail
  -- all but the last round, then the last one
  go_loopw [3, 4, 5] (fun s3 s4 s5 wr => ∃ (j : Nat) (now : List Tok) (P : List Sp), j ≤ l.length + 1 ∧ s5 = .int .i64 j ∧ now.length ≤ j ∧ P.length ≤ j ∧ (j ≤ l.length → Hid (splitL (l.drop j) now (P.map Sp.l) = res)) ∧ (j = l.length + 1 → Hid (P.map Sp.l = res)) ∧
    Sat k wr (Toks s4 now * (SpV s3 P * R))) (fun _ _ s5 _ => l.length + 1 - (intOf s5).toNat)
  case atStart => exact ⟨0, [], [], Nat.zero_le _, rfl, by simp, by simp, fun _ => HX, fun q => (by omega), h2⟩
  case round =>
    clear h2 HX
    obtain ⟨j, now, P, hj, rfl, hn, hP, HS, HE, hs⟩ := hrel
    obtain ⟨va, vc, rfl⟩ := rec_val hs
    obtain ⟨oa, oc, rfl⟩ := sp_val hs.swap
    by_cases hend : j = l.length + 1
    · have hres := (HE hend).out
      have HRS := Lib.hid hres
      have hlt' : ¬ (j : Int) ≤ l.length := by omega
      clear HS HE hend hres
      go_wp2_with fail
      go_ret
      first | exact ⟨_, P, rfl, HRS.out, by omega, hs.drop⟩ | exact ⟨_, rfl, P, HRS.out, by omega, hs.drop⟩ | exact ⟨P, HRS.out, by omega, hs.drop⟩
    replace HS := HS (by omega)
    have hjl : j ≤ l.length := by omega
    have hjI : (j : Int) ≤ l.length := by omega
    clear HE hend
    have hs2 : Sat k wr (Own 22 1 (.slice oa P.length oc) P.length (P.map Sp.v) * (stars spR P * (Toks (.slice va now.length vc) now * R))) := hs.of_eq (by unfold SpV; ac_rfl)
    have hcl : ∀ (a7 : Option Addr) (c7 : Nat) (w7 : World), Sat k w7 (Own 22 1 (.slice a7 (P.length + 1) c7) (P.length + 1) (P.map Sp.v ++ [.slice va now.length vc]) * (stars spR P * (Toks (.slice va now.length vc) now * R))) → Sat k w7 (SpV (.slice a7 (P.length + 1) c7) (P ++ [⟨va, vc, now⟩]) * R) := by
      intro a7 c7 w7 h7
      refine h7.of_eq ?_
      unfold SpV
      rw [stars_snoc, List.length_append, List.map_append]
      show (Own 22 1 (.slice a7 (P.length + 1) c7) (P.length + 1) (P.map Sp.v ++ [.slice va now.length vc]) * (stars spR P * (Toks (.slice va now.length vc) now * R))) = (Own 22 1 (.slice a7 (P.length + 1) c7) (P.length + 1) (P.map Sp.v ++ [.slice va now.length vc]) * (Toks (.slice va now.length vc) now * stars spR P) * R)
      ac_rfl
    have HCL := Lib.hid hcl
    clear hcl
    -- a statement ends here
    have HEND : Hid (∀ P' : List Sp, (P'.map Sp.l = if now = [] then P.map Sp.l else P.map Sp.l ++ [now]) → ((j = l.length) ∨ (∃ hh : j < l.length, isSemi l[j] = true)) →
        ((j + 1 ≤ l.length → Hid (splitL (l.drop (j + 1)) [] (P'.map Sp.l) = res)) ∧ (j + 1 = l.length + 1 → Hid (P'.map Sp.l = res)))) := by
      intro P' hp' hor
      have h := HS.out
      rcases hor with rfl | ⟨hlt, hsm⟩
      · rw [List.drop_length] at h
        refine ⟨fun q => by omega, fun _ => ?_⟩
        unfold Hid
        rw [hp', ← h]; rfl
      · rw [List.drop_eq_getElem_cons hlt] at h
        refine ⟨fun _ => ?_, fun q => by omega⟩
        unfold Hid
        rw [hp', ← h]
        show _ = if isSemi l[j] = true then _ else _
        rw [if_pos hsm]
    by_cases hlt : j < l.length
    · have hlt' : (j : Int) < l.length := by omega
      obtain ⟨g, o, rfl, c0, c1, c2⟩ := rdt_get HR.out hs.drop.drop j hlt
      cases hsm : isSemi l[j] with
      | true =>
        have hsm2 := hsm
        have HL : Hid (∃ hh : j < l.length, isSemi l[j] = true) := ⟨hlt, hsm⟩
        generalize l[j] = x at c0 c1 c2 hsm2
        obtain ⟨xk, xt, xa⟩ := x
        rw [semi_eq] at hsm2
        simp only [Bool.and_eq_true, decide_eq_true_eq] at hsm2
        obtain ⟨rfl, hxt⟩ := hsm2
        simp only at c0 c1 c2
        have hcm : (xt.toList == [59]) = true := by rw [hxt]; decide +kernel
        clear hxt
        by_cases hn0 : now = []
        · subst hn0
          have HN := Lib.hid (HEND.out P (by rw [if_pos rfl]) (.inr HL.out))
          clear HEND HCL HS hs2 hsm
          go_wp2_with fail
          go_roundw
          case rel => exact ⟨j + 1, [], P, by omega, by go_num, by simp, by omega, HN.out.1, HN.out.2, rec_nil (E := ETok) (t := 40) hs.drop⟩
          case measure => simp [intOf]; omega
        · have hnp : (0 : Int) < now.length := by have := List.length_pos_iff.2 hn0; omega
          have HN := Lib.hid (HEND.out (P ++ [⟨va, vc, now⟩]) (by rw [if_neg hn0, List.map_append]; rfl) (.inr HL.out))
          clear HEND HS hn0 hs hsm
          go_wp2_with (at_builtin; refine wpList_append_sat TTs (hs2.alloc' _) (.tmp 42) (.tmp 44) _ 1 1 [.slice va now.length vc] rfl rfl rfl rfl rfl (fun _ => ⟨_, rfl, new_cells_at _ _ _ _ (by first | rfl | simp)⟩) (fun u hu => by simp at hu; subst hu; rfl) (by simp [maxLen]; omega) (by omega) ?_; intro a7 c7 w7 h7)
          go_roundw
          case rel => exact ⟨j + 1, [], P ++ [⟨va, vc, now⟩], by omega, by go_num, by simp, by simp; omega, HN.out.1, HN.out.2, rec_nil (E := ETok) (t := 40) (HCL.out _ _ _ h7)⟩
          case measure => simp [intOf]; omega
      | false =>
        have HN : Hid (splitL (l.drop (j + 1)) (now ++ [l[j]]) (P.map Sp.l) = res) := by
          have h := HS.out
          rw [List.drop_eq_getElem_cons hlt] at h
          unfold Hid
          rw [← h]
          show _ = if isSemi l[j] = true then _ else _
          rw [if_neg (by rw [hsm]; decide)]
        clear HEND HCL HS hs2
        generalize l[j] = x at *
        obtain ⟨xk, xt, xa⟩ := x
        simp only at c0 c1 c2
        rw [semi_eq] at hsm
        have hts : (xk = 5 ∧ xt ≠ mk [59]) ∨ xk ≠ 5 := by
          by_cases h5 : xk = 5
          · left
            refine ⟨h5, fun e => ?_⟩
            rw [h5, e] at hsm
            simp at hsm
          · exact .inr h5
        clear hsm
        rcases hts with ⟨rfl, hne⟩ | hne
        · have hcm : (xt.toList == [59]) = false := by
            have h := tl_beq xt (mk [59])
            rw [decide_eq_false hne] at h
            have e : (mk [59]).toList = [59] := by decide +kernel
            rw [e] at h
            exact h
          clear hne
          go_wp2_with (at_builtin; refine wpList_append_sat TTok (hs.alloc' _) (.tmp 32) (.tmp 37) _ 1 1 (tokc ⟨5, xt, xa⟩) rfl rfl rfl rfl rfl (fun _ => ⟨_, rfl, new_cells_at _ _ _ _ (by first | rfl | simp)⟩) (ETok.one ⟨5, xt, xa⟩) (by simp [maxLen]; omega) (by omega) ?_; intro a7 c7 w7 h7)
          go_roundw
          case rel => exact ⟨j + 1, now ++ [⟨5, xt, xa⟩], P, by omega, by go_num, by simp; omega, by omega, fun _ => HN, fun q => by omega, (rec_push (E := ETok) h7).of_eq (by simp [Toks])⟩
          case measure => simp [intOf]; omega
        · have hb5 : (xk != 5) = true := by simpa using hne
          clear hne
          go_wp2_with (at_builtin; refine wpList_append_sat TTok (hs.alloc' _) (.tmp 32) (.tmp 37) _ 1 1 (tokc ⟨xk, xt, xa⟩) rfl rfl rfl rfl rfl (fun _ => ⟨_, rfl, new_cells_at _ _ _ _ (by first | rfl | simp)⟩) (ETok.one ⟨xk, xt, xa⟩) (by simp [maxLen]; omega) (by omega) ?_; intro a7 c7 w7 h7)
          go_roundw
          case rel => exact ⟨j + 1, now ++ [⟨xk, xt, xa⟩], P, by omega, by go_num, by simp; omega, by omega, fun _ => HN, fun q => by omega, (rec_push (E := ETok) h7).of_eq (by simp [Toks])⟩
          case measure => simp [intOf]; omega
    · have hje : j = l.length := by omega
      have HJE := Lib.hid hje
      have hlt' : ¬ (j : Int) < l.length := by omega
      clear hje hlt
      by_cases hn0 : now = []
      · subst hn0
        have HN := Lib.hid (HEND.out P (by rw [if_pos rfl]) (.inl HJE.out))
        clear HEND HCL HS hs2
        go_wp2_with fail
        go_roundw
        case rel => exact ⟨j + 1, [], P, by omega, by go_num, by simp, by omega, HN.out.1, HN.out.2, rec_nil (E := ETok) (t := 40) hs.drop⟩
        case measure => simp [intOf]; omega
      · have hnp : (0 : Int) < now.length := by have := List.length_pos_iff.2 hn0; omega
        have HN := Lib.hid (HEND.out (P ++ [⟨va, vc, now⟩]) (by rw [if_neg hn0, List.map_append]; rfl) (.inl HJE.out))
        clear HEND HS hn0 hs
        go_wp2_with (at_builtin; refine wpList_append_sat TTs (hs2.alloc' _) (.tmp 42) (.tmp 44) _ 1 1 [.slice va now.length vc] rfl rfl rfl rfl rfl (fun _ => ⟨_, rfl, new_cells_at _ _ _ _ (by first | rfl | simp)⟩) (fun u hu => by simp at hu; subst hu; rfl) (by simp [maxLen]; omega) (by omega) ?_; intro a7 c7 w7 h7)
        go_roundw
        case rel => exact ⟨j + 1, [], P ++ [⟨va, vc, now⟩], by omega, by go_num, by simp, by simp; omega, HN.out.1, HN.out.2, rec_nil (E := ETok) (t := 40) (HCL.out _ _ _ h7)⟩
        case measure => simp [intOf]; omega

end Go.Proofs.Ytkjhfpjjcagecaa
