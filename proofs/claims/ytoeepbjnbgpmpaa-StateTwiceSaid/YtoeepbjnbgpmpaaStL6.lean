/- The law StateTwice: its walk. -/
import Derived.Test.YtoeepbjnbgpmpaaStTb
import Derived.Test.YtoeepbjnbgpmpaaStKq
namespace Go.Proofs.Ytoeepbjnbgpmpaa
set_option linter.all false
open Go Go.RowKit

theorem light_all {P : List TbM} (h : lightS P = true) : P.length ≤ 20 ∧ ∀ p ∈ P, p.nm.size ≤ 60 ∧ p.rows.length ≤ 70 := by
  unfold lightS at h
  rw [Bool.and_eq_true, decide_eq_true_eq, List.all_eq_true] at h
  refine ⟨h.1, fun p hp => ?_⟩
  have := h.2 p hp
  unfold lightT at this
  simpa only [Bool.and_eq_true, decide_eq_true_eq] using this
theorem name_pos {s : ByteArray} (h : nameB s = true) : 1 ≤ s.size ∧ s.size ≤ 30 := by
  have h2 : s.size ≤ 30 := by
    unfold nameB at h
    simp only [Bool.and_eq_true, decide_eq_true_eq] at h
    exact h.2.1
  refine ⟨?_, h2⟩
  rcases Nat.eq_zero_or_pos s.size with q | q
  · have : s = ⟨#[]⟩ := by
      apply ByteArray.ext
      exact Array.eq_empty_of_size_eq_zero q
    rw [this] at h
    have hn : nameB ⟨#[]⟩ = false := by decide +kernel
    rw [hn] at h; cases h
  · exact q
theorem text_guard {x : CmdM} (h : textB x ≠ ⟨#[]⟩) : (1 ≤ x.tb.size ∧ x.tb.size ≤ 30) ∧ (0 ≤ x.kk ∧ x.kk ≤ 999999) ∧ 0 ≤ x.vv ∧ x.vv ≤ 999999 := by
  have hg : guardB x = true := by
    cases hg : guardB x with
    | true => rfl
    | false => exfalso; apply h; unfold textB; rw [hg]; rfl
  unfold guardB at hg
  simp only [Bool.and_eq_true] at hg
  exact ⟨name_pos hg.1, (inB_iff _).1 hg.2.1, (inB_iff _).1 hg.2.2.1⟩


set_option maxRecDepth 100000 in
set_option maxHeartbeats 8000000 in
theorem walkStateTwice (W : World) (a : Option Addr) (len cap : Nat) (xs : List (List Value)) (z : IsRecs W a len cap 2 (okTabF W) xs) (cm : CmdM) (hcm : okCm cm) :
    Calls Try.prog 8 #[.slice a len cap, .agg (cmc cm).toArray] W fun e w' => e = .returned (.bool true) ∧ Below W.heap.size W w' := by
  obtain ⟨P, rfl, _, _, hrP0⟩ := tabs_in z
  have hrP := hrP0 (World.env W)
  clear z hrP0
  have hq := (Sat.whole W).alloc (cmO cm)
  have K := Lib.hid (fun w R h => known8_any (World.env W) w R h)
  have TG := Lib.hid (fun h => text_guard (x := cm) h)
  unfold okCm at hcm
  obtain ⟨kind, tb, kk, vv, kd⟩ := cm
  simp only [cmc] at hq hcm ⊢
  obtain ⟨B0, hB0, h0⟩ : ∃ B0, B0 = blk W.heap.size (cmO ⟨kind, tb, kk, vv, kd⟩) * whole W ∧ Sat (World.env W) (W.alloc (cmO ⟨kind, tb, kk, vv, kd⟩)) B0 := ⟨_, rfl, hq⟩
  have HB0 : Hid (∀ {w' : World}, Sat (World.env W) w' B0 → Sat (World.env W) w' (whole W)) := by unfold Hid; intro w' q; rw [hB0] at q; exact q.drop
  have RP : RdS (World.env W) B0 a P := hrP.mono fun _ q => HB0.out q
  have HCE : Hid (∀ {w' : World}, Sat (World.env W) w' B0 → w'.cell? ⟨W.heap.size, 0, none⟩ = some (.int .i64 kind) ∧ w'.cell? ⟨W.heap.size, 1, none⟩ = some (.string tb) ∧ w'.cell? ⟨W.heap.size, 2, none⟩ = some (.int .i64 kk) ∧ w'.cell? ⟨W.heap.size, 3, none⟩ = some (.int .i64 vv) ∧ w'.cell? ⟨W.heap.size, 4, none⟩ = some (.bool kd)) := by
    unfold Hid; intro w' q; rw [hB0] at q
    exact ⟨q.cell 0, q.cell 1, q.cell 2, q.cell 3, q.cell 4⟩
  obtain ⟨tx, htx⟩ : ∃ tx, textB ⟨kind, tb, kk, vv, kd⟩ = tx := ⟨_, rfl⟩
  obtain ⟨lb, hlb⟩ : ∃ lb, lightS P = lb := ⟨_, rfl⟩
  obtain ⟨rb, hrb⟩ : ∃ rb, rightB (pairs P) = rb := ⟨_, rfl⟩
  have E1' := fun w h => light8_any (World.env W) w B0 a cap P RP h
  rw [hlb] at E1'
  have E1 := Lib.hid E1'
  have E2' := fun w h (q : lb = true) => sright_any (World.env W) w B0 a cap P RP (by rw [q] at hlb; have := (light_all hlb).1; omega) (fun p hp => by rw [q] at hlb; have := ((light_all hlb).2 p hp).2; omega) h
  rw [hrb] at E2'
  have E3' := fun w h (q : tb.size ≤ 30) => stext_any (World.env W) w B0 ⟨kind, tb, kk, vv, kd⟩ (by show tb.size ≤ 100000; omega) h
  rw [htx] at E3'
  have HLB := Lib.hid hlb
  have HRB := Lib.hid hrb
  have HTX := Lib.hid htx
  have HRP := Lib.hid RP
  have hb3 : ((kind : Int) == 3) = decide (kind = 3) := by rw [Bool.eq_iff_iff]; simp
  clear hq hB0 hrP E1' hlb hrb htx RP
  go_enter Try.func8, Try.ntmps8
  go_upto_region 1 with fail
  generalize W.alloc (cmO ⟨kind, tb, kk, vv, kd⟩) = w0 at *
  obtain ⟨o, ho⟩ : ∃ o, W.heap.size = o := ⟨_, rfl⟩
  rw [ho] at HCE
  have HO := Lib.hid ho
  simp only [ho]
  clear ho
  obtain ⟨c0, c1, c2, c3, c4⟩ := HCE.out h0
  cases lb with
  | false =>
    go_wp2_with (first | (go_at_call 14; (with_reducible refine (E1.out _ h0).mono ?_); rintro e w1 ⟨rfl, h1⟩) | (go_at_call 9; (refine (K.out _ B0 h1).mono ?_); rintro e w9 ⟨rfl, h9⟩))
    go_ret
    exact ⟨rfl, HO.out ▸ (HB0.out h9).below⟩
  | true =>
    have E2 := Lib.hid (fun w h => E2' w h rfl)
    clear E2'
    cases rb with
    | false =>
      go_wp2_with (first | (go_at_call 14; (with_reducible refine (E1.out _ h0).mono ?_); rintro e w1 ⟨rfl, h1⟩) | (go_at_call 15; (with_reducible refine (E2.out _ h1).mono ?_); rintro e w2 ⟨rfl, h2⟩) | (go_at_call 9; (refine (K.out _ B0 h2).mono ?_); rintro e w9 ⟨rfl, h9⟩))
      go_ret
      exact ⟨rfl, HO.out ▸ (HB0.out h9).below⟩
    | true =>
      by_cases h30 : 30 < tb.size
      · have h30' : (30 : Int) < tb.size := by omega
        go_wp2_with (first | (go_at_call 14; (with_reducible refine (E1.out _ h0).mono ?_); rintro e w1 ⟨rfl, h1⟩) | (go_at_call 15; (with_reducible refine (E2.out _ h1).mono ?_); rintro e w2 ⟨rfl, h2⟩; obtain ⟨c0, c1, c2, c3, c4⟩ := HCE.out h2) | (go_at_call 9; (refine (K.out _ B0 h2).mono ?_); rintro e w9 ⟨rfl, h9⟩))
        go_ret
        exact ⟨rfl, HO.out ▸ (HB0.out h9).below⟩
      · have h30' : ¬ (30 : Int) < tb.size := by omega
        have E3 := Lib.hid (fun w h => E3' w h (by omega))
        clear E3'
        by_cases hte : tx = ⟨#[]⟩
        · have ht1 : (tx.toList == ([] : List UInt8)) = true := by rw [hte]; decide +kernel
          have ht2 : tx.toList = [] := by simpa using ht1
          clear hte
          go_wp2_with (
            (first | (go_at_call 14; (with_reducible refine (E1.out _ h0).mono ?_); rintro e w1 ⟨rfl, h1⟩; obtain ⟨c0, c1, c2, c3, c4⟩ := HCE.out h1) | (go_at_call 15; (with_reducible refine (E2.out _ h1).mono ?_); rintro e w2 ⟨rfl, h2⟩; obtain ⟨c0, c1, c2, c3, c4⟩ := HCE.out h2) | (go_at_call 12; (with_reducible refine (E3.out _ h2).mono ?_); rintro e w3 ⟨rfl, h3⟩; obtain ⟨c0, c1, c2, c3, c4⟩ := HCE.out h3) | (go_at_call 9; (refine (K.out _ B0 (by assumption)).mono ?_); rintro e w9 ⟨rfl, h9⟩)))
          go_ret
          exact ⟨rfl, HO.out ▸ (HB0.out h9).below⟩
        · have ht0 : ¬ tx.toList = [] := by
            intro q
            apply hte
            apply ByteArray.ext
            have : tx.data.toList = [] := by rw [← ByteArray.toList_eq]; exact q
            exact Array.toList_eq_nil_iff.1 this
          have ht1 : (tx.toList == ([] : List UInt8)) = false := by rw [Bool.eq_false_iff]; intro q; exact ht0 (by simpa using q)
          have ht2 : tx.toList.isEmpty = false := by rw [Bool.eq_false_iff]; intro q; exact ht0 (by simpa using q)
          have HTE : Hid (¬ textB ⟨kind, tb, kk, vv, kd⟩ = ⟨#[]⟩) := by unfold Hid; rw [HTX.out]; exact hte
          clear hte
          by_cases k3 : kind = 3
          · rw [decide_eq_true k3] at hb3
            clear k3
            go_wp2_with (
              (first | (go_at_call 14; (with_reducible refine (E1.out _ h0).mono ?_); rintro e w1 ⟨rfl, h1⟩; obtain ⟨c0, c1, c2, c3, c4⟩ := HCE.out h1) | (go_at_call 15; (with_reducible refine (E2.out _ h1).mono ?_); rintro e w2 ⟨rfl, h2⟩; obtain ⟨c0, c1, c2, c3, c4⟩ := HCE.out h2) | (go_at_call 12; (with_reducible refine (E3.out _ h2).mono ?_); rintro e w3 ⟨rfl, h3⟩; obtain ⟨c0, c1, c2, c3, c4⟩ := HCE.out h3) | (go_at_call 9; (refine (K.out _ B0 (by assumption)).mono ?_); rintro e w9 ⟨rfl, h9⟩)))
            go_ret
            exact ⟨rfl, HO.out ▸ (HB0.out h9).below⟩
          · rw [decide_eq_false k3] at hb3
            have HK3 := Lib.hid k3
            clear k3
            have hright : RightP (pairs P) := (rightB_iff _).1 HRB.out
            obtain ⟨g1, g2, g3⟩ := TG.out HTE.out
            obtain ⟨⟨S1, r1, z1⟩, hd1⟩ : ∃ t, doT ⟨kind, tb, kk, vv, kd⟩ (pairs P) = t := ⟨_, rfl⟩
            have hright1 : RightP S1 := by
              have := do_right ⟨kind, tb, kk, vv, kd⟩ (pairs P) hright g2 g3 g1
              rw [hd1] at this; exact this
            obtain ⟨⟨S2, r2, z2⟩, hd2⟩ : ∃ t, doT ⟨kind, tb, kk, vv, kd⟩ S1 = t := ⟨_, rfl⟩
            obtain ⟨n1, hn1⟩ : ∃ n1, S1.length = n1 := ⟨_, rfl⟩
            obtain ⟨n2, hn2⟩ : ∃ n2, S2.length = n2 := ⟨_, rfl⟩
            obtain ⟨m1, hm1⟩ : ∃ m1, r1.length = m1 := ⟨_, rfl⟩
            obtain ⟨m2, hm2⟩ : ∃ m2, r2.length = m2 := ⟨_, rfl⟩
            have D1 := Lib.hid (fun w h => sdo_lit (World.env W) w B0 a cap P ⟨kind, tb, kk, vv, kd⟩ P.length rfl HRP.out (S := pairs P) rfl (rightP_ok hright) hd1 n1 m1 hn1 hm1 h)
            have D2 := Lib.hid (fun w B a c P1 (hl : P1.length = n1) (hs : RdS (World.env W) B a P1) (hp : pairs P1 = S1) h => sdo_lit (World.env W) w B a c P1 ⟨kind, tb, kk, vv, kd⟩ n1 hl hs (S := S1) hp (rightP_ok hright1) hd2 n2 m2 hn2 hm2 h)
            have HD1 := Lib.hid hd1
            have HD2 := Lib.hid hd2
            have HR1 := Lib.hid hright1
            have HN1 := Lib.hid hn1
            have HN2 := Lib.hid hn2
            clear hd1 hd2 hright hright1 hn1 hn2 hm1 hm2 g1 g2 g3
            go_upto_region 4 with (
              (first | (go_at_call 14; (with_reducible refine (E1.out _ h0).mono ?_); rintro e w1 ⟨rfl, h1⟩; obtain ⟨c0, c1, c2, c3, c4⟩ := HCE.out h1) | (go_at_call 15; (with_reducible refine (E2.out _ h1).mono ?_); rintro e w2 ⟨rfl, h2⟩; obtain ⟨c0, c1, c2, c3, c4⟩ := HCE.out h2) | (go_at_call 12; (with_reducible refine (E3.out _ h2).mono ?_); rintro e w3 ⟨rfl, h3⟩; obtain ⟨c0, c1, c2, c3, c4⟩ := HCE.out h3) | (go_at_call 20; (with_reducible refine (D1.out _ h3).mono ?_); rintro e w4 ⟨v1, d1, P1, vr1, dr1, B1, rfl, hp1, hl1, hs1, hr1, hmm1, h4⟩; obtain ⟨c0, c1, c2, c3, c4⟩ := HCE.out (hmm1 _ h4))))
            have HM1 := Lib.hid hmm1
            have HS1 := Lib.hid hs1
            have HL1 := Lib.hid hl1
            have HP1 := Lib.hid hp1
            have D2' := Lib.hid (D2.out w4 B1 v1 d1 P1 hl1 hs1 hp1 h4)
            clear D1 D2 hmm1 hs1 hl1 hp1 hr1 h4 h0 h1 h2 h3
            go_upto_region 5 with (go_at_call 20; (with_reducible refine (D2'.out).mono ?_); rintro e w5 ⟨v2, d2, P2, vr2, dr2, B2, rfl, hp2, hl2, hs2, hr2, hmm2, h5⟩; obtain ⟨c0, c1, c2, c3, c4⟩ := HCE.out (HM1.out _ (hmm2 _ h5)))
            have HM2 := Lib.hid hmm2
            have HP2 := Lib.hid hp2
            have HL2 := Lib.hid hl2
            have HS2 := Lib.hid hs2
            clear D2' hmm2 hp2 hl2 hs2 hr2
            have HEND : Hid (∀ w', Sat (World.env W) w' B2 → Below W.heap.size W w') := fun w' q => (HB0.out (HM1.out _ (HM2.out _ q))).below
            by_cases hz : z1 = 0
            · have z0 : ((z1 : Int) == 0) = true := by simp [hz]
              have z0' : ((z1 : Int) != 0) = false := by simp [hz]
              have h12 : (doT ⟨kind, tb, kk, vv, kd⟩ (pairs P)).2.2 = 0 := by rw [HD1.out]; exact hz
              have SM : Hid (∀ (hpp : S2 = S1) w' B (hm : ∀ w', Sat (World.env W) w' B → Sat (World.env W) w' B2) (h : Sat (World.env W) w' B), Calls Try.prog 25 #[.slice v1 n1 d1, .slice v2 n2 d2] w' fun e w'' => e = .returned (.bool true) ∧ Sat (World.env W) w'' B) := by
                intro hpp w' B hm h
                have hr : ∀ p ∈ P1, p.rows.length ≤ 1000000000 := by
                  intro p hp
                  have := (rightP_ok HR1.out).2 p.p (by rw [← HP1.out]; exact List.mem_map_of_mem hp)
                  have h64 := this.2.1
                  show p.p.2.length ≤ _
                  omega
                have := ssame8_any (World.env W) w' B v1 d1 v2 d2 P1 P2 (HS1.out.mono fun _ q => HM2.out _ (hm _ q)) (HS2.out.mono fun _ q => hm _ q) (by have := HR1.out.1; rw [HL1.out, ← HN1.out]; omega) hr h
                rw [HL1.out, HL2.out, HP1.out, HP2.out, hpp, decide_eq_true rfl] at this
                exact this
              by_cases k5 : kind = 5
              · have hb5 : ((kind : Int) == 5) = true := by simp [k5]
                obtain ⟨q1, q2⟩ := do_made ⟨kind, tb, kk, vv, kd⟩ (pairs P) k5 h12
                rw [HD1.out] at q1 q2
                simp only at q1 q2
                rw [HD2.out] at q1
                obtain ⟨hs21, q1'⟩ := Prod.mk.inj q1
                obtain ⟨_, hz2⟩ := Prod.mk.inj q1'
                have z9 : ((z2 : Int) == 9) = true := by simp [hz2]
                have D3 := Lib.hid (sdo_lit (World.env W) w5 B2 v1 d1 P1 ⟨1, tb, 0, 0, false⟩ n1 HL1.out (HS1.out.mono fun _ q => HM2.out _ q) (S := S1) HP1.out (rightP_ok HR1.out) q2 n1 0 HN1.out rfl h5)
                have SM2 := Lib.hid (SM.out hs21)
                clear q1 q2 q1' hs21 hz2 h12 SM hz k5
                go_wp2_with (first | (go_at_call 20; (with_reducible refine (D3.out).mono ?_); rintro e w6 ⟨v3, d3, P3, vr3, dr3, B3, rfl, hp3, hl3, hs3, hr3, hmm3, h6⟩) | (go_at_call 25; (with_reducible refine (SM2.out _ _ hmm3 h6).mono ?_); rintro e w7 ⟨rfl, h7⟩) | (go_at_call 9; (refine (K.out _ _ h7).mono ?_); rintro e w9 ⟨rfl, h9⟩))
                go_ret
                exact ⟨rfl, HO.out ▸ HEND.out _ (hmm3 _ h9)⟩
              · have hb5 : ((kind : Int) == 5) = false := by simp [k5]
                obtain ⟨q1, q2⟩ := do_twice ⟨kind, tb, kk, vv, kd⟩ (pairs P) HK3.out k5 h12
                rw [HD1.out] at q1 q2
                simp only at q1 q2
                rw [HD2.out] at q1 q2
                simp only at q1 q2
                have z20 : ((z2 : Int) == 0) = true := by simp [q2]
                have SM2 := Lib.hid (SM.out q1)
                clear q1 q2 h12 SM hz k5
                go_wp2_with (first | (go_at_call 25; (with_reducible refine (SM2.out _ B2 (fun _ q => q) h5).mono ?_); rintro e w7 ⟨rfl, h7⟩) | (go_at_call 9; (refine (K.out _ _ h7).mono ?_); rintro e w9 ⟨rfl, h9⟩))
                go_ret
                exact ⟨rfl, HO.out ▸ HEND.out _ h9⟩
            · have z0 : ((z1 : Int) == 0) = false := by simp [hz]
              have z0' : ((z1 : Int) != 0) = true := by simp [hz]
              have he := do_err ⟨kind, tb, kk, vv, kd⟩ (pairs P) (by rw [HD1.out]; exact hz)
              rw [HD1.out] at he
              simp only at he
              have h2 := HD2.out
              rw [he, HD1.out] at h2
              obtain ⟨_, q1'⟩ := Prod.mk.inj h2
              obtain ⟨_, hz2⟩ := Prod.mk.inj q1'
              have zz : ((z1 : Int) == z2) = true := by simp [hz2]
              clear he h2 q1' hz2 hz
              go_wp2_with (go_at_call 9; (refine (K.out _ _ h5).mono ?_); rintro e w9 ⟨rfl, h9⟩)
              go_ret
              exact ⟨rfl, HO.out ▸ HEND.out _ h9⟩

end Go.Proofs.Ytoeepbjnbgpmpaa
