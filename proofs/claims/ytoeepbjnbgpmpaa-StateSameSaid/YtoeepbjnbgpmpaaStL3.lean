/- The law StateSame: its walk. -/
import Derived.Test.YtoeepbjnbgpmpaaStMu
namespace Go.Proofs.Ytoeepbjnbgpmpaa
set_option linter.all false
open Go Go.RowKit

theorem light_all {P : List TbM} (h : lightS P = true) : P.length ≤ 20 ∧ ∀ p ∈ P, p.nm.size ≤ 60 ∧ p.rows.length ≤ 70 := by
  unfold lightS at h
  rw [Bool.and_eq_true, decide_eq_true_eq, List.all_eq_true] at h
  refine ⟨h.1, fun p hp => ?_⟩
  have := h.2 p hp
  unfold lightT at this
  simpa only [Bool.and_eq_true, decide_eq_true_eq] using this
/-- How a state's tables and rows are many, while it is written into. -/
def ShapeP (n : Nat) (P : List TbM) : Prop := P.length = n ∧ ∀ p ∈ P, p.rows.length ≤ 70
theorem shape_set {n : Nat} {P : List TbM} (h : ShapeP n P) (i : Nat) (q : TbM) (hq : q.rows.length ≤ 70) : ShapeP n (P.set i q) := by
  refine ⟨by rw [List.length_set]; exact h.1, fun p hp => ?_⟩
  rcases List.mem_or_eq_of_mem_set hp with hp | rfl
  · exact h.2 p hp
  · exact hq
def StV (v : Option Addr) (d n : Nat) (P : List TbM) : Assn := Own 43 2 (.slice v n d) n (ETb.recs P) * stars tbR P
theorem stv_of {v : Option Addr} {d : Nat} {P : List TbM} {n : Nat} (hn : P.length = n) : StO (.slice v n d) P = StV v d n P := by
  subst hn; rfl
theorem stv_some {k : Env} {w : World} {R : Assn} {v : Option Addr} {d n : Nat} {P : List TbM} (h : Sat k w (StV v d n P * R)) (hp : 0 < n) : ∃ g, v = some ⟨g, 0, none⟩ := by
  have h1 : Sat k w (Own 43 2 (.slice v n d) n (ETb.recs P) * (stars tbR P * R)) := h.of_eq (by unfold StV; rw [star_assoc])
  obtain ⟨g, hg, _⟩ := own_get h1 hp
  exact ⟨g, hg⟩

set_option maxRecDepth 100000 in
set_option maxHeartbeats 8000000 in
theorem walkStateSame (W : World) (a : Option Addr) (len cap : Nat) (xs : List (List Value)) (z : IsRecs W a len cap 2 (okTabF W) xs) (b : Option Addr) (len2 cap2 : Nat) (ys : List (List Value)) (z2 : IsRecs W b len2 cap2 2 (okTabF W) ys) :
    Calls Try.prog 5 #[.slice a len cap, .slice b len2 cap2] W fun e w' => e = .returned (.bool true) ∧ Below W.heap.size W w' := by
  obtain ⟨P, rfl, _, _, hrP0⟩ := tabs_in z
  obtain ⟨Q, rfl, _, _, hrQ0⟩ := tabs_in z2
  have hrP := hrP0 (World.env W)
  have hrQ := hrQ0 (World.env W)
  clear z z2 hrP0 hrQ0
  have h := Sat.whole W
  have K := Lib.hid (fun w R h => known8_any (World.env W) w R h)
  have L1 := fun w h => light8_any (World.env W) w _ a cap P hrP h
  have L2 := fun w h => light8_any (World.env W) w _ b cap2 Q hrQ h
  cases hl1 : lightS P with
  | false =>
    rw [hl1] at L1
    have E1 := Lib.hid L1
    clear L1 L2 hl1 hrP hrQ
    go_enter Try.func5, Try.ntmps5
    go_wp2_with (first | (go_at_call 14; (with_reducible refine (E1.out _ h).mono ?_); rintro e w1 ⟨rfl, h1⟩) | (go_at_call 9; (refine (K.out _ _ h1).mono ?_); rintro e w2 ⟨rfl, h2⟩))
    go_ret
    exact ⟨rfl, h2.below⟩
  | true =>
    rw [hl1] at L1
    cases hl2 : lightS Q with
    | false =>
      rw [hl2] at L2
      have E1 := Lib.hid L1
      have E2 := Lib.hid L2
      clear L1 L2 hl1 hl2 hrP hrQ
      go_enter Try.func5, Try.ntmps5
      go_wp2_with (first | (go_at_call 14; (with_reducible refine (E2.out _ h1).mono ?_); rintro e w2 ⟨rfl, h2⟩) | (go_at_call 14; (with_reducible refine (E1.out _ h).mono ?_); rintro e w1 ⟨rfl, h1⟩) | (go_at_call 9; (refine (K.out _ _ h2).mono ?_); rintro e w3 ⟨rfl, h3⟩))
      go_ret
      exact ⟨rfl, h3.below⟩
    | true =>
      rw [hl2] at L2
      have E1 := Lib.hid L1
      have E2 := Lib.hid L2
      obtain ⟨hpn, hpr⟩ := light_all hl1
      obtain ⟨hqn, hqr⟩ := light_all hl2
      have HP := Lib.hid hrP
      have HQ := Lib.hid hrQ
      have D3 := Lib.hid (fun w h => scopy_any (World.env W) w _ a cap P hrP (by omega) (fun p hp => by have := (hpr p hp).2; omega) h)
      have D4 := Lib.hid (fun w R' (hm : ∀ w', Sat (World.env W) w' R' → Sat (World.env W) w' (whole W)) h => rcopy_any (World.env W) w R' a cap P (hrP.mono hm) (by omega) (fun p hp => by have := (hpr p hp).2; omega) h)
      have HPR := Lib.hid hpr
      clear L1 L2 hl1 hl2 hrP hrQ hpr hqr
      go_enter Try.func5, Try.ntmps5
      go_upto_region 3 with (first | (go_at_call 14; (with_reducible refine (E2.out _ h1).mono ?_); rintro e w2 ⟨rfl, h2⟩) | (go_at_call 14; (with_reducible refine (E1.out _ h).mono ?_); rintro e w1 ⟨rfl, h1⟩))
      clear E1 E2 h h1
      go_upto_region 4 with (go_at_call 24; (with_reducible refine (D3.out _ h2).mono ?_); rintro e w3 ⟨v5, d5, P5, rfl, hp5, h3⟩)
      have HP5 := Lib.hid hp5
      clear D3 h2 hp5
      go_upto_region 5 with (go_at_call 19; (with_reducible refine (D4.out _ _ (fun _ q => q.drop) h3).mono ?_); rintro e w4 ⟨v6, d6, P6, rfl, hp6, h4⟩)
      have HP6 := Lib.hid hp6
      clear D4 h3 hp6
      obtain ⟨B, hB, h5⟩ : ∃ B, B = _ ∧ Sat (World.env W) w4 B := ⟨_, rfl, h4⟩
      have HB := Lib.hid hB
      obtain ⟨n, hn5⟩ : ∃ n, P5.length = n := ⟨_, rfl⟩
      obtain ⟨m6, hn6⟩ : ∃ m6, P6.length = m6 := ⟨_, rfl⟩
      have hnP : n = P.length := by rw [← hn5]; exact pairs_len HP5.out
      have R5 : RdS (World.env W) B v5 P5 := by rw [hB]; rw [hB] at h5; exact (rds_own h5.swap).mono fun _ q => q.swap
      have R6 : RdS (World.env W) B v6 P6 := by rw [hB]; rw [hB] at h5; exact rds_own h5
      have RP : RdS (World.env W) B a P := HP.out.mono fun _ q => by rw [hB] at q; exact q.drop.drop
      have RQ : RdS (World.env W) B b Q := HQ.out.mono fun _ q => by rw [hB] at q; exact q.drop.drop
      have hpr2 : ∀ p ∈ P, p.rows.length ≤ 1000000000 := fun p hp => by have := (HPR.out p hp).2; omega
      have A1 := fun w h => ssame8_any (World.env W) w B a cap b cap2 P Q RP RQ (by omega) hpr2 h
      have A2 := fun w h => rsame8_any (World.env W) w B a cap b cap2 P Q RP RQ (by omega) hpr2 h
      have A3 := fun w h => ssame8_any (World.env W) w B a cap v5 d5 P P5 RP R5 (by omega) hpr2 h
      have A4 := fun w h => rsame8_any (World.env W) w B a cap v5 d5 P P5 RP R5 (by omega) hpr2 h
      rw [HP5.out, decide_eq_true rfl, hn5] at A3 A4
      obtain ⟨s, hs⟩ : ∃ s, decide (pairs P = pairs Q) = s := ⟨_, rfl⟩
      rw [hs] at A1 A2
      have F1 := Lib.hid A1
      have F2 := Lib.hid A2
      have F3 := Lib.hid A3
      have F4 := Lib.hid A4
      have hss : (s == s) = true := by simp
      rw [hn5, hn6]
      have HN5 := Lib.hid hn5
      have HN6 := Lib.hid hn6
      have HNP := Lib.hid hnP
      have hn20 : n ≤ 20 := by omega
      clear A1 A2 A3 A4 hs R5 R6 RP RQ hB h4 hn5 hn6 hnP hpr2
      go_upto_region 6 with (first | (go_at_call 22; (with_reducible refine (F4.out _ h8).mono ?_); rintro e w9 ⟨rfl, h9⟩) | (go_at_call 25; (with_reducible refine (F3.out _ h7).mono ?_); rintro e w8 ⟨rfl, h8⟩) | (go_at_call 22; (with_reducible refine (F2.out _ h6).mono ?_); rintro e w7 ⟨rfl, h7⟩) | (go_at_call 25; (with_reducible refine (F1.out _ h5).mono ?_); rintro e w6 ⟨rfl, h6⟩))
      clear F1 F2 F3 F4 h5 h6 h7 h8
      have h10 : Sat (World.env W) w9 (StV v5 d5 n P5 * (StO (.slice v6 P6.length d6) P6 * whole W)) := by
        rw [HB.out, HN5.out, stv_of HN5.out] at h9
        exact h9.swap
      have HSH : Hid (ShapeP n P5) := ⟨HN5.out, fun p hp => by
        obtain ⟨q, hq, _, hr⟩ := pairs_mem HP5.out hp
        rw [hr]; exact (HPR.out q hq).2⟩
      clear h9
      go_wp2_with fail
      go_loopw [8] (fun s8 wr => ∃ (i : Nat) (P2 : List TbM), i ≤ n ∧ s8 = .int .i64 i ∧ Hid (ShapeP n P2) ∧ Sat (World.env W) wr (StV v5 d5 n P2 * (StO (.slice v6 P6.length d6) P6 * whole W))) (fun s8 _ => n - (intOf s8).toNat)
      case atStart => exact ⟨0, P5, Nat.zero_le _, rfl, HSH, h10⟩
      case round =>
        clear h10 HSH
        obtain ⟨i, P2, hi, rfl, HSP, hs⟩ := hrel
        by_cases hlt : i < n
        · have hlt' : (i : Int) < n := by omega
          obtain ⟨g, hg⟩ := stv_some hs (by omega)
          subst hg
          have hi2 : i < P2.length := by rw [HSP.out.1]; exact hlt
          have hs2 : Sat (World.env W) wr (StM g d5 n P2 * (StO (.slice v6 P6.length d6) P6 * whole W)) := hs
          obtain ⟨c0, c1, f0⟩ := stm_tab hs2 HSP.out.1 i hi2
          have h11 := stm_name hs2 i hi2 ⟨#[115, 112, 111, 105, 108, 116]⟩
          obtain ⟨r, hr⟩ : ∃ r, P2[i].rows.length = r := ⟨_, rfl⟩
          have HS3 : Hid (ShapeP n (P2.set i ⟨⟨#[115, 112, 111, 105, 108, 116]⟩, P2[i].a, P2[i].c, P2[i].rows⟩) ∧ ∃ h : i < (P2.set i ⟨⟨#[115, 112, 111, 105, 108, 116]⟩, P2[i].a, P2[i].c, P2[i].rows⟩).length, (P2.set i ⟨⟨#[115, 112, 111, 105, 108, 116]⟩, P2[i].a, P2[i].c, P2[i].rows⟩)[i].rows.length = r) :=
            ⟨shape_set HSP.out i _ (show P2[i].rows.length ≤ 70 from HSP.out.2 _ (List.getElem_mem hi2)), by simpa using hi2, by simp [hr]⟩
          have hr70 : r ≤ 70 := by rw [← hr]; exact HSP.out.2 _ (List.getElem_mem hi2)
          generalize P2.set i ⟨⟨#[115, 112, 111, 105, 108, 116]⟩, P2[i].a, P2[i].c, P2[i].rows⟩ = P3 at *
          generalize P2[i].nm = nm0 at *
          generalize P2[i].a = a0 at *
          generalize P2[i].c = cc0 at *
          clear hs hs2 HSP c1
          go_upto_region 10 with fail
          generalize wr.setCell ⟨g, i * 2, none⟩ (.string ⟨#[115, 112, 111, 105, 108, 116]⟩) = w11 at *
          clear c0 f0 hr
          go_wp2_with fail
          go_loopw [9] (fun s9 wr => ∃ (m : Nat) (P4 : List TbM), m ≤ r ∧ s9 = .int .i64 m ∧ Hid (ShapeP n P4 ∧ ∃ h : i < P4.length, P4[i].rows.length = r) ∧ Sat (World.env W) wr (StM g d5 n P4 * (StO (.slice v6 P6.length d6) P6 * whole W))) (fun s9 _ => r - (intOf s9).toNat)
          case atStart => exact ⟨0, P3, Nat.zero_le _, rfl, HS3, h11⟩
          case round =>
            clear h11 HS3
            obtain ⟨m, P4, hm, rfl, HS4, hs⟩ := hrel
            obtain ⟨hi4, hr4⟩ := HS4.out.2
            obtain ⟨_, c1, _⟩ := stm_tab hs HS4.out.1.1 i hi4
            rw [hr4] at c1
            by_cases hmr : m < r
            · have hmr' : (m : Int) < r := by omega
              obtain ⟨gr, hgr, b0, _, fz, _, hst, _⟩ := stm_row hs i hi4 m (by rw [hr4]; exact hmr)
              rw [hgr] at c1
              have h12 := hst (-7)
              have HS5 : Hid (ShapeP n (P4.set i ⟨P4[i].nm, P4[i].a, P4[i].c, P4[i].rows.set m (-7, (P4[i].rows[m]'(by rw [hr4]; exact hmr)).2)⟩) ∧ ∃ h : i < (P4.set i ⟨P4[i].nm, P4[i].a, P4[i].c, P4[i].rows.set m (-7, (P4[i].rows[m]'(by rw [hr4]; exact hmr)).2)⟩).length, (P4.set i ⟨P4[i].nm, P4[i].a, P4[i].c, P4[i].rows.set m (-7, (P4[i].rows[m]'(by rw [hr4]; exact hmr)).2)⟩)[i].rows.length = r) :=
                ⟨shape_set HS4.out.1 i _ (by rw [List.length_set, hr4]; exact hr70), by simpa using hi4, by simp [hr4]⟩
              generalize P4.set i ⟨P4[i].nm, P4[i].a, P4[i].c, P4[i].rows.set m (-7, (P4[i].rows[m]'(by rw [hr4]; exact hmr)).2)⟩ = P5' at *
              generalize P4[i].c = cc4 at *
              generalize (P4[i].rows[m]'(by rw [hr4]; exact hmr)).1 = z4 at *
              clear hst hs HS4 hgr
              go_wp2_with fail
              go_roundw
              case rel => exact ⟨m + 1, P5', by omega, by go_num, HS5, h12⟩
              case measure => simp [intOf]; omega
            · obtain rfl : m = r := by omega
              have HS6 := Lib.hid HS4.out.1
              generalize P4[i].c = cc4 at *
              generalize P4[i].a = a4 at *
              clear hr4 HS4
              go_wp2_with fail
              go_roundw
              case rel => exact ⟨i + 1, P4, by omega, by go_num, HS6, hs⟩
              case measure => simp [intOf]; omega
        · obtain rfl : i = n := by omega
          have A9 := rsame8_any (World.env W) wr _ a cap v6 d6 P P6 (HP.out.mono (R' := StV v5 d5 i P2 * (StO (.slice v6 P6.length d6) P6 * whole W)) fun _ q => q.drop.drop) ((rds_own hs.swap).mono fun _ q => q.swap) (by omega) (fun p hp => by have := (HPR.out p hp).2; omega) hs
          rw [HP6.out, decide_eq_true rfl, HN6.out] at A9
          have E9 := Lib.hid A9
          clear A9
          go_wp2_with (first | (go_at_call 22; (with_reducible refine (E9.out).mono ?_); rintro e w13 ⟨rfl, h13⟩) | (go_at_call 9; (refine (K.out _ _ h13).mono ?_); rintro e w14 ⟨rfl, h14⟩))
          go_ret
          exact ⟨rfl, h14.drop.drop.below⟩

end Go.Proofs.Ytoeepbjnbgpmpaa
