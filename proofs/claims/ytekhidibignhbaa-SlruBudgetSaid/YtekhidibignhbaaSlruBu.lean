/- The law SlruBudget, walked. -/
import Derived.Test.YtekhidibignhbaaSlruL
import Derived.Deep.DeepCutAuto
namespace Go.Proofs.Ytekhidibignhbaa
set_option linter.unusedSimpArgs false
set_option linter.unusedVariables false
open Go Go.RowKit

set_option maxRecDepth 100000 in
set_option maxHeartbeats 16000000 in
theorem walkSlruBudget (W : World) (hs : List Int) (hl : hs.length = 3) (hw : ∀ z ∈ hs, (Lit.int .u8 z).wf = true) (a : Option Addr) (len cap : Nat) (xs : List (List Value)) (z : IsRecs W a len cap 3 okOp xs) :
    Calls Try.prog 3 #[.agg (hs.map (Value.int .u8)).toArray, .slice a len cap] W fun e w' => e = .returned (.bool true) ∧ Below W.heap.size W w' := by
  obtain ⟨p, q, r, rfl⟩ : ∃ p q r, hs = [p, q, r] := by
    match hs, hl with
    | [p, q, r], _ => exact ⟨p, q, r, rfl⟩
  obtain ⟨p0, p1⟩ := bounds_u8 (hw p (by simp))
  obtain ⟨q0, q1⟩ := bounds_u8 (hw q (by simp))
  obtain ⟨r0, r1⟩ := bounds_u8 (hw r (by simp))
  clear hl hw
  have hz := (Sat.whole W).alloc (.cells #[.int .u8 p, .int .u8 q, .int .u8 r] 22)
  go_enter Try.func3, Try.ntmps3
  go_upto_region 2 with fail
  obtain ⟨al, hal, al1, al2⟩ : ∃ al : Int, 1 + p = al ∧ 1 ≤ al ∧ al ≤ 256 := ⟨_, rfl, by omega, by omega⟩
  simp only [hal]
  clear hal
  obtain ⟨kp, hkp, kp1, kp2⟩ : ∃ kp : Int, q % (al + 1) = kp ∧ 0 ≤ kp ∧ kp ≤ al := by
    have h1 := Int.emod_nonneg q (show al + 1 ≠ 0 by omega)
    have h2 := Int.emod_lt_of_pos q (show (0 : Int) < al + 1 by omega)
    exact ⟨_, rfl, h1, by omega⟩
  obtain ⟨mo, hmo, mo1, mo2⟩ : ∃ mo : Int, 1 + r % al = mo ∧ 1 ≤ mo ∧ mo ≤ al := by
    have h1 := Int.emod_nonneg r (show al ≠ 0 by omega)
    have h2 := Int.emod_lt_of_pos r (show (0 : Int) < al by omega)
    exact ⟨_, rfl, by omega, by omega⟩
  go_wp2_with fail
  simp only [hkp, hmo]
  clear hkp hmo
  refine (new_any _ _ _ al kp mo (by omega) (by omega) (by omega) (by omega) (by omega) (by omega) hz.drop).mono ?_
  rintro e w1 ⟨b, rfl, h1⟩
  go_wp2_with fail
  go_loopw [10] (fun i wr => ∃ (j : Nat) (T K : List KV), j ≤ len ∧ j ≤ 60 ∧ i = .int .i64 j ∧ Sat (World.env W) wr (StoreV b al kp mo T K * whole W)) (fun i _ => 60 - (intOf i).toNat)
  case atStart => exact ⟨0, [], [], Nat.zero_le _, Nat.zero_le _, rfl, h1⟩
  case round =>
    clear h1 hz
    obtain ⟨j, T, K, hj, hj2, rfl, hr⟩ := hrel
    by_cases hlt : j < len ∧ j < 60
    · obtain ⟨hlt, hlt2⟩ := hlt
      obtain ⟨g, o, cs, rfl, _, _, ⟨kd, key, sz, rfl, _, _, _⟩, hcs⟩ := rec_at z (by decide) j hlt
      obtain ⟨hg, q0⟩ := whole_at hr.drop (hcs 0 (by decide))
      obtain ⟨_, q1⟩ := whole_at hr.drop (hcs 1 (by decide))
      obtain ⟨_, q2⟩ := whole_at hr.drop (hcs 2 (by decide))
      simp only [Nat.add_zero] at q0
      clear hcs
      by_cases hkl : 100 < key.size
      · go_wp2_with fail
        go_roundw
        case rel => exact ⟨j + 1, T, K, by omega, by omega, by go_num, hr.alloc' _⟩
        case measure => simp [intOf]; omega
      have hkl' : ¬ (100 : Int) < (key.size : Int) := by omega
      clear hkl
      go_upto_if 74 with fail
      have h3 := hr.alloc (.cells #[.int .i64 kd, .string key, .int .i64 sz] 29)
      generalize wr.alloc (Obj.cells #[Value.int IntKind.i64 kd, Value.string key, Value.int IntKind.i64 sz] 29) = w0 at *
      generalize wr.heap.size = og at *
      replace h3 := h3.swap
      have a0 : w0.cell? ⟨og, 0, none⟩ = some (.int .i64 kd) := h3.drop.cell 0
      have a1 : w0.cell? ⟨og, 1, none⟩ = some (.string key) := h3.drop.cell 1
      have a2 : w0.cell? ⟨og, 2, none⟩ = some (.int .i64 sz) := h3.drop.cell 2
      clear hr hg q0 q1 q2
      go_cut [] (fun wx => ∃ (T K : List KV), Sat (World.env W) wx (StoreV b al kp mo T K * (blk og (.cells #[.int .i64 kd, .string key, .int .i64 sz] 29) * whole W)))
      case first =>
        by_cases k0 : kd = 0
        · subst k0
          by_cases z1 : sz < 1
          · have z1' : ¬ 1 ≤ sz := by omega
            go_wp2_with fail
            refine (put_bad _ _ _ b al kp mo T K key sz (by omega) h3).mono ?_
            rintro e w3 ⟨rfl, h4⟩
            rw [show putE mo sz = 1 from by rw [putE, if_pos (by omega)]]
            go_wp2_with fail
            refine (keys_f _ _ _ b al kp mo _ _ h4).mono ?_
            rintro e w4 ⟨la, lc, rfl, h5⟩
            have a0 : w4.cell? ⟨og, 0, none⟩ = some (.int .i64 0) := h5.drop.drop.cell 0
            have a1 : w4.cell? ⟨og, 1, none⟩ = some (.string key) := h5.drop.drop.cell 1
            have a2 : w4.cell? ⟨og, 2, none⟩ = some (.int .i64 sz) := h5.drop.drop.cell 2
            go_wp2_with fail
            have d1 : decide (1 ≤ sz) = false := decide_eq_false (by omega)
            go_quiet (fail)
            go_wp2_with fail
            go_meet
            case rel => exact ⟨T, K, h5.drop.drewN _⟩
          by_cases z2 : mo < sz
          · have z1' : 1 ≤ sz := by omega
            have z2' : ¬ sz ≤ mo := by omega
            go_wp2_with fail
            refine (put_bad _ _ _ b al kp mo T K key sz (by omega) h3).mono ?_
            rintro e w3 ⟨rfl, h4⟩
            rw [show putE mo sz = 2 from by rw [putE, if_neg (by omega), if_pos (by omega)]]
            go_wp2_with fail
            refine (keys_f _ _ _ b al kp mo _ _ h4).mono ?_
            rintro e w4 ⟨la, lc, rfl, h5⟩
            have a0 : w4.cell? ⟨og, 0, none⟩ = some (.int .i64 0) := h5.drop.drop.cell 0
            have a1 : w4.cell? ⟨og, 1, none⟩ = some (.string key) := h5.drop.drop.cell 1
            have a2 : w4.cell? ⟨og, 2, none⟩ = some (.int .i64 sz) := h5.drop.drop.cell 2
            go_wp2_with fail
            have d1 : decide (1 ≤ sz) = true := decide_eq_true (by omega)
            have d2 : decide (sz ≤ mo) = false := decide_eq_false (by omega)
            go_quiet (fail)
            go_wp2_with fail
            go_meet
            case rel => exact ⟨T, K, h5.drop.drewN _⟩
          · have z1' : 1 ≤ sz := by omega
            have z2' : sz ≤ mo := by omega
            go_wp2_with fail
            refine (put_ok _ _ _ b al kp mo T K key sz z1' z2' h3).mono ?_
            rintro e w3 ⟨v, rfl, h4⟩
            go_wp2_with fail
            refine (keys_f _ _ _ b al kp mo _ _ h4.drop).mono ?_
            rintro e w4 ⟨la, lc, rfl, h5⟩
            have a0 : w4.cell? ⟨og, 0, none⟩ = some (.int .i64 0) := h5.drop.drop.cell 0
            have a1 : w4.cell? ⟨og, 1, none⟩ = some (.string key) := h5.drop.drop.cell 1
            have a2 : w4.cell? ⟨og, 2, none⟩ = some (.int .i64 sz) := h5.drop.drop.cell 2
            obtain ⟨gl, rfl, hgl, dl⟩ := strs_get h5 0 (by simp)
            simp only [List.map_cons, List.getElem_cons_zero] at dl
            have hlp : ((((key, sz) :: (roomR al key sz T K).1).length : Nat) : Int) ≠ 0 := by rw [List.length_cons]; omega
            have hlp' : (((((key, sz) :: (roomR al key sz T K).1).length : Nat) : Int) == 0) = false := by simpa using hlp
            have hlp2 : (0 : Int) < ((((key, sz) :: (roomR al key sz T K).1).length : Nat) : Int) := by rw [List.length_cons]; omega
            have h5d := h5.drop
            generalize ((key, sz) :: (roomR al key sz T K).1).length = nl at *
            generalize hT2 : (key, sz) :: (roomR al key sz T K).1 = T2 at h5d
            generalize hK2 : (roomR al key sz T K).2.1 = K2 at h5d
            clear hT2 hK2 h5 h4 h3
            go_wp2_with fail
            have d1 : decide (1 ≤ sz) = true := decide_eq_true (by omega)
            have d2 : decide (sz ≤ mo) = true := decide_eq_true (by omega)
            go_quiet (fail)
            go_wp2_with fail
            go_meet
            case rel => exact ⟨T2, K2, h5d.drewN _⟩
        · have b0 : (kd == 0) = false := by simpa using k0
          go_wp2_with fail
          go_meet
          case rel => exact ⟨T, K, h3⟩
      case rest =>
        clear h3 a0 a1 a2 T K
        obtain ⟨T, K, h3⟩ := hcut
        have a0 : wc.cell? ⟨og, 0, none⟩ = some (.int .i64 kd) := h3.drop.cell 0
        have a1 : wc.cell? ⟨og, 1, none⟩ = some (.string key) := h3.drop.cell 1
        have a2 : wc.cell? ⟨og, 2, none⟩ = some (.int .i64 sz) := h3.drop.cell 2
        go_upto_if 117 with fail
        go_cut [] (fun wx => ∃ (T K : List KV), Sat (World.env W) wx (StoreV b al kp mo T K * (blk og (.cells #[.int .i64 kd, .string key, .int .i64 sz] 29) * whole W)))
        case first =>
          by_cases k1 : kd = 1
          · subst k1
            cases hms : mget key (T ++ K) with
            | none =>
              go_wp2_with fail
              refine (has_any _ _ _ b al kp mo T K key h3).mono ?_
              rintro e w3 ⟨rfl, h4⟩
              rw [hms]
              have a1 : w3.cell? ⟨og, 1, none⟩ = some (.string key) := h4.drop.cell 1
              go_wp2_with fail
              refine (touch_none _ _ _ b al kp mo T K key hms h4).mono ?_
              rintro e w4 ⟨rfl, h5⟩
              have a1 : w4.cell? ⟨og, 1, none⟩ = some (.string key) := h5.drop.cell 1
              go_wp2_with fail
              refine (has_any _ _ _ b al kp mo T K key h5).mono ?_
              rintro e w5 ⟨rfl, h6⟩
              rw [hms]
              go_wp2_with fail
              go_meet
              case rel => exact ⟨T, K, h6⟩
            | some s =>
              have hafter : Hid ((mget key ((touchR kp key s T K).1 ++ (touchR kp key s T K).2.1)).isSome = true) := by unfold Hid; rw [mget_isSome]; exact touchR_mem _ _ _ _ _
              have htouch : ∀ w0 R, Sat (World.env W) w0 (StoreV b al kp mo T K * R) → Calls Try.prog 12 #[.pointer (some ⟨b, 0, none⟩), .string key] w0 fun e w' => ∃ v, e = .returned (.tuple #[v, .bool true]) ∧ Sat (World.env W) w' (Strs v (touchR kp key s T K).2.2 * (StoreV b al kp mo (touchR kp key s T K).1 (touchR kp key s T K).2.1 * R)) := by
                intro w0 R h
                by_cases hks : kp < s
                · exact touch_t _ _ _ b al kp mo T K key s hms hks h
                · exact touch_k _ _ _ b al kp mo T K key s hms hks h
              have HTO := Lib.hid htouch
              clear htouch
              generalize (touchR kp key s T K).1 = T2 at *
              generalize (touchR kp key s T K).2.1 = K2 at *
              go_wp2_with fail
              refine (has_any _ _ _ b al kp mo T K key h3).mono ?_
              rintro e w3 ⟨rfl, h4⟩
              rw [hms]
              have a1 : w3.cell? ⟨og, 1, none⟩ = some (.string key) := h4.drop.cell 1
              go_wp2_with fail
              refine (HTO.out _ _ h4).mono ?_
              rintro e w4 ⟨v, rfl, h5'⟩
              have h5 := h5'.drop
              have a1 : w4.cell? ⟨og, 1, none⟩ = some (.string key) := h5.drop.cell 1
              go_wp2_with fail
              refine (has_any _ _ _ b al kp mo T2 K2 key h5).mono ?_
              rintro e w5 ⟨rfl, h6⟩
              rw [hafter.out]
              go_wp2_with fail
              go_meet
              case rel => exact ⟨T2, K2, h6⟩
          · have b1 : (kd == 1) = false := by simpa using k1
            go_wp2_with fail
            go_meet
            case rel => exact ⟨T, K, h3⟩
        case rest =>
          clear h3 a0 a1 a2 T K
          obtain ⟨T, K, h6⟩ := hcut
          go_wp2_with fail
          obtain ⟨f1, f2, f3, f4, f5, _, _, f6, f7⟩ := sv_facts h6
          have s1 : ¬ al < sumV (T) + sumV (K) := by omega
          have s2 : ¬ kp < sumV (K) := by omega
          have HN := Lib.hid f3
          generalize HTT : T = TT at *
          generalize HKK : K = KK at *
          clear f3 HTT HKK
          refine (keys_f _ _ _ b al kp mo _ _ h6).mono ?_
          rintro e y1 ⟨aa, ac, rfl, k1⟩
          go_wp2_with fail
          refine (keys_t _ _ _ b al kp mo _ _ k1.swap).mono ?_
          rintro e y2 ⟨ba, bc, rfl, k2⟩
          go_wp2_with fail
          refine (bytes_f _ _ _ b al kp mo _ _ k2.swap).mono ?_
          rintro e y3 ⟨rfl, k3⟩
          go_wp2_with fail
          refine (bytes_t _ _ _ b al kp mo _ _ k3).mono ?_
          rintro e y4 ⟨rfl, k4⟩
          go_wp2_with fail
          refine (bytes_t _ _ _ b al kp mo _ _ k4).mono ?_
          rintro e y5 ⟨rfl, k5⟩
          go_wp2_with fail
          clear k1 k2 k3 k4
          go_loopw [23, 24] (fun xi _ wr' => ∃ x : Nat, x ≤ TT.length ∧ xi = .int .i64 x ∧ Sat (World.env W) wr' (StoreV b al kp mo TT KK * (Own 9 1 (.slice ba KK.length bc) KK.length (strs (KK.map (·.1))) * (Own 9 1 (.slice aa TT.length ac) TT.length (strs (TT.map (·.1))) * whole W)))) (fun xi _ _ => TT.length - (intOf xi).toNat)
          case atStart => exact ⟨0, Nat.zero_le _, rfl, k5.get4.drop⟩
          case round =>
            obtain ⟨x, hx, rfl, hr2⟩ := hrel
            by_cases hxl : x < TT.length
            · go_wp2_with fail
              go_loopw [24] (fun zi wr' => ∃ z : Nat, z ≤ KK.length ∧ zi = .int .i64 z ∧ Sat (World.env W) wr' (StoreV b al kp mo TT KK * (Own 9 1 (.slice ba KK.length bc) KK.length (strs (KK.map (·.1))) * (Own 9 1 (.slice aa TT.length ac) TT.length (strs (TT.map (·.1))) * whole W)))) (fun zi _ => KK.length - (intOf zi).toNat)
              case atStart => exact ⟨0, Nat.zero_le _, rfl, hr2⟩
              case round =>
                obtain ⟨z, hz, rfl, hr3⟩ := hrel
                by_cases hzl : z < KK.length
                · obtain ⟨ga, rfl, hga, da⟩ := strs_get hr3.get3 x (by simpa using hxl)
                  obtain ⟨gb, rfl, hgb, db⟩ := strs_get hr3.swap z (by simpa using hzl)
                  have hne : ((TT.map (·.1))[x]'(by simpa using hxl)) ≠ ((KK.map (·.1))[z]'(by simpa using hzl)) := by
                    have hn := HN.out
                    rw [List.map_append, List.nodup_append] at hn
                    exact hn.2.2 _ (List.getElem_mem _) _ (List.getElem_mem _)
                  generalize ((TT.map (·.1))[x]'(by simpa using hxl)) = ka at *
                  generalize ((KK.map (·.1))[z]'(by simpa using hzl)) = kb at *
                  have hbq : (ka.toList == kb.toList) = false := by rw [tl_beq]; simp [hne]
                  have q1 : (x : Int) < TT.length := by omega
                  have q2 : (z : Int) < KK.length := by omega
                  clear hne
                  go_wp2_with fail
                  go_quiet (fail)
                  go_wp2_with fail
                  go_roundw
                  case rel => exact ⟨z + 1, by omega, by go_num, hr3.drewN _⟩
                  case measure => simp [intOf]; omega
                · obtain rfl : z = KK.length := by omega
                  go_wp2_with fail
                  go_roundw
                  case rel => exact ⟨x + 1, by omega, by go_num, hr3⟩
                  case measure => simp [intOf]; omega
            · obtain rfl : x = TT.length := by omega
              go_wp2_with fail
              go_roundw
              case rel =>
                refine ⟨j + 1, TT, KK, ?_, ?_, ?_, ?_⟩
                · omega
                · omega
                · go_num
                · exact hr2.swap.drop.swap.drop
              case measure => simp [intOf]; omega
    · have hlt' : ¬ (j : Int) < len ∨ ((j : Int) < len ∧ ¬ (j : Int) < 60) := by omega
      clear hlt
      rcases hlt' with hq | ⟨hq, hq2⟩
      all_goals
        go_wp2_with fail
        refine (known_any _ _ _ hr.drop).mono ?_
        rintro e w6 ⟨rfl, h6⟩
        go_wp2_with fail
        go_ret
        exact ⟨rfl, h6.below⟩

end Go.Proofs.Ytekhidibignhbaa
