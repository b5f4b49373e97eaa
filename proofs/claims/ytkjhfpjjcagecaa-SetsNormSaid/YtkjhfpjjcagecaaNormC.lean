/- Contracts: pontoonref05.points, pontoonref05.Number. -/
import Derived.Test.YtkjhfpjjcagecaaNormB
namespace Go.Proofs.Ytkjhfpjjcagecaa
set_option linter.all false
open Go Go.RowKit

set_option maxHeartbeats 2000000 in
theorem points_any (w : World) (s : ByteArray) (hs : s.size ≤ 1000000000) :
    Calls Try.prog 83 #[.string s] w fun e w' => e = .returned (.int .i64 (dots (bl s) : Nat)) ∧ w = w' := by
  obtain ⟨d, HD⟩ : ∃ d, Hid (dots (bl s) = d) := ⟨_, rfl⟩
  rw [HD.out]
  go_enter Try.func83, Try.ntmps83
  go_wp2_with fail
  go_loopw [3, 4] (fun s3 s4 wr => ∃ (j n : Nat), j ≤ s.size ∧ n ≤ j ∧ s4 = .int .i64 j ∧ s3 = .int .i64 n ∧ Hid (d = n + dots ((bl s).drop j)) ∧ w = wr) (fun _ s4 _ => s.size - (intOf s4).toNat)
  case atStart => exact ⟨0, 0, Nat.zero_le _, Nat.le_refl _, rfl, rfl, by unfold Hid; rw [← HD.out]; simp, rfl⟩
  case round =>
    clear HD
    obtain ⟨j, n, hj, hn, rfl, rfl, HD, rfl⟩ := hrel
    by_cases hlt : j < s.size
    · have hlt' : (j : Int) < s.size := by omega
      have hst := HD.out
      rw [bl_drop s j hlt, dots_cons] at hst
      by_cases h46 : s[j].toNat = 46
      · have hb : ((s[j].toNat : Int) == 46) = true := by simp [h46]
        rw [if_pos h46] at hst
        have HN : Hid (d = n + 1 + dots ((bl s).drop (j + 1))) := by unfold Hid; omega
        clear hst h46 HD
        go_wp2_with fail
        go_roundw
        case rel => exact ⟨j + 1, n + 1, by omega, by omega, by go_num, by go_num, HN, trivial⟩
        case measure => simp [intOf]; omega
      · have hb : ((s[j].toNat : Int) == 46) = false := by simp; omega
        rw [if_neg h46] at hst
        have HN : Hid (d = n + dots ((bl s).drop (j + 1))) := by unfold Hid; omega
        clear hst h46 HD
        go_wp2_with fail
        go_roundw
        case rel => exact ⟨j + 1, n, by omega, by omega, by go_num, rfl, HN, trivial⟩
        case measure => simp [intOf]; omega
    · have hd : d = n := by
        rw [HD.out, List.drop_eq_nil_of_le (by rw [bl_len]; omega)]; rfl
      subst hd
      have hlt' : ¬ (j : Int) < s.size := by omega
      clear HD hlt
      go_wp2_with fail
      go_ret
      exact ⟨rfl, rfl⟩

/-- How long a text is. -/
def strLen : Value → Nat
  | .string t => t.size
  | _ => 0
set_option maxRecDepth 100000 in
set_option maxHeartbeats 8000000 in
theorem rnumber_any (w : World) (s : ByteArray) (hs : s.size ≤ 1000000) :
    Calls Try.prog 59 #[.string s] w fun e w' => e = .returned (.string (mk (numL (bl s)))) ∧ w = w' := by
  obtain ⟨t0, ht⟩ : ∃ t0, t0 = mk (lead (bl s)) := ⟨_, rfl⟩
  obtain ⟨res, hres⟩ : ∃ res, mk (numL (bl s)) = res := ⟨_, rfl⟩
  have hnum : (dots (bl t0) ≠ 1 ∧ res = t0) ∨ (dots (bl t0) = 1 ∧ lastDot (strip0 (bl t0)) = true ∧ res = mk (strip0 (bl t0)).dropLast) ∨ (dots (bl t0) = 1 ∧ lastDot (strip0 (bl t0)) = false ∧ res = mk (strip0 (bl t0))) := by
    have hb : bl t0 = lead (bl s) := by rw [ht]
    rw [hb, ← hres]
    unfold numL
    by_cases h1 : dots (lead (bl s)) ≠ 1
    · left; rw [if_pos h1]; exact ⟨h1, ht.symm⟩
    · right
      rw [if_neg h1]
      have h1' : dots (lead (bl s)) = 1 := by omega
      cases h2 : lastDot (strip0 (lead (bl s))) with
      | true => left; exact ⟨h1', rfl, by rw [if_pos rfl]⟩
      | false => right; exact ⟨h1', rfl, by rw [if_neg (by decide)]⟩
  rw [hres]
  have HNUM := Lib.hid hnum
  have HX : Hid (mk (lead (bl s)) = t0) := ht.symm
  clear hnum ht hres
  go_enter Try.func59, Try.ntmps59
  go_upto_block 0 with fail
  go_cut [0] (fun s0 wx => s0 = .string t0 ∧ t0.size ≤ s.size ∧ w = wx)
  case first =>
    go_wp2_with fail
    go_loopw [0] (fun s0 wr => ∃ t : ByteArray, t.size ≤ s.size ∧ s0 = .string t ∧ Hid (mk (lead (bl t)) = t0) ∧ w = wr) (fun s0 _ => strLen s0)
    case atStart => exact ⟨s, Nat.le_refl _, rfl, HX, rfl⟩
    case round =>
      clear HX HNUM
      obtain ⟨t, hts, rfl, HT, rfl⟩ := hrel
      have hst := lead_step (bl t)
      by_cases h1 : 1 < t.size
      · have h1' : (1 : Int) < t.size := by omega
        have h0' : (0 : Int) < t.size := by omega
        have h1l : (1 : Int) ≤ t.size := by omega
        have hl : (bl t) = t[0] :: t[1] :: (bl t).drop 2 := by
          have := bl_drop t 0 (by omega)
          rw [List.drop_zero] at this
          rw [← bl_drop t 1 h1]; exact this
        have hso : soL (bl t) = (decide (t[0].toNat = 48) && decide (t[1].toNat ≠ 46)) := by rw [hl]; rfl
        by_cases k0 : t[0].toNat = 48
        · have b0 : ((t[0].toNat : Int) == 48) = true := by simp [k0]
          by_cases k1 : t[1].toNat = 46
          · have b1 : ((t[1].toNat : Int) == 46) = true := by simp [k1]
            have he : t = t0 := by rw [← HT.out, hst, if_neg (by rw [hso, decide_eq_true k0, decide_eq_false (not_not_intro k1)]; decide), mk_bl]
            subst he
            clear hst hso hl k0 k1 HT
            go_wp2_with fail
            go_meet
            case rel => exact ⟨rfl, hts, rfl⟩
          · have b1 : ((t[1].toNat : Int) == 46) = false := by simp; omega
            have HN : Hid (mk (lead (bl (t.extract 1 t.size))) = t0) := by
              unfold Hid
              rw [← HT.out, hst, if_pos (by rw [hso, decide_eq_true k0, decide_eq_true k1]; rfl), bl_ex_end]
            clear hst hso hl k0 k1 HT
            go_wp2_with fail
            go_roundw
            case rel => exact ⟨t.extract 1 t.size, by simp; omega, rfl, HN, trivial⟩
            case measure => simp [strLen]; omega
        · have b0 : ((t[0].toNat : Int) == 48) = false := by simp; omega
          have he : t = t0 := by rw [← HT.out, hst, if_neg (by rw [hso, decide_eq_false k0]; simp), mk_bl]
          subst he
          clear hst hso hl k0 HT
          go_wp2_with fail
          go_meet
          case rel => exact ⟨rfl, hts, rfl⟩
      · have hso : soL (bl t) = false := by
          cases hq : soL (bl t) with
          | false => rfl
          | true => have := soL_long hq; rw [bl_len] at this; omega
        have he : t = t0 := by rw [← HT.out, hst, if_neg (by rw [hso]; decide), mk_bl]
        subst he
        have h1' : ¬ (1 : Int) < t.size := by omega
        clear hst hso h1 HT
        go_wp2_with fail
        go_meet
        case rel => exact ⟨rfl, hts, rfl⟩
  case rest =>
    clear HX
    obtain ⟨rfl, hts, rfl⟩ := hcut
    have CP := Lib.hid (fun w => points_any w t0 (by omega))
    have hnum := HNUM.out
    rcases hnum with ⟨h1, hr⟩ | ⟨hd, h2, rfl⟩ | ⟨hd, h2, rfl⟩
    · have hb : ((dots (bl t0) : Int) == 1) = false := by simp; omega
      have HRR := Lib.hid hr
      clear h1 HNUM hr
      go_wp2_with (go_at_call 83; (with_reducible refine (CP.out _).mono ?_); rintro e w9 ⟨rfl, rfl⟩)
      go_ret
      exact ⟨by rw [HRR.out]; rfl, rfl⟩
    all_goals
      obtain ⟨t2, ht2⟩ : ∃ t2, t2 = mk (strip0 (bl t0)) := ⟨_, rfl⟩
      have hb2 : bl t2 = strip0 (bl t0) := by rw [ht2]
      have hd2 : dots (bl t2) = 1 := by rw [hb2, dots_strip _ _ rfl]; exact hd
      have hp2 := dots_pos hd2
      have hld := lastDot_of t2 hp2
      rw [hb2, h2] at hld
      have HI : Hid (t2.extract 0 (t2.size - 1) = mk (strip0 (bl t0)).dropLast) := by unfold Hid; rw [init_eq, hb2]
      have HT2 := Lib.hid ht2
      have HX : Hid (mk (strip0 (bl t0)) = t2 ∧ dots (bl t0) = 1) := ⟨ht2.symm, hd⟩
      have HLD := Lib.hid hld
      rw [hd] at CP
      clear hd h2 hld hb2 hd2 ht2 HNUM
      go_wp2_with (go_at_call 83; (with_reducible refine (CP.out _).mono ?_); rintro e w9 ⟨rfl, rfl⟩)
      go_loopw [0] (fun s0 wr => ∃ t : ByteArray, t.size ≤ s.size ∧ s0 = .string t ∧ Hid (mk (strip0 (bl t)) = t2 ∧ dots (bl t) = 1) ∧ w = wr) (fun s0 _ => strLen s0)
      case atStart => exact ⟨t0, hts, rfl, HX, rfl⟩
      case round =>
        clear HX
        obtain ⟨t, ht, rfl, HT, rfl⟩ := hrel
        have h1 : 0 < t.size := dots_pos HT.out.2
        obtain ⟨m, hm⟩ : ∃ m, m = t.size - 1 := ⟨_, rfl⟩
        have hms : m < t.size := by omega
        have hmI : (m : Int) < t.size := by omega
        have hmI2 : (m : Int) ≤ t.size := by omega
        have hwm : IntKind.i64.wrap ((t.size : Int) - 1) = m := by rw [IntWalk.i64_in _ (by omega)]; omega
        have hlast := bl_last t h1
        have hst := HT.out
        rw [hlast, strip0_snoc, dots_snoc] at hst
        have hin := bl_init t
        simp only [← hm] at hst hlast hin
        by_cases hc : t[m].toNat = 48
        · rw [if_pos hc, if_neg (by omega)] at hst
          have HN : Hid (mk (strip0 (bl (t.extract 0 m))) = t2 ∧ dots (bl (t.extract 0 m)) = 1) := by
            unfold Hid; rw [hin]; exact hst
          have hb : ((t[m].toNat : Int) == 48) = true := by simp [hc]
          have HM := Lib.hid hm
          clear hc hst HT hlast hin hm
          go_wp2_with fail
          go_roundw
          case rel => exact ⟨t.extract 0 m, by simp; omega, rfl, HN, trivial⟩
          case measure => simp [strLen]; omega
        · rw [if_neg hc, ← hlast, mk_bl] at hst
          have he : t = t2 := hst.1
          have hb : ((t[m].toNat : Int) == 48) = false := by simp; omega
          have hld := HLD.out
          have hi := HI.out
          have HT2' := HT2.out
          subst he
          simp only [← hm] at hld hi
          have hld2 := (show _ = decide ((t[m]'hms).toNat = 46) from hld)
          clear hld
          have hld := hld2
          clear hld2
          clear hst HT hlast hin hm HI HT2 HLD
          by_cases h46 : t[m].toNat = 46
          · have hb46 : ((t[m].toNat : Int) == 46) = true := by simp [h46]
            rw [decide_eq_true h46] at hld
            have HII := Lib.hid hi
            have HTT := Lib.hid HT2'
            clear hc h46 hi HT2'
            first
            | (cases hld; done)
            | (clear hld
               go_wp2_with fail
               go_ret
               exact ⟨by rw [← HII.out]; rfl, rfl⟩)
          · have hb46 : ((t[m].toNat : Int) == 46) = false := by simp; omega
            rw [decide_eq_false h46] at hld
            have HII := Lib.hid hi
            have HTT := Lib.hid HT2'
            clear hc h46 hi HT2'
            first
            | (cases hld; done)
            | (clear hld
               go_wp2_with fail
               go_ret
               exact ⟨by rw [← HTT.out]; rfl, rfl⟩)

end Go.Proofs.Ytkjhfpjjcagecaa
