/- The law LineFair, walked. -/
import Derived.Test.YtmiekmgicfnooaaLineK
import Derived.Test.YtmiekmgicfnooaaLinePl
import Derived.Test.YtmiekmgicfnooaaRw
import Derived.OpenShut
namespace Go.Proofs.Ytmiekmgicfnooaa
open Go Go.RowKit

set_option maxHeartbeats 2000000 in
theorem walkLineFair (W : World) (a : Option Addr) (len cap : Nat) (zs : List Int) (z : IsRow .u16 W a len cap zs) (_y : len * 2 ≤ 140737488351232) (now : Int) (w0 : (Lit.int .u16 now).wf = true) :
    Calls Try.prog 3 #[.slice a len cap, .int .u16 now] W fun e w' => e = .returned (.bool true) ∧ Below W.heap.size W w' := by
  obtain ⟨n0, n1⟩ := bounds_u16 w0
  clear w0
  by_cases hl : 200 < len
  · go_enter Try.func3, Try.ntmps3
    go_wp2_with fail
    refine (new_any _ _ _ 10000 (by omega) (by omega) (Sat.whole W)).mono ?_
    rintro e w1 ⟨b, rfl, h1⟩
    go_wp2_with fail
    refine (known_any _ _ _ h1.drop).mono ?_
    rintro e w6 ⟨rfl, h6⟩
    go_wp2_with fail
    go_ret
    exact ⟨rfl, h6.below⟩
  · go_enter Try.func3, Try.ntmps3
    go_wp2_with fail
    refine (new_any _ _ _ 10000 (by omega) (by omega) (Sat.whole W)).mono ?_
    rintro e w1 ⟨b, rfl, h1⟩
    go_wp2_with fail
    obtain ⟨f, hf⟩ : ∃ f : Nat → Int, f = fun j => zs.getD j 0 := ⟨_, rfl⟩
    have HF := Lib.hid hf
    clear hf
    go_loopw [7, 8, 9] (fun sv lv i wr => ∃ j : Nat, j ≤ len ∧ i = .int .i64 j ∧ Sat (World.env W) wr (Ints sv (stayN f now j) * (Ints lv (lateN f now j) * (LineR b (seqF f j) 10000 * whole W)))) (fun _ _ i _ => len - (intOf i).toNat)
    case atStart => exact ⟨0, Nat.zero_le _, rfl, own_nil (own_nil h1)⟩
    case round =>
      obtain ⟨j, hj, rfl, hr⟩ := hrel
      have hb1 := stayN_len f now j
      have hb2 := lateN_len f now j
      by_cases hlt : j < len
      · obtain ⟨g, o, u, rfl, hg, hc, hw, hu⟩ := row_get z hr.drop.drop.drop j hlt
        obtain ⟨u0, u1⟩ := bounds_u16 hw
        have HU : Hid (f j = u) := by unfold Hid; rw [HF.out, hu.out]
        obtain ⟨e1, e2⟩ := seqF_join f j 10000 (by omega) (by rw [HU.out]; omega) (by rw [HU.out]; omega)
        rw [HU.out] at e1 e2
        have E1 := Lib.hid e1
        have E2 := Lib.hid e2
        clear e1 e2 hw
        go_wp2_with fail
        refine (join_any _ _ _ b _ _ _ _ hr.get3).mono ?_
        rintro e w2 ⟨rfl, h2⟩
        rw [E1.out]
        rw [E2.out] at h2
        go_wp2_with fail
        refine (place_any _ _ _ b _ _ _ h2).mono ?_
        rintro e w3 ⟨rfl, h3⟩
        rw [seqF_plc _ _ _ (Nat.lt_succ_self j)]
        clear hg hc
        obtain ⟨g', o', u', hgg, hg, hc, _, hu'⟩ := row_get z h3.drop.drop.drop j hlt
        simp only [Option.some.injEq, Addr.mk.injEq, and_true] at hgg
        obtain ⟨rfl, rfl⟩ := hgg
        obtain rfl : u' = u := hu'.out.trans hu.out.symm
        obtain ⟨sa, sc, rfl⟩ := own_val hr
        obtain ⟨la, lc, rfl⟩ := own_val hr.swap
        by_cases hq : now < u'
        · have HS : Hid (stayN f now (j + 1) = stayN f now j ++ [(j : Int)]) := by unfold Hid; rw [stayN_succ, if_pos (by rw [HU.out]; exact hq)]
          have HL : Hid (lateN f now (j + 1) = lateN f now j) := by unfold Hid; rw [lateN_succ, if_neg (by rw [HU.out]; omega)]
          go_wp2_with (at_builtin; refine wpList_append_sat TInts (h3.swap.alloc' _) (.tmp 67) (.tmp 69) _ 1 1 [.int .i64 j] rfl rfl rfl rfl rfl (fun _ => ⟨_, rfl, new_cells_at _ _ _ _ (by simp)⟩) (ints_one [(j : Int)]) (by simp [maxLen]; omega) (by omega) ?_; intro a2 c2 w4 h4)
          go_roundw
          case rel => exact ⟨j + 1, by omega, by go_num, by rw [HS.out, HL.out]; exact (ints_push h4).put3.swap2.put3⟩
          case measure => simp [intOf]; omega
        · have HS : Hid (stayN f now (j + 1) = stayN f now j) := by unfold Hid; rw [stayN_succ, if_neg (by rw [HU.out]; exact hq)]
          have HL : Hid (lateN f now (j + 1) = lateN f now j ++ [(j : Int)]) := by unfold Hid; rw [lateN_succ, if_pos (by rw [HU.out]; omega)]
          go_wp2_with (at_builtin; refine wpList_append_sat TInts (h3.get3.alloc' _) (.tmp 71) (.tmp 73) _ 1 1 [.int .i64 j] rfl rfl rfl rfl rfl (fun _ => ⟨_, rfl, new_cells_at _ _ _ _ (by simp)⟩) (ints_one [(j : Int)]) (by simp [maxLen]; omega) (by omega) ?_; intro a2 c2 w4 h4)
          go_roundw
          case rel => exact ⟨j + 1, by omega, by go_num, by rw [HS.out, HL.out]; exact (ints_push h4).put3.put3⟩
          case measure => simp [intOf]; omega
      · obtain rfl : j = len := by omega
        obtain ⟨sa, sc, rfl⟩ := own_val hr
        go_wp2_with fail
        refine (late_any _ _ _ b _ _ _ hr.get3).mono ?_
        rintro e w2 ⟨v, rfl, h2⟩
        rw [lateF_seq] at h2
        go_wp2_with fail
        refine (ints_eq _ _ _ _ _ _ _ (h2.get4.swap)).mono ?_
        rintro e w3 ⟨rfl, h3⟩
        rw [show decide (lateN f now j = lateN f now j) = true by simp]
        have HM := Lib.hid (stayF_seq f now j)
        obtain ⟨sp, hsp⟩ : ∃ sp, sp = stayF now (seqF f j) := ⟨_, rfl⟩
        rw [← hsp] at h3 HM
        clear hsp
        have h4 := h3.drop.drop.swap
        clear h3 h2 hr
        have HSL : Hid (sp.length = (stayN f now j).length) := by unfold Hid; rw [← HM.out, List.length_map]
        go_wp2_with fail
        go_loopw [10, 11, 12] (fun i _ _ wr => ∃ t : Nat, t ≤ (stayN f now j).length ∧ i = .int .i64 t ∧ Sat (World.env W) wr (Ints (.slice sa (stayN f now j).length sc) (stayN f now j) * (LineR b (sp.drop t) 10000 * whole W))) (fun i _ _ _ => (stayN f now j).length - (intOf i).toNat)
        case atStart => exact ⟨0, Nat.zero_le _, rfl, h4⟩
        case round =>
          obtain ⟨t, ht, rfl, hr⟩ := hrel
          by_cases hlt : t < (stayN f now j).length
          · have hlt' : t < sp.length := by rw [HSL.out]; exact hlt
            have hd : sp.drop t = sp[t] :: sp.drop (t + 1) := List.drop_eq_getElem_cons hlt'
            rw [hd] at hr
            have hx : sp[t].1 = (stayN f now j)[t] := by
              have h1 : (sp.map (·.1))[t]'(by simpa using hlt') = sp[t].1 := by simp
              rw [← h1]
              congr 1
            clear hd
            go_wp2_with fail
            refine (first_any _ _ _ b _ _ _ hr.swap).mono ?_
            rintro e w5 ⟨rfl, h5⟩
            rw [hx]
            obtain ⟨g, rfl, hg, hc⟩ := ints_get h5.swap t hlt
            clear hx
            go_wp2_with fail
            go_roundw
            case rel => exact ⟨t + 1, by omega, by go_num, h5.swap⟩
            case measure => simp [intOf]; omega
          · have hd : sp.drop t = [] := List.drop_eq_nil_of_le (by rw [HSL.out]; omega)
            rw [hd] at hr
            clear hd
            go_wp2_with fail
            refine (first_nobody _ _ _ b _ hr.swap).mono ?_
            rintro e w5 ⟨rfl, h5⟩
            go_wp2_with fail
            refine (known_any _ _ _ h5.drop.drop).mono ?_
            rintro e w6 ⟨rfl, h6⟩
            go_wp2_with fail
            go_ret
            exact ⟨rfl, h6.below⟩

end Go.Proofs.Ytmiekmgicfnooaa
