/- The law StateCommands: its walk. -/
import Derived.Test.YtoeepbjnbgpmpaaStLw
namespace Go.Proofs.Ytoeepbjnbgpmpaa
set_option linter.all false
open Go Go.RowKit

set_option maxRecDepth 100000 in
set_option maxHeartbeats 8000000 in
theorem walkStateCommands (W : World) (a : Option Addr) (len cap : Nat) (xs : List (List Value)) (z : IsRecs W a len cap 3 okTok xs) (cm : CmdM) (hcm : okCm cm) :
    Calls Try.prog 3 #[.slice a len cap, .agg (cmc cm).toArray] W fun e w' => e = .returned (.bool true) ∧ Below W.heap.size W w' := by
  obtain ⟨l, rfl, hlc, hcmx, _, hr0⟩ := toks_in z
  have HR := Lib.hid (hr0 (World.env W))
  clear z hr0
  have h := Sat.whole W
  have h0 := h.alloc (cmO cm)
  have K := Lib.hid (fun w R h => known8_any (World.env W) w R h)
  unfold okCm at hcm
  obtain ⟨kind, tb, kk, vv, kd⟩ := cm
  simp only [cmc] at h0 hcm ⊢
  clear h
  go_enter Try.func3, Try.ntmps3
  go_upto_region 1 with fail
  generalize W.alloc (cmO ⟨kind, tb, kk, vv, kd⟩) = w0 at *
  obtain ⟨o, ho⟩ : ∃ o, W.heap.size = o := ⟨_, rfl⟩
  have HO := Lib.hid ho
  rw [ho] at h0
  simp only [ho]
  clear ho
  have c1 : w0.cell? ⟨o, 1, none⟩ = some (.string tb) := h0.cell 1
  by_cases h60 : 60 < l.length
  · have h60' : (60 : Int) < l.length := by omega
    go_wp2_with (go_at_call 9; (refine (K.out _ _ h0).mono ?_); rintro e w2 ⟨rfl, h2⟩)
    go_ret
    exact ⟨rfl, HO.out ▸ h2.drop.below⟩
  · have h60' : ¬ (60 : Int) < l.length := by omega
    by_cases h200 : 200 < tb.size
    · have h200' : (200 : Int) < tb.size := by omega
      go_wp2_with (go_at_call 9; (refine (K.out _ _ h0).mono ?_); rintro e w2 ⟨rfl, h2⟩)
      go_ret
      exact ⟨rfl, HO.out ▸ h2.drop.below⟩
    · have h200' : ¬ (200 : Int) < tb.size := by omega
      go_wp2_with fail
      go_loopw [5] (fun s5 wr => ∃ j : Nat, j ≤ l.length ∧ s5 = .int .i64 j ∧ Hid (∀ x ∈ l.take j, x.t.size ≤ 100) ∧ w0 = wr) (fun s5 _ => l.length - (intOf s5).toNat)
      case atStart => exact ⟨0, Nat.zero_le _, rfl, by intro x hx; simp at hx, rfl⟩
      case round =>
        obtain ⟨j, hj, rfl, HS, rfl⟩ := hrel
        by_cases hlt : j < l.length
        · have hlt' : (j : Int) < l.length := by omega
          obtain ⟨g, og, rfl, t0, t1, t2⟩ := rdt_get HR.out h0.drop j hlt
          have HTK : Hid (l.take (j + 1) = l.take j ++ [l[j]]) := by unfold Hid; rw [List.take_succ_eq_append_getElem hlt]
          generalize l[j] = x at *
          by_cases hx : 100 < x.t.size
          · have hx' : (100 : Int) < x.t.size := by omega
            go_wp2_with (go_at_call 9; (refine (K.out _ _ h0).mono ?_); rintro e w2 ⟨rfl, h2⟩)
            go_ret
            exact ⟨rfl, HO.out ▸ h2.drop.below⟩
          · have hx' : ¬ (100 : Int) < x.t.size := by omega
            have HN : Hid (∀ y ∈ l.take (j + 1), y.t.size ≤ 100) := by
              unfold Hid
              rw [HTK.out]
              intro y hy
              rw [List.mem_append, List.mem_singleton] at hy
              rcases hy with hy | rfl
              · exact HS.out y hy
              · omega
            clear HS HTK
            go_wp2_with fail
            go_roundw
            case rel => exact ⟨j + 1, by omega, by go_num, HN, by first | rfl | trivial⟩
            case measure => simp [intOf]; omega
        · obtain rfl : j = l.length := by omega
          have hall : ∀ x ∈ l, x.t.size ≤ 100000 := by
            have := HS.out
            rw [List.take_of_length_le (Nat.le_refl _)] at this
            intro x hx
            have := this x hx
            omega
          have D1 := Lib.hid (scmd_any (World.env W) w0 _ a cap l (HR.out.mono fun _ q => q.drop) (by omega) hall h0)
          have HALL := Lib.hid hall
          clear HS hall
          obtain ⟨r, hr⟩ : ∃ r, cmdR l = r := ⟨_, rfl⟩
          rw [hr] at D1
          obtain ⟨rc, hrc⟩ : ∃ rc, r.getD cmZ = rc := ⟨_, rfl⟩
          obtain ⟨rb, hrb⟩ : ∃ rb, r.isSome = rb := ⟨_, rfl⟩
          unfold CmdQ at D1
          rw [hrc, hrb] at D1
          have D2 := Lib.hid (fun w R' (hm : ∀ w', Sat (World.env W) w' R' → Sat (World.env W) w' (whole W)) h => rcmd_any (World.env W) w R' a cap l (HR.out.mono hm) (by omega) HALL.out h)
          rw [hr] at D2
          unfold CmdQ at D2
          rw [hrc, hrb] at D2
          clear hr hrc hrb
          obtain ⟨rk, rt, rq, rv, rd⟩ := rc
          try simp only at D1 D2
          go_upto_region 9 with (go_at_call 10; (with_reducible refine (D1.out).mono ?_); rintro e w1 ⟨rfl, h1⟩; have h2 := h1.alloc (cmO ⟨rk, rt, rq, rv, rd⟩))
          clear D1 h0 c1 h1
          generalize w1.alloc (cmO ⟨rk, rt, rq, rv, rd⟩) = w2 at *
          generalize w1.heap.size = o6 at *
          go_upto_region 10 with (go_at_call 11; (with_reducible refine (D2.out _ _ (fun _ q => q.drop.drop) h2).mono ?_); rintro e w3 ⟨rfl, h3⟩; have h4 := h3.alloc (cmO ⟨rk, rt, rq, rv, rd⟩))
          clear D2 h2 h3
          generalize w3.alloc (cmO ⟨rk, rt, rq, rv, rd⟩) = w4 at *
          generalize w3.heap.size = o8 at *
          obtain ⟨Bz, hBz, h5⟩ : ∃ Bz, Bz = _ ∧ Sat (World.env W) w4 Bz := ⟨_, rfl, h4⟩
          have HD : Hid (∀ {w' : World}, Sat (World.env W) w' Bz → (w'.cell? ⟨o, 0, none⟩ = some (.int .i64 kind) ∧ w'.cell? ⟨o, 1, none⟩ = some (.string tb) ∧ w'.cell? ⟨o, 2, none⟩ = some (.int .i64 kk) ∧ w'.cell? ⟨o, 3, none⟩ = some (.int .i64 vv) ∧ w'.cell? ⟨o, 4, none⟩ = some (.bool kd) ∧ w'.cell? ⟨o6, 0, none⟩ = some (.int .i64 rk) ∧ w'.cell? ⟨o6, 1, none⟩ = some (.string rt) ∧ w'.cell? ⟨o6, 2, none⟩ = some (.int .i64 rq) ∧ w'.cell? ⟨o6, 3, none⟩ = some (.int .i64 rv) ∧ w'.cell? ⟨o6, 4, none⟩ = some (.bool rd) ∧ w'.cell? ⟨o8, 0, none⟩ = some (.int .i64 rk) ∧ w'.cell? ⟨o8, 1, none⟩ = some (.string rt) ∧ w'.cell? ⟨o8, 2, none⟩ = some (.int .i64 rq) ∧ w'.cell? ⟨o8, 3, none⟩ = some (.int .i64 rv) ∧ w'.cell? ⟨o8, 4, none⟩ = some (.bool rd))) := by
            unfold Hid
            intro w' q
            rw [hBz] at q
            exact ⟨q.get3.cell 0, q.get3.cell 1, q.get3.cell 2, q.get3.cell 3, q.get3.cell 4, q.swap.cell 0, q.swap.cell 1, q.swap.cell 2, q.swap.cell 3, q.swap.cell 4, q.cell 0, q.cell 1, q.cell 2, q.cell 3, q.cell 4⟩
          have HW : Hid (∀ {w' : World}, Sat (World.env W) w' Bz → Sat (World.env W) w' (whole W)) := by
            unfold Hid
            intro w' q
            rw [hBz] at q
            exact q.drop.drop.drop
          obtain ⟨tx, htx⟩ : ∃ tx, textB ⟨kind, tb, kk, vv, kd⟩ = tx := ⟨_, rfl⟩
          have A1 := fun w' q => stext_any (World.env W) w' Bz ⟨kind, tb, kk, vv, kd⟩ (by show tb.size ≤ 100000; omega) q
          have A2 := fun w' q => rtext_any (World.env W) w' Bz ⟨kind, tb, kk, vv, kd⟩ (by show tb.size ≤ 100000; omega) q
          rw [htx] at A1 A2
          have E1 := Lib.hid A1
          have E2 := Lib.hid A2
          have hceq := fun (w : World) => cm_eq ⟨rk, rt, rq, rv, rd⟩ ⟨rk, rt, rq, rv, rd⟩ w
          have heq : eqC ⟨rk, rt, rq, rv, rd⟩ ⟨rk, rt, rq, rv, rd⟩ = true := (eqC_iff _ _).2 rfl
          rw [heq] at hceq
          have htt : (tx.toList == tx.toList) = true := by simp
          have hbb : (rb == rb) = true := by simp
          clear h4 hBz A1 A2 htx heq
          go_region_held3 (fun w' => w'.cell? ⟨o, 0, none⟩ = some (.int .i64 kind) ∧ w'.cell? ⟨o, 1, none⟩ = some (.string tb) ∧ w'.cell? ⟨o, 2, none⟩ = some (.int .i64 kk) ∧ w'.cell? ⟨o, 3, none⟩ = some (.int .i64 vv) ∧ w'.cell? ⟨o, 4, none⟩ = some (.bool kd) ∧ w'.cell? ⟨o6, 0, none⟩ = some (.int .i64 rk) ∧ w'.cell? ⟨o6, 1, none⟩ = some (.string rt) ∧ w'.cell? ⟨o6, 2, none⟩ = some (.int .i64 rq) ∧ w'.cell? ⟨o6, 3, none⟩ = some (.int .i64 rv) ∧ w'.cell? ⟨o6, 4, none⟩ = some (.bool rd) ∧ w'.cell? ⟨o8, 0, none⟩ = some (.int .i64 rk) ∧ w'.cell? ⟨o8, 1, none⟩ = some (.string rt) ∧ w'.cell? ⟨o8, 2, none⟩ = some (.int .i64 rq) ∧ w'.cell? ⟨o8, 3, none⟩ = some (.int .i64 rv) ∧ w'.cell? ⟨o8, 4, none⟩ = some (.bool rd)) (first | exact HD.out (by assumption) | fail) (first | (go_at_call 12; (with_reducible refine (E1.out _ (by first | assumption | exact Sat.drew (by assumption))).mono ?_); rintro e w7 ⟨rfl, h7⟩) | (go_at_call 13; (with_reducible refine (E2.out _ (by first | assumption | exact Sat.drew (by assumption))).mono ?_); rintro e w8 ⟨rfl, h8⟩) | (go_at_call 9; (refine (K.out _ Bz (by first | assumption | exact Sat.drew (by assumption))).mono ?_); rintro e w9 ⟨rfl, h9⟩) | fail)
          all_goals
            go_wp2_with fail
            go_ret
            exact ⟨rfl, HO.out ▸ (HW.out h9).below⟩
end Go.Proofs.Ytoeepbjnbgpmpaa
