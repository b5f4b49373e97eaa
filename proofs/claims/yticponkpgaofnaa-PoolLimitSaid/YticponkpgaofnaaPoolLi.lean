/- The law PoolLimit, walked. -/
import Derived.Test.YticponkpgaofnaaPoolY
import Derived.Test.YticponkpgaofnaaRw
import Derived.OpenShut
import Derived.Deep.CutBlock
import Derived.Deep.DeepCutAuto
namespace Go.Proofs.Yticponkpgaofnaa
set_option linter.all false
open Go Go.RowKit

theorem trod_struct4 {H : Type} {enc : TypeId × Value → H} {P : Program} {w : World} {base : Nat} {spare : Nat → Bool} {held : Bool} {t : TypeId} {f0 f1 f2 f3 : Field} {fuel : Nat} {cs : List Value} {x : DataW H × List MemPlace} (ht : P.underlying t = some (.struct #[f0, f1, f2, f3])) (h : DataW.trod enc P w base spare held fuel t cs = some x) :
    ∃ y0 y1 y2 y3 n, cs.length = P.cellsOf t ∧ DataW.trod enc P w base spare held n f0.type ((cs.drop f0.offset).take (P.cellsOf f0.type)) = some y0 ∧
      DataW.trod enc P w base spare held n f1.type ((cs.drop f1.offset).take (P.cellsOf f1.type)) = some y1 ∧ DataW.trod enc P w base spare held n f2.type ((cs.drop f2.offset).take (P.cellsOf f2.type)) = some y2 ∧
      DataW.trod enc P w base spare held n f3.type ((cs.drop f3.offset).take (P.cellsOf f3.type)) = some y3 := by
  obtain ⟨xs, n, _, rfl, hl, hlen, hf⟩ := DataW.trod_struct ht h
  match xs, hlen with
  | [y0, y1, y2, y3], _ => exact ⟨y0, y1, y2, y3, n, hl, by simpa using hf 0 f0 rfl, by simpa using hf 1 f1 rfl, by simpa using hf 2 f2 rfl, by simpa using hf 3 f3 rfl⟩

def okOp (cs : List Value) : Prop := ∃ (a : Int) (s : ByteArray) (c d : Int), cs = [.int .i64 a, .string s, .int .i64 c, .int .i64 d] ∧ (Lit.int .i64 a).wf = true ∧ s.size ≤ maxLen ∧ (Lit.int .i64 c).wf = true ∧ (Lit.int .i64 d).wf = true

theorem openOp {H : Type} {enc : TypeId × Value → H} {W : World} {a : Option Addr} {len cap : Nat} {d : DataW H} {p : List MemPlace} {held : Bool}
    (h : DataW.Trod enc Try.prog W 0 (fun _ => true) held 22 (.slice a len cap) d p) : ∃ xs, IsRecs W a len cap 4 okOp xs := by
  refine isRecs_open Try.underlying22 (by kernel_rfl) (fun fuel cs x hx => ?_) h
  obtain ⟨y0, y1, y2, y3, n, hl, h0, h1, h2, h3⟩ := trod_struct4 Try.underlying28 hx
  obtain ⟨a, e0, _, w0⟩ := DataW.trod_int Try.underlying3 h0
  obtain ⟨b, e1, _, w1⟩ := DataW.trod_string Try.underlying9 h1
  obtain ⟨c, e2, _, w2⟩ := DataW.trod_int Try.underlying3 h2
  obtain ⟨d, e3, _, w3⟩ := DataW.trod_int Try.underlying3 h3
  have hc : Try.prog.cellsOf 28 = 4 := by kernel_rfl
  have hi : Try.prog.cellsOf 3 = 1 := by kernel_rfl
  have hs : Try.prog.cellsOf 9 = 1 := by kernel_rfl
  rw [hc] at hl
  simp only [hi, hs] at e0 e1 e2 e3
  match cs, hl with
  | [c0, c1, c2, c3], _ =>
    simp at e0 e1 e2 e3
    exact ⟨a, b, c, d, by rw [e0, e1, e2, e3], w0, w1, w2, w3⟩

set_option maxRecDepth 100000 in
set_option maxHeartbeats 16000000 in
theorem walkPoolLimit (W : World) (n : Int) (w0 : (Lit.int .u8 n).wf = true) (a : Option Addr) (len cap : Nat) (xs : List (List Value)) (z : IsRecs W a len cap 4 okOp xs) :
    Calls Try.prog 3 #[.int .u8 n, .slice a len cap] W fun e w' => e = .returned (.bool true) ∧ Below W.heap.size W w' := by
  obtain ⟨n0, n1⟩ := bounds_u8 w0
  clear w0
  go_enter Try.func3, Try.ntmps3
  go_wp2_with fail
  obtain ⟨m, hm, m1, m2⟩ : ∃ m : Int, 1 + n % 4 = m ∧ 1 ≤ m ∧ m ≤ 4 := ⟨_, rfl, by omega, by omega⟩
  simp only [hm]
  clear hm n0 n1
  obtain ⟨P, hP⟩ : ∃ P : PP, P = ⟨m, 50, 5, 5⟩ := ⟨_, rfl⟩
  have hPo : P.ok := by rw [hP]; unfold PP.ok; simp only; omega
  have hPl : P.lim = m := by rw [hP]
  have hnew := Lib.hid (pnew_any _ _ _ P hPo (Sat.whole W))
  rw [hP] at hnew
  simp only at hnew
  refine hnew.out.mono ?_
  clear hnew
  rw [← hP]
  clear hP hPo
  rintro e w1 ⟨b, rfl, h1⟩
  have h1 := ok_close (n := 0) h1 (fun g hg => by cases hg) (by simp) (by omega)
  go_wp2_with fail
  go_loopw [8] (fun i wr => ∃ j : Nat, j ≤ len ∧ j ≤ 60 ∧ i = .int .i64 j ∧ Sat (World.env W) wr (OkV b P j * whole W)) (fun i _ => 60 - (intOf i).toNat)
  case atStart => exact ⟨0, Nat.zero_le _, Nat.zero_le _, rfl, h1⟩
  case round =>
    clear h1
    obtain ⟨j, hj, hj2, rfl, hr⟩ := hrel
    by_cases hlt : j < len ∧ j < 60
    · obtain ⟨hlt, hlt2⟩ := hlt
      obtain ⟨g, o, cs, rfl, _, _, ⟨kd, key, x, now, rfl, _, _, _, hwn⟩, hcs⟩ := rec_at z (by decide) j hlt
      obtain ⟨hg, q0⟩ := whole_at hr.drop (hcs 0 (by decide))
      obtain ⟨_, q1⟩ := whole_at hr.drop (hcs 1 (by decide))
      obtain ⟨_, q2⟩ := whole_at hr.drop (hcs 2 (by decide))
      obtain ⟨_, q3⟩ := whole_at hr.drop (hcs 3 (by decide))
      simp only [Nat.add_zero] at q0
      have hnow : now ≤ 9223372036854775807 := (bounds_i64 hwn).2
      clear hcs hwn
      by_cases hkl : 60 < key.size
      · go_wp2_with fail
        go_roundw
        case rel => exact ⟨j + 1, by omega, by omega, by go_num, ok_more _ _ _ _ _ _ (hr.alloc' _)⟩
        case measure => simp [intOf]; omega
      have hkl' : ¬ (60 : Int) < (key.size : Int) := by omega
      clear hkl
      go_upto_block 2 with fail
      have h3 := hr.alloc (.cells #[.int .i64 kd, .string key, .int .i64 x, .int .i64 now] 28)
      generalize wr.alloc (Obj.cells #[Value.int IntKind.i64 kd, Value.string key, Value.int IntKind.i64 x, Value.int IntKind.i64 now] 28) = w0 at *
      generalize wr.heap.size = og at *
      replace h3 := h3.swap
      have a0 : w0.cell? ⟨og, 0, none⟩ = some (.int .i64 kd) := h3.drop.cell 0
      have a1 : w0.cell? ⟨og, 1, none⟩ = some (.string key) := h3.drop.cell 1
      have a2 : w0.cell? ⟨og, 2, none⟩ = some (.int .i64 x) := h3.drop.cell 2
      have a3 : w0.cell? ⟨og, 3, none⟩ = some (.int .i64 now) := h3.drop.cell 3
      clear hr hg q0 q1 q2 q3
      go_cut [] (fun wx => Sat (World.env W) wx (OkV b P (j + 1) * (blk og (.cells #[.int .i64 kd, .string key, .int .i64 x, .int .i64 now] 28) * whole W)))
      case first =>
        by_cases k0 : kd = 0
        · subst k0
          go_wp2_with fail
          refine (ask_ok _ _ _ b P j key x now (by omega) h3).mono ?_
          rintro e w3 ⟨v, rfl, h4⟩
          go_wp2_with fail
          go_meet
          case rel => exact h4
        by_cases k1 : kd = 1
        · subst k1
          go_wp2_with fail
          refine (give_ok _ _ _ b P j x now h3).mono ?_
          rintro e w3 ⟨v, rfl, h4⟩
          go_wp2_with fail
          go_meet
          case rel => exact h4
        by_cases k2 : kd = 2
        · subst k2
          go_wp2_with fail
          refine (pin_ok _ _ _ b P j x h3).mono ?_
          rintro e w3 ⟨v, rfl, h4⟩
          go_wp2_with fail
          go_meet
          case rel => exact h4
        by_cases k3 : kd = 3
        · subst k3
          go_wp2_with fail
          refine (lost_ok _ _ _ b P j x now (by omega) h3).mono ?_
          rintro e w3 ⟨v, rfl, h4⟩
          go_wp2_with fail
          go_meet
          case rel => exact h4
        by_cases k4 : kd = 4
        · subst k4
          go_wp2_with fail
          refine (leave_ok _ _ _ b P j x now (by omega) h3).mono ?_
          rintro e w3 ⟨v, rfl, h4⟩
          go_wp2_with fail
          go_meet
          case rel => exact h4
        by_cases k5 : kd = 5
        · subst k5
          go_wp2_with fail
          refine (late_ok _ _ _ b P j now (by omega) h3).mono ?_
          rintro e w3 ⟨v, rfl, h4⟩
          go_wp2_with fail
          go_meet
          case rel => exact h4
        by_cases k6 : kd = 6
        · subst k6
          go_wp2_with fail
          refine (reap_ok _ _ _ b P j now (by omega) hnow h3).mono ?_
          rintro e w3 ⟨v, rfl, h4⟩
          go_wp2_with fail
          go_meet
          case rel => exact h4
        · have b0 : (kd == 0) = false := by simpa using k0
          have b1 : (kd == 1) = false := by simpa using k1
          have b2 : (kd == 2) = false := by simpa using k2
          have b3 : (kd == 3) = false := by simpa using k3
          have b4 : (kd == 4) = false := by simpa using k4
          have b5 : (kd == 5) = false := by simpa using k5
          have b6 : (kd == 6) = false := by simpa using k6
          go_wp2_with fail
          go_meet
          case rel => exact ok_more _ _ _ _ _ _ h3
      case rest =>
        clear h3 a0 a1 a2 a3
        have a1 : wc.cell? ⟨og, 1, none⟩ = some (.string key) := hcut.drop.cell 1
        obtain ⟨last, G, N, f1, f2, f3, h3⟩ := ok_open hcut
        obtain ⟨M, K, hi⟩ := pv_inv h3
        have HI : ∀ {x y u v : Int}, Hid (hget G x = some u) → Hid (hget G y = some v) → x ≠ y → (u == v) = false := fun h1 h2 h3 => by simpa using hget_inj hi h1.out h2.out h3
        go_wp2_with fail
        refine (count_ok _ _ _ b P last G N key f1 h3).mono ?_
        rintro e w3 ⟨ca, ci, ct, rfl, e1, e2, e3, h4⟩
        replace h4 := h4.drop2
        rw [hPl] at e1 e3
        clear h3 hcut a1 hi
        have e3' : ¬ 0 < ct ∨ (0 < ct ∧ ¬ 0 < ci ∧ ¬ ca < m) := by omega
        have e1' : ¬ m < ca := by omega
        have e2' : ¬ ca < ci := by omega
        clear e3 e1 e2
        rcases e3' with t1 | ⟨t1, t2, t3⟩
        all_goals
          go_wp2_with fail
          go_loopw [13] (fun i wr => ∃ l : Nat, l ≤ 12 ∧ i = .int .i64 l ∧ Sat (World.env W) wr (PoolV b P last G N * whole W)) (fun i _ => 12 - (intOf i).toNat)
          case atStart => exact ⟨0, Nat.zero_le _, rfl, h4⟩
          case round =>
            clear h4
            obtain ⟨l, hl, rfl, hr⟩ := hrel
            by_cases hlt : l < 12
            · go_wp2_with fail
              refine (holds_any _ _ _ b P last G N l (by omega) hr).mono ?_
              rintro e w4 ⟨rfl, h5⟩
              obtain ⟨o1, ho1⟩ : ∃ o1, hget G l = o1 := ⟨_, rfl⟩
              rw [ho1]
              have HO1 := Lib.hid ho1
              clear ho1
              cases o1 with
              | none =>
                simp only [Option.getD_none, Option.isSome_none]
                go_wp2_with fail
                go_loopw [16] (fun i wr => i = .int .i64 0 ∧ Sat (World.env W) wr (PoolV b P last G N * whole W)) (fun i _ => 0)
                case atStart => exact ⟨rfl, h5⟩
                case round =>
                  obtain ⟨rfl, h6⟩ := hrel
                  have hb0 : 0 < (l : Int) ∨ ¬ 0 < (l : Int) := by omega
                  rcases hb0 with hb0 | hb0
                  all_goals
                    go_wp2_with fail
                    go_roundw
                    case rel => exact ⟨l + 1, by omega, by go_num, h6⟩
                    case measure => simp [intOf]; omega
              | some u =>
                simp only [Option.getD_some, Option.isSome_some]
                go_wp2_with fail
                go_loopw [16] (fun i wr => ∃ t : Nat, t ≤ l ∧ i = .int .i64 t ∧ Sat (World.env W) wr (PoolV b P last G N * whole W)) (fun i _ => l - (intOf i).toNat)
                case atStart => exact ⟨0, Nat.zero_le _, rfl, h5⟩
                case round =>
                  obtain ⟨t, ht, rfl, h6⟩ := hrel
                  by_cases htl : t < l
                  · go_wp2_with fail
                    refine (holds_any _ _ _ b P last G N t (by omega) h6).mono ?_
                    rintro e w5 ⟨rfl, h7⟩
                    obtain ⟨o2, ho2⟩ : ∃ o2, hget G t = o2 := ⟨_, rfl⟩
                    rw [ho2]
                    have HO2 := Lib.hid ho2
                    clear ho2
                    cases o2 with
                    | none =>
                      simp only [Option.getD_none, Option.isSome_none]
                      go_wp2_with fail
                      go_roundw
                      case rel => exact ⟨t + 1, by omega, by go_num, h7⟩
                      case measure => simp [intOf]; omega
                    | some v =>
                      simp only [Option.getD_some, Option.isSome_some]
                      have hne := HI HO1 HO2 (by omega)
                      go_wp2_with fail
                      go_roundw
                      case rel => exact ⟨t + 1, by omega, by go_num, h7⟩
                      case measure => simp [intOf]; omega
                  · go_wp2_with fail
                    go_roundw
                    case rel => exact ⟨l + 1, by omega, by go_num, h6⟩
                    case measure => simp [intOf]; omega
            · have hl12 : l = 12 := by omega
              subst hl12
              go_wp2_with fail
              go_roundw
              case rel => exact ⟨j + 1, by omega, by omega, by go_num, ok_close hr f1 f2 f3⟩
              case measure => simp [intOf]; omega
    · have hlt' : ¬ (j : Int) < len ∨ ((j : Int) < len ∧ ¬ (j : Int) < 60) := by omega
      clear hlt
      rcases hlt' with hq | ⟨hq, hq2⟩
      all_goals
        go_wp2_with fail
        refine (known_any _ _ _ hr.drop).mono ?_
        rintro e w2 ⟨rfl, h2⟩
        go_wp2_with fail
        go_ret
        exact ⟨rfl, h2.below⟩

end Go.Proofs.Yticponkpgaofnaa
