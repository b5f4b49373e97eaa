/- Contract of pontoonref07.from. -/
import Derived.Test.YtoeepbjnbgpmpaaSetsB
import Derived.Deep.DeepCutAuto
namespace Go.Proofs.Ytoeepbjnbgpmpaa
set_option linter.all false
open Go Go.RowKit

set_option maxRecDepth 100000 in
set_option maxHeartbeats 8000000 in
theorem rfrom_any (k : Env) (w : World) (R : Assn) (a : Option Addr) (cap : Nat) (l : List Tok) (i0 : Nat) (hi0 : i0 ≤ l.length) (hl : l.length ≤ 1000000) (hT : ∀ x ∈ l, x.t.size ≤ 1000000) (hr : RdT k R a l) (h : Sat k w R) :
    Calls Try.prog 81 #[.slice a l.length cap, .int .i64 i0] w fun e w' => ∃ v c, e = .returned (.slice v (namesAt l i0).length c) ∧ Sat k w' (Strs (.slice v (namesAt l i0).length c) (namesAt l i0) * R) := by
  obtain ⟨total, hx0⟩ : ∃ total, namesAt l i0 = total := ⟨_, rfl⟩
  have HX : Hid ([] ++ namesAt l i0 = total) := hx0
  rw [hx0]
  have hm : ∀ (v : Value) (acc : List ByteArray) (w' : World), Sat k w' (Strs v acc * R) → Sat k w' R := fun _ _ _ q => q.drop
  have CW := Lib.hid (fun v acc w (i : Int) s h => rwd_any k w (Strs v acc * R) a cap l i s (hr.mono (hm v acc)) h)
  have CS := Lib.hid (fun v acc w (i : Nat) s h => rsg_any k w (Strs v acc * R) a cap l i s (hr.mono (hm v acc)) h)
  have CP := Lib.hid (fun v acc w (i : Nat) h => rpart_any k w (Strs v acc * R) a cap l i (hr.mono (hm v acc)) h)
  have CN := Lib.hid (fun v acc w (i : Nat) h => rname_any k w (Strs v acc * R) a cap l i hl hT (hr.mono (hm v acc)) h)
  have h0 : Sat k w (Strs (.slice none 0 0) [] * R) := own_nil h
  clear hr hx0 hm hT h
  go_enter Try.func81, Try.ntmps81
  go_wp2_with fail
  go_loopw [1, 5] (fun s1 s5 wr => ∃ (i : Nat) (av : Option Addr) (ac : Nat) (acc : List ByteArray), s1 = .int .i64 i ∧ s5 = .slice av acc.length ac ∧ acc.length ≤ i ∧ i ≤ l.length ∧ Hid (acc ++ namesAt l i = total) ∧ Sat k wr (Strs (.slice av acc.length ac) acc * R)) (fun s1 _ _ => l.length - (intOf s1).toNat)
  case atStart => exact ⟨i0, none, 0, [], rfl, rfl, Nat.zero_le _, hi0, HX, h0⟩
  case round =>
    clear h0 HX hi0
    obtain ⟨i, av, ac, acc, rfl, rfl, hai, hil, HT, hs⟩ := hrel
    obtain ⟨i1, hi1⟩ : ∃ i1, i1 = nmI l i := ⟨_, rfl⟩
    have hle1 : i ≤ i1 := by rw [hi1]; exact nmI_le l i
    have hle2 : i1 ≤ i + 1 := by rw [hi1]; unfold nmI; split <;> omega
    have hst := namesAt_step l i
    rw [← hi1] at hst
    have hb : i1 = if (isAt l i 1 cOnly || isAt l i 1 cTable) = true then i + 1 else i := hi1
    have hw1 : IntKind.i64.wrap ((i : Int) + 1) = ((i + 1 : Nat) : Int) := by rw [IntWalk.i64_in _ (by omega)]; omega
    have C1 := Lib.hid (CW.out (.slice av acc.length ac) acc wr i cOnly hs)
    have C2 := Lib.hid (CW.out (.slice av acc.length ac) acc wr i cTable hs)
    generalize isAt l i 1 cOnly = b1 at *
    generalize isAt l i 1 cTable = b2 at *
    have HB := Lib.hid hb
    have HST := Lib.hid hst
    clear hb hst hi1
    go_upto_region 2 with fail
    go_cut [15] (fun s15 wx => s15 = .bool (b1 || b2) ∧ Sat k wx (Strs (.slice av acc.length ac) acc * R))
    case first =>
      cases b1 with
      | true =>
        go_wp2_with (go_at_call 79; (first | (with_reducible refine (C1.out).mono ?_) | (with_reducible refine (C2.out).mono ?_)); rintro e w5 ⟨rfl, rfl⟩)
        go_meet
        case rel => exact ⟨rfl, hs⟩
      | false =>
        cases b2 with
        | true =>
          go_wp2_with (go_at_call 79; (first | (with_reducible refine (C1.out).mono ?_) | (with_reducible refine (C2.out).mono ?_)); rintro e w5 ⟨rfl, rfl⟩)
          go_meet
          case rel => exact ⟨rfl, hs⟩
        | false =>
          go_wp2_with (go_at_call 79; (first | (with_reducible refine (C1.out).mono ?_) | (with_reducible refine (C2.out).mono ?_)); rintro e w5 ⟨rfl, rfl⟩)
          go_meet
          case rel => exact ⟨rfl, hs⟩
    case rest => as_aux_lemma =>
      clear hs C1 C2
      obtain ⟨rfl, hs⟩ := hcut
      generalize (b1 || b2) = b at *
      go_upto_if 15 with fail
      go_cut [1] (fun s1 wx => s1 = .int .i64 i1 ∧ Sat k wx (Strs (.slice av acc.length ac) acc * R))
      case first =>
        cases b with
        | true =>
          obtain rfl : i1 = i + 1 := HB.out
          go_wp2_with fail
          go_meet
          case rel => exact ⟨rfl, hs⟩
        | false =>
          obtain rfl : i1 = i := HB.out
          go_wp2_with fail
          go_meet
          case rel => exact ⟨rfl, hs⟩
      case rest => as_aux_lemma =>
        clear hs HB hw1
        obtain ⟨rfl, hs⟩ := hcut
        have C3 := CN.out (.slice av acc.length ac) acc wc i1 hs
        cases hp : partAt l i1 with
        | false =>
          rw [hp, if_neg (by decide)] at C3
          have hres : total = acc := by rw [← HT.out, HST.out, hp, if_neg (by decide), List.append_nil]
          subst hres
          have D3 := Lib.hid C3
          have hee : ((i1 : Int) == i1) = true := by simp
          clear C3 HST HT hp
          go_wp2_with (go_at_call 94; (with_reducible refine (D3.out).mono ?_); rintro e w6 ⟨rfl, h6⟩)
          go_ret
          exact ⟨_, _, rfl, h6⟩
        | true =>
          rw [hp, if_pos rfl] at C3
          have hlt := partAt_len hp
          have hst := HST.out
          rw [hp, if_pos rfl] at hst
          generalize nmName l i1 = nm at *
          have hto := nmTo_lt l i1
          have hen : nmEnd l i1 = nmAl l (nmAs l (nmTo l i1)) := rfl
          rw [hen] at hst
          have hto3 : nmTo l i1 ≤ i1 + 3 := by unfold nmTo; split <;> omega
          generalize nmTo l i1 = to1 at *
          have has : nmAs l to1 = if isAt l to1 1 cAs = true then to1 + 1 else to1 := rfl
          have has1 : to1 ≤ nmAs l to1 ∧ nmAs l to1 ≤ to1 + 1 := by rw [has]; split <;> omega
          have hal : nmAl l (nmAs l to1) = if partAt l (nmAs l to1) = true then nmAs l to1 + 1 else nmAs l to1 := rfl
          have hal1 : nmAs l to1 ≤ nmAl l (nmAs l to1) ∧ nmAl l (nmAs l to1) ≤ nmAs l to1 + 1 := by rw [hal]; split <;> omega
          generalize nmAl l (nmAs l to1) = to3 at *
          generalize nmAs l to1 = to2 at *
          have hne : ((to1 : Int) == i1) = false := by rw [beq_eq_false_iff_ne]; omega
          have hwt : IntKind.i64.wrap ((to1 : Int) + 1) = ((to1 + 1 : Nat) : Int) := by rw [IntWalk.i64_in _ (by omega)]; omega
          have hwt2 : IntKind.i64.wrap ((to2 : Int) + 1) = ((to2 + 1 : Nat) : Int) := by rw [IntWalk.i64_in _ (by omega)]; omega
          have hwt3 : IntKind.i64.wrap ((to3 : Int) + 1) = ((to3 + 1 : Nat) : Int) := by rw [IntWalk.i64_in _ (by omega)]; omega
          have HAS := Lib.hid has
          have HAL := Lib.hid hal
          have HST2 := Lib.hid hst
          have D3 := Lib.hid C3
          have hacc : acc.length ≤ 1000000 := by omega
          have H1 := Lib.hid has1
          have H2 := Lib.hid hal1
          have H3 := Lib.hid hto
          have HLT := Lib.hid hlt
          clear C3 HST hst has hal hp hen has1 hal1 hto hlt hto3
          go_upto_region 7 with (go_at_call 94; (with_reducible refine (D3.out).mono ?_); rintro e w6 ⟨rfl, h6⟩)
          go_upto_region 8 with (at_builtin; refine wpList_append_sat TStrs (h6.alloc' _) (.tmp 28) (.tmp 30) _ 1 1 [.string nm] rfl rfl rfl rfl rfl (fun _ => ⟨_, rfl, new_cells_at _ _ _ _ (by first | rfl | simp)⟩) (strs_one [nm]) (by simp [maxLen]; omega) (by omega) ?_; intro a7 c7 w7 h7)
          have h8 : Sat k w7 (Strs (.slice a7 (acc.length + 1) c7) (acc ++ [nm]) * R) := strs_push h7
          have hln : (acc ++ [nm]).length = acc.length + 1 := by simp
          have hL8 := Lib.hid hln
          obtain ⟨v', hv'⟩ : ∃ v', v' = Value.slice a7 (acc.length + 1) c7 := ⟨_, rfl⟩
          obtain ⟨acc', hacc'⟩ : ∃ acc', acc' = acc ++ [nm] := ⟨_, rfl⟩
          have C4 := CW.out (.slice a7 (acc.length + 1) c7) (acc ++ [nm]) w7 to1 cAs h8
          have C5 := Lib.hid (fun w h => CP.out (.slice a7 (acc.length + 1) c7) (acc ++ [nm]) w to2 h)
          have C6 := Lib.hid (fun w h => CS.out (.slice a7 (acc.length + 1) c7) (acc ++ [nm]) w to3 cComma h)
          generalize isAt l to1 1 cAs = b3 at *
          generalize partAt l to2 = b4 at *
          have D4 := Lib.hid C4
          clear C4 h6 h7 hln D3
          go_upto_if 34 with (go_at_call 79; (with_reducible refine (D4.out).mono ?_); rintro e w8 ⟨rfl, rfl⟩)
          go_cut [7] (fun s7 wx => s7 = .int .i64 to2 ∧ Sat k wx (Strs (.slice a7 (acc.length + 1) c7) (acc ++ [nm]) * R))
          case first =>
            cases b3 with
            | true =>
              obtain rfl : to2 = to1 + 1 := HAS.out
              go_wp2_with fail
              go_meet
              case rel => exact ⟨rfl, h8⟩
            | false =>
              obtain rfl : to2 = to1 := HAS.out
              go_wp2_with fail
              go_meet
              case rel => exact ⟨rfl, h8⟩
          case rest => as_aux_lemma =>
            clear h8 HAS D4
            obtain ⟨rfl, h8⟩ := hcut
            go_upto_if 39 with (go_at_call 95; (with_reducible refine (C5.out _ h8).mono ?_); rintro e w8 ⟨rfl, h9⟩)
            go_cut [7] (fun s7 wx => s7 = .int .i64 to3 ∧ Sat k wx (Strs (.slice a7 (acc.length + 1) c7) (acc ++ [nm]) * R))
            case first =>
              cases b4 with
              | true =>
                obtain rfl : to3 = to2 + 1 := HAL.out
                go_wp2_with fail
                go_meet
                case rel => exact ⟨rfl, h9⟩
              | false =>
                obtain rfl : to3 = to2 := HAL.out
                go_wp2_with fail
                go_meet
                case rel => exact ⟨rfl, h9⟩
            case rest => as_aux_lemma =>
              clear h8 h9 HAL C5
              obtain ⟨rfl, h9⟩ := hcut
              have C7 := C6.out _ h9
              cases hc : isAt l to3 5 cComma with
              | false =>
                rw [hc] at C7
                have hres : total = acc ++ [nm] := by rw [← HT.out, HST2.out]; unfold sgAt; rw [hc]; rfl
                subst hres
                have D7 := Lib.hid C7
                clear C7 C6 HST2 HT hc
                go_wp2_with (go_at_call 96; (with_reducible refine (D7.out).mono ?_); rintro e w10 ⟨rfl, rfl⟩)
                go_ret
                exact ⟨a7, c7, by rw [hL8.out]; rfl, by rw [hL8.out]; exact h9⟩
              | true =>
                rw [hc] at C7
                have hlt3 := isAt_len hc
                have HN : Hid ((acc ++ [nm]) ++ namesAt l (to3 + 1) = total) := by
                  unfold Hid
                  rw [← HT.out, HST2.out]; unfold sgAt; rw [hc]; simp
                have HL3 := Lib.hid hlt3
                have D7 := Lib.hid C7
                clear C7 C6 HST2 HT hc hlt3
                go_wp2_with (go_at_call 96; (with_reducible refine (D7.out).mono ?_); rintro e w10 ⟨rfl, rfl⟩)
                go_roundw
                case rel =>
                  have q1 := H1.out
                  have q2 := H2.out
                  have q3 := H3.out
                  have q4 := HL3.out
                  exact ⟨to3 + 1, a7, c7, acc ++ [nm], rfl, by rw [hL8.out], by rw [hL8.out]; omega, by omega, HN, by rw [hL8.out]; exact h9⟩
                case measure =>
                  have q1 := H1.out
                  have q2 := H2.out
                  have q3 := H3.out
                  have q4 := HL3.out
                  simp [intOf]; omega

end Go.Proofs.Ytoeepbjnbgpmpaa
