/- Contracts of package sets: names. -/
import Derived.Test.YtoeepbjnbgpmpaaSetsD
namespace Go.Proofs.Ytoeepbjnbgpmpaa
set_option linter.all false
open Go Go.RowKit

set_option maxRecDepth 100000 in
set_option maxHeartbeats 16000000 in
theorem rnames_any (k : Env) (w : World) (R : Assn) (a : Option Addr) (cap : Nat) (l : List Tok) (b m : Nat) (S0 : List ByteArray) (i0 : Nat) (hi0 : i0 ≤ l.length) (hl : l.length ≤ 1000000) (hT : ∀ x ∈ l, x.t.size ≤ 1000000) (hr : RdT k R a l) (h : Sat k w (KS b m S0 * (R))) :
    Calls Try.prog 77 #[.slice a l.length cap, .int .i64 i0, .func (.func 75) #[] #[pq b]] w fun e w' => e = .returned (.tuple #[]) ∧ Sat k w' (KS b m (addAll S0 (id (namesAt l i0))) * (R)) := by
  obtain ⟨total, hx0⟩ : ∃ total, addAll S0 (id (namesAt l i0)) = total := ⟨_, rfl⟩
  have HX := Lib.hid hx0
  rw [hx0]
  have hm : ∀ (S : List ByteArray) (w' : World), Sat k w' (KS b m S * (R)) → Sat k w' R := fun _ _ q => q.drop
  have CW1 := Lib.hid (fun S w (i : Int) s h => word1_any k w (KS b m S * (R)) a cap l i s (hr.mono (hm S)) h)
  have CW2 := Lib.hid (fun S w (i : Int) s t h => word2_any k w (KS b m S * (R)) a cap l i s t (hr.mono (hm S)) h)
  have CS := Lib.hid (fun S w (i : Int) kd s h => is_any k w (KS b m S * (R)) a cap l i kd s (hr.mono (hm S)) h)
  have CP := Lib.hid (fun S w (i : Nat) h => part_any k w (KS b m S * (R)) a cap l i (hr.mono (hm S)) h)
  have CA := Lib.hid (fun S w s h => radd_any k w R b m S s h)
  have HTX : Hid (∀ S w' (j : Nat) (hj : j < l.length), Sat k w' (KS b m S * (R)) → ∃ g o, a = some ⟨g, o, none⟩ ∧ w'.cell? ⟨g, o + j * 3 + 1, none⟩ = some (.string (txAt l j))) := by
    intro S w' j hj h'
    rw [txAt_lt l j hj]
    obtain ⟨g, o, h1, _, h2, _⟩ := rdt_get hr (hm S w' h') j hj
    exact ⟨g, o, h1, h2⟩
  have HT : Hid (∀ j, j < l.length → (txAt l j).size ≤ 1000000) := fun j hj => by rw [txAt_lt l j hj]; exact hT _ (List.getElem_mem hj)
  clear hr hx0 hm hT
  go_enter Try.func77, Try.ntmps77
  go_wp2_with fail
  go_loopw [1] (fun s1 wr => ∃ (i : Nat) (S : List ByteArray), s1 = .int .i64 i ∧ i ≤ l.length ∧ Hid (addAll S (id (namesAt l i)) = total) ∧ Sat k wr (KS b m S * (R))) (fun s1 _ => l.length - (intOf s1).toNat)
  case atStart => exact ⟨i0, S0, rfl, hi0, HX, h⟩
  case round =>
    clear h HX hi0
    obtain ⟨i, S, rfl, hil, HTO, hs⟩ := hrel
    obtain ⟨i1, hi1⟩ : ∃ i1, i1 = nmI l i := ⟨_, rfl⟩
    have hle1 : i ≤ i1 := by rw [hi1]; exact nmI_le l i
    have hle2 : i1 ≤ i + 1 := by rw [hi1]; unfold nmI; split <;> omega
    have hst := namesAt_step l i
    rw [← hi1] at hst
    have hb : i1 = if (isAt l i 1 cOnly || isAt l i 1 cTable) = true then i + 1 else i := hi1
    have hw1 : IntKind.i64.wrap ((i : Int) + 1) = ((i + 1 : Nat) : Int) := by rw [IntWalk.i64_in _ (by omega)]; omega
    have C1 := CW2.out S wr i cOnly cTable hs
    unfold wdAt at C1
    generalize (isAt l i 1 cOnly || isAt l i 1 cTable) = bo at *
    have D1 := Lib.hid C1
    have HB := Lib.hid hb
    have HST := Lib.hid hst
    clear hb hst hi1 C1
    go_upto_if 10 with (go_at_call 76; (refine (D1.out).mono ?_); rintro e w5 ⟨rfl, h5⟩)
    go_cut [1] (fun s1 wx => s1 = .int .i64 i1 ∧ Sat k wx (KS b m S * (R)))
    case first =>
      cases bo with
      | true =>
        obtain rfl : i1 = i + 1 := HB.out
        go_wp2_with fail
        go_meet
        case rel => exact ⟨rfl, h5⟩
      | false =>
        obtain rfl : i1 = i := HB.out
        go_wp2_with fail
        go_meet
        case rel => exact ⟨rfl, h5⟩
    case rest => as_aux_lemma =>
      clear hs HB hw1 h5 D1
      obtain ⟨rfl, hs⟩ := hcut
      have C3 := CP.out S wc i1 hs
      cases hp : partAt l i1 with
      | false =>
        rw [hp] at C3
        have hres : total = S := by rw [← HTO.out, HST.out, hp, if_neg (by decide)]; rfl
        subst hres
        have D3 := Lib.hid C3
        clear C3 HST HTO hp
        go_wp2_with (go_at_call 92; (with_reducible refine (D3.out).mono ?_); rintro e w6 ⟨rfl, rfl⟩)
        refine bodyPost_ret (v := .tuple #[]) (by simp [results, Try.results77, go_sem]) rfl ?_
        exact ⟨rfl, hs⟩
      | true =>
        rw [hp] at C3
        have hlt := partAt_len hp
        have hst := HST.out
        rw [hp, if_pos rfl] at hst
        obtain ⟨g, o, rfl, c0⟩ := HTX.out S wc i1 hlt hs
        have hsz : (txAt l i1).size ≤ 1000000 := HT.out _ hlt
        have hnm : nmName l i1 = if dotAt l i1 = true then txAt l i1 ++ (cDot ++ txAt l (i1 + 2)) else txAt l i1 := rfl
        have hto : nmTo l i1 = if dotAt l i1 = true then i1 + 3 else i1 + 1 := rfl
        have hdot : dotAt l i1 = (isAt l (i1 + 1 : Nat) 5 cDot && partAt l (i1 + 2)) := rfl
        have hto1 := nmTo_lt l i1
        have hen : nmEnd l i1 = nmAl l (nmAs l (nmTo l i1)) := rfl
        rw [hen] at hst
        have hto3 : nmTo l i1 ≤ i1 + 3 := by unfold nmTo; split <;> omega
        generalize nmName l i1 = nm at *
        generalize nmTo l i1 = to1 at *
        have has : nmAs l to1 = if isAt l to1 1 cAs = true then to1 + 1 else to1 := rfl
        have has1 : to1 ≤ nmAs l to1 ∧ nmAs l to1 ≤ to1 + 1 := by rw [has]; split <;> omega
        have hal : nmAl l (nmAs l to1) = if partAt l (nmAs l to1) = true then nmAs l to1 + 1 else nmAs l to1 := rfl
        have hal1 : nmAs l to1 ≤ nmAl l (nmAs l to1) ∧ nmAl l (nmAs l to1) ≤ nmAs l to1 + 1 := by rw [hal]; split <;> omega
        generalize nmAl l (nmAs l to1) = to3 at *
        generalize nmAs l to1 = to2 at *
        have hwa : IntKind.i64.wrap ((i1 : Int) + 1) = ((i1 + 1 : Nat) : Int) := by rw [IntWalk.i64_in _ (by omega)]; omega
        have hlt' : (i1 : Int) < l.length := by omega
        obtain ⟨n1, hn1⟩ : ∃ n1, n1 = i1 + 1 := ⟨_, rfl⟩
        obtain ⟨n2, hn2⟩ : ∃ n2, n2 = i1 + 2 := ⟨_, rfl⟩
        have hwb : IntKind.i64.wrap ((n1 : Int) + 1) = n2 := by rw [IntWalk.i64_in _ (by omega)]; omega
        have hwc : IntKind.i64.wrap ((n1 : Int) + 2) = ((i1 + 3 : Nat) : Int) := by rw [IntWalk.i64_in _ (by omega)]; omega
        rw [← hn1, ← hn2] at hdot
        rw [← hn2] at hnm
        rw [← hn1] at hwa hto
        have HX2 : Hid (partAt l n2 = true → n2 < l.length ∧ (txAt l n2).size ≤ 1000000) := fun q => ⟨partAt_len q, HT.out _ (partAt_len q)⟩
        have C4 := CS.out S wc n1 5 cDot hs
        have C5 := CP.out S wc n2 hs
        generalize isAt l (n1 : Int) 5 cDot = d1 at *
        generalize hd2 : partAt l n2 = d2 at *
        have HDOT := Lib.hid hdot
        have HNM := Lib.hid hnm
        have HTO1 := Lib.hid hto
        have HAS := Lib.hid has
        have HAL := Lib.hid hal
        have HST2 := Lib.hid hst
        have H1 := Lib.hid has1
        have H2 := Lib.hid hal1
        have H3 := Lib.hid hto1
        have H4 := Lib.hid hto3
        have HLT := Lib.hid hlt
        have D3 := Lib.hid C3
        have D4 := Lib.hid C4
        have D5 := Lib.hid C5
        have HD2 := Lib.hid hd2
        generalize txAt l i1 = x at *
        clear C3 C4 C5 HST hst has hal hp hen has1 hal1 hto1 hlt hto3 hdot hnm hto hn1 hn2 hd2
        go_upto_region 5 with (go_at_call 92; (with_reducible refine (D3.out).mono ?_); rintro e w6 ⟨rfl, rfl⟩)
        go_cut [32] (fun s32 wx => s32 = .bool (d1 && d2) ∧ Sat k wx (KS b m S * (R)))
        case first =>
          cases d1 with
          | true =>
            go_wp2_with (first | (go_at_call 91; (with_reducible refine (D4.out).mono ?_); rintro e w6 ⟨rfl, rfl⟩) | (go_at_call 92; (with_reducible refine (D5.out).mono ?_); rintro e w7 ⟨rfl, rfl⟩))
            go_meet
            case rel => exact ⟨rfl, hs⟩
          | false =>
            go_wp2_with (first | (go_at_call 91; (with_reducible refine (D4.out).mono ?_); rintro e w6 ⟨rfl, rfl⟩) | (go_at_call 92; (with_reducible refine (D5.out).mono ?_); rintro e w7 ⟨rfl, rfl⟩))
            go_meet
            case rel => exact ⟨rfl, hs⟩
        case rest => as_aux_lemma =>
          clear hs D3 D4 D5 c0
          obtain ⟨rfl, hs⟩ := hcut
          go_upto_if 32 with fail
          go_cut [1, 6] (fun s1 s6 wx => s1 = .int .i64 to1 ∧ s6 = .string nm ∧ Sat k wx (KS b m S * (R)))
          case first =>
            cases hdd : (d1 && d2) with
            | true =>
              have hd2 : d2 = true := by rw [Bool.and_eq_true] at hdd; exact hdd.2
              obtain ⟨hl2, hsz2⟩ := HX2.out hd2
              obtain ⟨g', o', hg', c2⟩ := HTX.out S _ n2 hl2 hs
              obtain ⟨rfl, rfl⟩ : g = g' ∧ o = o' := by simpa using hg'
              have hnm : nm = x ++ (cDot ++ txAt l n2) := by rw [HNM.out, HDOT.out, hdd, if_pos rfl]
              obtain rfl : to1 = i1 + 3 := by rw [HTO1.out, HDOT.out, hdd, if_pos rfl]
              have hl2' : (n2 : Int) < l.length := by omega
              generalize txAt l n2 = y at *
              subst hnm
              have hsz3 : (cDot ++ y).size = 1 + y.size := by rw [ByteArray.size_append]; rfl
              have hcap : ¬ ((cDot.size + y.size : Nat) : Int) > IntKind.i64.max := by
                have : cDot.size = 1 := rfl
                rw [this]; simp [IntKind.i64]; omega
              have hcap2 : ¬ ((x.size + (cDot ++ y).size : Nat) : Int) > IntKind.i64.max := by rw [hsz3]; simp [IntKind.i64]; omega
              clear hdd hd2 HNM HTO1 HDOT HX2
              go_wp2_with fail
              go_meet
              case rel => exact ⟨rfl, rfl, hs⟩
            | false =>
              obtain rfl : nm = x := by rw [HNM.out, HDOT.out, hdd, if_neg (by decide)]
              obtain rfl : to1 = n1 := by rw [HTO1.out, HDOT.out, hdd, if_neg (by decide)]
              clear hdd HNM HTO1 HDOT HX2
              go_wp2_with fail
              go_meet
              case rel => exact ⟨rfl, rfl, hs⟩
          case rest => as_aux_lemma =>
            clear hs HX2 HDOT HNM HTO1 HD2 hwa hwb hwc hsz HT HTX
            obtain ⟨rfl, rfl, hs⟩ := hcut
            have hwt : IntKind.i64.wrap ((to1 : Int) + 1) = ((to1 + 1 : Nat) : Int) := by have := H4.out; have := HLT.out; rw [IntWalk.i64_in _ (by omega)]; omega
            have hwt2 : IntKind.i64.wrap ((to2 : Int) + 1) = ((to2 + 1 : Nat) : Int) := by have := H1.out; have := H4.out; have := HLT.out; rw [IntWalk.i64_in _ (by omega)]; omega
            have hwt3 : IntKind.i64.wrap ((to3 : Int) + 1) = ((to3 + 1 : Nat) : Int) := by have := H2.out; have := H1.out; have := H4.out; have := HLT.out; rw [IntWalk.i64_in _ (by omega)]; omega
            have D6 := Lib.hid (CA.out S wc nm hs)
            have HSN : Hid (addAll (addS S nm) (if isAt l to3 5 cComma = true then namesAt l (to3 + 1) else []) = total) := by
              unfold Hid
              rw [← HTO.out, HST2.out]; rfl
            have D7 := Lib.hid (fun w h => CW1.out (addS S nm) w to1 cAs h)
            have D8 := Lib.hid (fun w h => CP.out (addS S nm) w to2 h)
            have D9 := Lib.hid (fun w h => CS.out (addS S nm) w to3 5 cComma h)
            unfold wdAt at D7
            clear HTO HST2 CW1 CW2 CS CP CA
            generalize isAt l to1 1 cAs = e1 at *
            generalize partAt l to2 = e2 at *
            go_upto_if 51 with (first | (go_at_call 75; (refine (D6.out).mono ?_); rintro e w6 ⟨rfl, h6⟩) | (go_at_call 76; (refine (D7.out _ h6).mono ?_); rintro e w7 ⟨rfl, h7⟩))
            go_cut [1] (fun s1 wx => s1 = .int .i64 to2 ∧ Sat k wx (KS b m (addS S nm) * (R)))
            case first =>
              cases e1 with
              | true =>
                obtain rfl : to2 = to1 + 1 := HAS.out
                go_wp2_with fail
                go_meet
                case rel => exact ⟨rfl, h7⟩
              | false =>
                obtain rfl : to2 = to1 := HAS.out
                go_wp2_with fail
                go_meet
                case rel => exact ⟨rfl, h7⟩
            case rest => as_aux_lemma =>
              clear hs D6 D7 h6 h7 HAS
              obtain ⟨rfl, hs⟩ := hcut
              go_upto_if 56 with (go_at_call 92; (with_reducible refine (D8.out _ hs).mono ?_); rintro e w7 ⟨rfl, rfl⟩)
              go_cut [1] (fun s1 wx => s1 = .int .i64 to3 ∧ Sat k wx (KS b m (addS S nm) * (R)))
              case first =>
                cases e2 with
                | true =>
                  obtain rfl : to3 = to2 + 1 := HAL.out
                  go_wp2_with fail
                  go_meet
                  case rel => exact ⟨rfl, hs⟩
                | false =>
                  obtain rfl : to3 = to2 := HAL.out
                  go_wp2_with fail
                  go_meet
                  case rel => exact ⟨rfl, hs⟩
              case rest => as_aux_lemma =>
                clear hs D8 HAL
                obtain ⟨rfl, hs⟩ := hcut
                have C9 := D9.out _ hs
                cases hc : isAt l to3 5 cComma with
                | false =>
                  rw [hc] at C9
                  have hres : total = addS S nm := by rw [← HSN.out, hc, if_neg (by decide)]; rfl
                  subst hres
                  have D10 := Lib.hid C9
                  clear C9 D9 HSN hc
                  go_wp2_with (go_at_call 91; (with_reducible refine (D10.out).mono ?_); rintro e w7 ⟨rfl, rfl⟩)
                  refine bodyPost_ret (v := .tuple #[]) (by simp [results, Try.results77, go_sem]) rfl ?_
                  exact ⟨rfl, hs⟩
                | true =>
                  rw [hc] at C9
                  have HN : Hid (addAll (addS S nm) (namesAt l (to3 + 1)) = total) := by
                    unfold Hid
                    rw [← HSN.out, hc, if_pos rfl]
                  have HL3 := Lib.hid (isAt_len hc)
                  have D10 := Lib.hid C9
                  clear C9 D9 HSN hc
                  go_wp2_with (go_at_call 91; (with_reducible refine (D10.out).mono ?_); rintro e w7 ⟨rfl, rfl⟩)
                  go_roundw
                  case rel => exact ⟨to3 + 1, addS S nm, rfl, by have := HL3.out; omega, HN, hs⟩
                  case measure =>
                    have q1 := H1.out
                    have q2 := H2.out
                    have q3 := H3.out
                    have q4 := HL3.out
                    simp [intOf]; omega

end Go.Proofs.Ytoeepbjnbgpmpaa
