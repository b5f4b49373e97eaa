/- Contract of sets.Writes. -/
import Derived.Test.YtkjhfpjjcagecaaSetsG
namespace Go.Proofs.Ytkjhfpjjcagecaa
set_option linter.all false
open Go Go.RowKit

set_option maxRecDepth 100000 in
set_option maxHeartbeats 8000000 in
theorem swrites_any (k : Env) (w : World) (R : Assn) (a : Option Addr) (cap : Nat) (l : List Tok) (hr : RdT k R a l) (hl : l.length ≤ 1000000) (hT : ∀ x ∈ l, x.t.size ≤ 1000000) (h : Sat k w R) :
    Calls Try.prog 13 #[.slice a l.length cap] w fun e w' => ∃ v c, e = .returned (.slice v (writesS l).length c) ∧ Sat k w' (Strs (.slice v (writesS l).length c) (writesS l) * R) := by
  have hmf : ∀ (fn : Fn) (first cap : Array Value) (w : World), (Instr.makeFunc fn first cap).run Try.prog w = .ok (.func fn first cap) w := fun _ _ _ _ => rfl
  have hmm := @run_makeMap Try.prog
  have hmk := mapHa
  have h1 := map_made (K := ByteArray) (kv := Value.string) h
  have h2 := h1.alloc (.cells #[.map (some w.heap.size)] 43)
  have e2 : (w.alloc (.map #[] 0)).heap.size = w.heap.size + 1 := Array.size_push _
  rw [e2] at h2
  have h3 : Sat k ((w.alloc (.map #[] 0)).alloc (.cells #[.map (some w.heap.size)] 43)) (KS (w.heap.size + 1) w.heap.size [] * R) := ks_close (L := []) rfl h2
  have hbig : (wAll l l.length).length ≤ 2000000000000 := by
    have h1 := wAll_len l l.length
    have h2 : l.length * (l.length + 1) ≤ 1000000 * 1000001 := Nat.mul_le_mul hl (by omega)
    omega
  have HBIG := Lib.hid hbig
  have CW0 := Lib.hid (fun b m S w (i : Int) s h => word1_any k w (KS b m S * R) a cap l i s (hr.mono fun _ q => q.drop) h)
  have CW1 := Lib.hid (fun b m S c o w (i : Int) s h => word1_any k w (KS b m S * (blk c o * R)) a cap l i s (hr.mono fun _ q => q.drop.drop) h)
  have CNA := Lib.hid (fun b m c S w i hi h => wnames_all k w R a cap l b m c S i hi hl hT hr h)
  have CNO := Lib.hid (fun b m c S w i hi h => wnames_one k w R a cap l b m c S i hi hl hT hr h)
  clear hr hT hbig h1 h2 e2 h
  go_enter Try.func13, Try.ntmps13
  go_upto_region 3 with fail
  generalize ((w.alloc (.map #[] 0)).alloc (.cells #[.map (some w.heap.size)] 43)) = w1 at *
  generalize w.heap.size + 1 = b at *
  generalize w.heap.size = m at *
  go_wp2_with fail
  go_loopw [12] (fun s12 wr => ∃ j : Nat, j ≤ l.length ∧ s12 = .int .i64 j ∧ Sat k wr (KS b m (addAll [] (wAll l j)) * R)) (fun s12 _ => l.length - (intOf s12).toNat)
  case atStart => exact ⟨0, Nat.zero_le _, rfl, h3⟩
  case round =>
    clear h3
    obtain ⟨j, hj, rfl, hs⟩ := hrel
    by_cases hlt : j < l.length
    · have hlt' : (j : Int) < l.length := by omega
      obtain ⟨mI, hmI⟩ : ∃ mI, mI = (j : Int) - 1 := ⟨_, rfl⟩
      have hwm : IntKind.i64.wrap ((j : Int) - 1) = mI := by rw [IntWalk.i64_in _ (by omega)]; omega
      obtain ⟨n, hn⟩ : ∃ n, n = j + 1 := ⟨_, rfl⟩
      have hwn : IntKind.i64.wrap ((j : Int) + 1) = n := by rw [IntWalk.i64_in _ (by omega)]; omega
      have hst : addAll [] (wAll l n) = addAll (addAll [] (wAll l j)) (if wdAt l j cTrunc = true then namesAt l n else if oneC l j = true then (namesAt l n).take 1 else []) := by rw [← addAll_app, hn]; rfl
      have hrc : oneC l j = ((isAt l j 1 cInto || (isAt l j 1 cUpdate && !isAt l mI 1 cFor)) || (isAt l j 1 cFrom && isAt l mI 1 cDelete)) := by rw [hmI]; rfl
      rw [hrc] at hst
      generalize addAll [] (wAll l j) = S at *
      have D0 := Lib.hid (fun w h => CW0.out b m S w j cTrunc h)
      have D1 := Lib.hid (fun c o w h => CW1.out b m S c o w j cInto h)
      have D2 := Lib.hid (fun c o w h => CW1.out b m S c o w j cUpdate h)
      have D3 := Lib.hid (fun c o w h => CW1.out b m S c o w mI cFor h)
      have D4 := Lib.hid (fun c o w h => CW1.out b m S c o w j cFrom h)
      have D5 := Lib.hid (fun c o w h => CW1.out b m S c o w mI cDelete h)
      have D6 := Lib.hid (fun c w h => CNA.out b m c S w n (by omega) h)
      have D7 := Lib.hid (fun c w h => CNO.out b m c S w n (by omega) h)
      unfold wdAt at D0 D1 D2 D3 D4 D5 hst
      generalize isAt l j 1 cTrunc = mo at *
      generalize isAt l j 1 cInto = I at *
      generalize isAt l j 1 cUpdate = U at *
      generalize isAt l mI 1 cFor = O at *
      generalize isAt l j 1 cFrom = F at *
      generalize isAt l mI 1 cDelete = D at *
      have HST := Lib.hid hst
      have HN1 := Lib.hid hn
      have HLT := Lib.hid hlt
      clear hst hrc hmI hn hlt CW0 CW1 CNA CNO
      go_upto_region 7 with (go_at_call 26; (refine (D0.out _ hs).mono ?_; rintro e w5 ⟨rfl, h5⟩; have h6 := (h5.alloc (.cells #[.bool mo] 4)).swap; clear h5 hs D0))
      generalize (w5.alloc (.cells #[.bool mo] 4)) = w6 at *
      generalize w5.heap.size = c at *
      go_cut [7] (fun s7 wx => s7 = .bool ((I || (U && !O)) || (F && D)) ∧ Sat k wx (KS b m S * (blk c (.cells #[.bool mo] 4) * R)))
      case first =>
        clear HST D6 D7
        cases I with
        | true =>
          go_wp2_with (go_at_call 26; (refine (D1.out _ _ _ h6).mono ?_; rintro e w7 ⟨rfl, h7⟩))
          go_meet
          case rel => exact ⟨rfl, h7⟩
        | false =>
          cases U with
          | true =>
            cases O with
            | false =>
              go_wp2_with (go_at_call 26; (first | (refine (D3.out _ _ _ h8).mono ?_; rintro e w9 ⟨rfl, h9⟩) | (refine (D2.out _ _ _ h7).mono ?_; rintro e w8 ⟨rfl, h8⟩) | (refine (D1.out _ _ _ h6).mono ?_; rintro e w7 ⟨rfl, h7⟩)))
              go_meet
              case rel => exact ⟨rfl, h9⟩
            | true =>
              cases F with
              | false =>
                go_wp2_with (go_at_call 26; (first | (refine (D4.out _ _ _ h9).mono ?_; rintro e w10 ⟨rfl, h10⟩) | (refine (D3.out _ _ _ h8).mono ?_; rintro e w9 ⟨rfl, h9⟩) | (refine (D2.out _ _ _ h7).mono ?_; rintro e w8 ⟨rfl, h8⟩) | (refine (D1.out _ _ _ h6).mono ?_; rintro e w7 ⟨rfl, h7⟩)))
                go_meet
                case rel => exact ⟨rfl, h10⟩
              | true =>
                go_wp2_with (go_at_call 26; (first | (refine (D5.out _ _ _ h10).mono ?_; rintro e w11 ⟨rfl, h11⟩) | (refine (D4.out _ _ _ h9).mono ?_; rintro e w10 ⟨rfl, h10⟩) | (refine (D3.out _ _ _ h8).mono ?_; rintro e w9 ⟨rfl, h9⟩) | (refine (D2.out _ _ _ h7).mono ?_; rintro e w8 ⟨rfl, h8⟩) | (refine (D1.out _ _ _ h6).mono ?_; rintro e w7 ⟨rfl, h7⟩)))
                go_meet
                case rel => exact ⟨rfl, h11⟩
          | false =>
            cases F with
            | false =>
              go_wp2_with (go_at_call 26; (first | (refine (D4.out _ _ _ h8).mono ?_; rintro e w10 ⟨rfl, h10⟩) | (refine (D2.out _ _ _ h7).mono ?_; rintro e w8 ⟨rfl, h8⟩) | (refine (D1.out _ _ _ h6).mono ?_; rintro e w7 ⟨rfl, h7⟩)))
              go_meet
              case rel => exact ⟨rfl, h10⟩
            | true =>
              go_wp2_with (go_at_call 26; (first | (refine (D5.out _ _ _ h10).mono ?_; rintro e w11 ⟨rfl, h11⟩) | (refine (D4.out _ _ _ h8).mono ?_; rintro e w10 ⟨rfl, h10⟩) | (refine (D2.out _ _ _ h7).mono ?_; rintro e w8 ⟨rfl, h8⟩) | (refine (D1.out _ _ _ h6).mono ?_; rintro e w7 ⟨rfl, h7⟩)))
              go_meet
              case rel => exact ⟨rfl, h11⟩
      case rest => as_aux_lemma =>
        clear h6 D1 D2 D3 D4 D5
        obtain ⟨rfl, hs⟩ := hcut
        generalize ((I || (U && !O)) || (F && D)) = one at *
        have c0 : wc.cell? ⟨c, 0, none⟩ = some (.bool mo) := hs.swap.cell 0
        cases mo with
        | true =>
          have hst := HST.out
          rw [if_pos rfl] at hst
          have D8 := Lib.hid (D6.out _ _ hs)
          rw [id, ← hst] at D8
          clear D6 D7 hst HST
          go_wp2_with (go_at_call 27; (refine (D8.out).mono ?_); rintro e w6 ⟨rfl, h6⟩)
          go_roundw
          case rel => exact ⟨n, by have := HLT.out; have := HN1.out; omega, by have := HN1.out; go_num, h6.swap.drop⟩
          case measure => have := HLT.out; have := HN1.out; simp [intOf]; omega
        | false =>
          cases one with
          | true =>
            have hst := HST.out
            rw [if_neg (by decide), if_pos rfl] at hst
            have D8 := Lib.hid (D7.out _ _ hs)
            rw [← hst] at D8
            clear D6 D7 hst HST
            go_wp2_with (go_at_call 27; (refine (D8.out).mono ?_); rintro e w6 ⟨rfl, h6⟩)
            go_roundw
            case rel => exact ⟨n, by have := HLT.out; have := HN1.out; omega, by have := HN1.out; go_num, h6.swap.drop⟩
            case measure => have := HLT.out; have := HN1.out; simp [intOf]; omega
          | false =>
            have hst := HST.out
            rw [if_neg (by decide), if_neg (by decide)] at hst
            have hs' : Sat k wc (KS b m (addAll [] (wAll l n)) * R) := by rw [hst]; exact hs.swap.drop
            clear D6 D7 hst HST hs
            go_wp2_with fail
            go_roundw
            case rel => exact ⟨n, by have := HLT.out; have := HN1.out; omega, by have := HN1.out; go_num, hs'⟩
            case measure => have := HLT.out; have := HN1.out; simp [intOf]; omega
    · obtain rfl : j = l.length := by omega
      obtain ⟨L, hL, h1⟩ := ks_open hs
      have c0 : wr.cell? ⟨b, 0, none⟩ = some (.map (some m)) := h1.cell 0
      have hLL : L.length ≤ 2000000000000 := by
        have q1 := congrArg List.length hL
        have q2 := addAll_len (wAll l l.length) []
        have q3 := HBIG.out
        rw [List.length_map] at q1
        simp only [List.length_nil] at q2
        omega
      have C := sorted_any k wr _ m L hLL h1.swap
      rw [hL, sort_all] at C
      have hrd : sortL (wAll l l.length) = writesS l := rfl
      rw [hrd] at C
      have D := Lib.hid C
      clear C hrd hL hLL
      go_wp2_with (go_at_call 28; (with_reducible refine (D.out).mono ?_); rintro e w5 ⟨v, c, rfl, h5⟩)
      go_ret
      exact ⟨_, _, rfl, h5.swap.drop⟩

end Go.Proofs.Ytkjhfpjjcagecaa
