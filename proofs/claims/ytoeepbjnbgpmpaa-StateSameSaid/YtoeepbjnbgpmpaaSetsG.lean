/- Contract of sets.Reads. -/
import Derived.Test.YtoeepbjnbgpmpaaSetsF
namespace Go.Proofs.Ytoeepbjnbgpmpaa
set_option linter.all false
open Go Go.RowKit

theorem names_len : ∀ (n : Nat) (l : List Tok) (i : Nat), (namesF n l i).length ≤ n
  | 0, _, _ => Nat.le_refl _
  | n + 1, l, i => by
    rw [namesF]
    split
    · rw [List.length_cons]
      split
      · have := names_len n l (nmEnd l (nmI l i) + 1); omega
      · simp
    · simp
theorem rAll_len (l : List Tok) : ∀ j, (rAll l j).length ≤ j * (l.length + 1)
  | 0 => by simp [rAll]
  | j + 1 => by
    rw [rAll, List.length_append, Nat.succ_mul]
    have h1 := rAll_len l j
    have h2 := names_len (l.length + 1) l (j + 1)
    have h3 : (if readC l j = true then namesAt l (j + 1) else []).length ≤ l.length + 1 := by
      split
      · exact h2
      · simp
    omega
theorem wAll_len (l : List Tok) : ∀ j, (wAll l j).length ≤ j * (l.length + 1)
  | 0 => by simp [wAll]
  | j + 1 => by
    rw [wAll, List.length_append, Nat.succ_mul]
    have h1 := wAll_len l j
    have h2 := names_len (l.length + 1) l (j + 1)
    have h3 : (if wdAt l j cTrunc = true then namesAt l (j + 1) else if oneC l j = true then (namesAt l (j + 1)).take 1 else []).length ≤ l.length + 1 := by
      split
      · exact h2
      · split
        · rw [List.length_take]; omega
        · simp
    omega
theorem addAll_len : ∀ (l S : List ByteArray), (addAll S l).length ≤ S.length + l.length
  | [], S => Nat.le_refl _
  | x :: r, S => by
    have h1 := addAll_len r (addS S x)
    have h2 : (addS S x).length ≤ S.length + 1 := by unfold addS; split <;> simp
    rw [addAll_cons, List.length_cons]
    omega
theorem sort_all (l : List ByteArray) : sortL (addAll [] l) = sortL l := sort_same _ _ fun x => by rw [addAll_mem]; simp

set_option maxRecDepth 100000 in
set_option maxHeartbeats 8000000 in
theorem reads_any (k : Env) (w : World) (R : Assn) (a : Option Addr) (cap : Nat) (l : List Tok) (hr : RdT k R a l) (hl : l.length ≤ 1000000) (hT : ∀ x ∈ l, x.t.size ≤ 1000000) (h : Sat k w R) :
    Calls Try.prog 53 #[.slice a l.length cap] w fun e w' => ∃ v c, e = .returned (.slice v (readsL l).length c) ∧ Sat k w' (Strs (.slice v (readsL l).length c) (readsL l) * R) := by
  have hmf : ∀ (fn : Fn) (first cap : Array Value) (w : World), (Instr.makeFunc fn first cap).run Try.prog w = .ok (.func fn first cap) w := fun _ _ _ _ => rfl
  have hmm := @run_makeMap Try.prog
  have hmk := mapHa
  have h1 := map_made (K := ByteArray) (kv := Value.string) h
  have h2 := h1.alloc (.cells #[.map (some w.heap.size)] 99)
  have e2 : (w.alloc (.map #[] 0)).heap.size = w.heap.size + 1 := Array.size_push _
  rw [e2] at h2
  have h3 : Sat k ((w.alloc (.map #[] 0)).alloc (.cells #[.map (some w.heap.size)] 99)) (KS (w.heap.size + 1) w.heap.size [] * R) := ks_close (L := []) rfl h2
  have hbig : (rAll l l.length).length ≤ 2000000000000 := by
    have h1 := rAll_len l l.length
    have h2 : l.length * (l.length + 1) ≤ 1000000 * 1000001 := Nat.mul_le_mul hl (by omega)
    omega
  have HBIG := Lib.hid hbig
  have CW1 := Lib.hid (fun b m S w (i : Int) s h => word1_any k w (KS b m S * R) a cap l i s (hr.mono fun _ q => q.drop) h)
  have CW3 := Lib.hid (fun b m S w (i : Int) s t u h => word3_any k w (KS b m S * R) a cap l i s t u (hr.mono fun _ q => q.drop) h)
  have CN := Lib.hid (fun b m S w i hi h => rnames_any k w R a cap l b m S i hi hl hT hr h)
  clear hr hT hbig h1 h2 e2 h
  go_enter Try.func53, Try.ntmps53
  go_upto_region 4 with fail
  generalize ((w.alloc (.map #[] 0)).alloc (.cells #[.map (some w.heap.size)] 99)) = w1 at *
  generalize w.heap.size + 1 = b at *
  generalize w.heap.size = m at *
  go_wp2_with fail
  go_loopw [13] (fun s13 wr => ∃ j : Nat, j ≤ l.length ∧ s13 = .int .i64 j ∧ Sat k wr (KS b m (addAll [] (rAll l j)) * R)) (fun s13 _ => l.length - (intOf s13).toNat)
  case atStart => exact ⟨0, Nat.zero_le _, rfl, h3⟩
  case round =>
    clear h3
    obtain ⟨j, hj, rfl, hs⟩ := hrel
    by_cases hlt : j < l.length
    · have hlt' : (j : Int) < l.length := by omega
      obtain ⟨mI, hmI⟩ : ∃ mI, mI = (j : Int) - 1 := ⟨_, rfl⟩
      have hwm : IntKind.i64.wrap ((j : Int) - 1) = mI := by rw [IntWalk.i64_in _ (by omega)]; omega
      obtain ⟨n, hn⟩ : ∃ n, n = j + 1 := ⟨_, rfl⟩
      have hwn : IntKind.i64.wrap ((j : Int) + 1) = n := by rw [IntWalk.i64_in _ (by omega)]; omega
      have hst : addAll [] (rAll l n) = addAll (addAll [] (rAll l j)) (if readC l j = true then namesAt l n else []) := by rw [← addAll_app, hn]; rfl
      have hrc : readC l j = (((isAt l j 1 cFrom || isAt l j 1 cJoin || isAt l j 1 cUsing) && !(isAt l j 1 cFrom && isAt l mI 1 cDelete)) || (decide (j = 0) && isAt l j 1 cTable)) := by rw [hmI]; rfl
      rw [hrc] at hst
      generalize addAll [] (rAll l j) = S at *
      have D1 := Lib.hid (fun w h => CW1.out b m S w j cFrom h)
      have D2 := Lib.hid (fun w h => CW1.out b m S w mI cDelete h)
      have D3 := Lib.hid (fun w h => CW3.out b m S w j cFrom cJoin cUsing h)
      have D4 := Lib.hid (fun w h => CW1.out b m S w j cTable h)
      have D5 := Lib.hid (fun w h => CN.out b m S w n (by omega) h)
      unfold wdAt at D1 D2 D3 D4
      have hz : ((j : Int) == 0) = decide (j = 0) := by rw [Bool.eq_iff_iff]; simp
      generalize (isAt l j 1 cFrom || isAt l j 1 cJoin || isAt l j 1 cUsing) = f3 at *
      generalize isAt l j 1 cFrom = F at *
      generalize isAt l mI 1 cDelete = D at *
      generalize isAt l j 1 cTable = T at *
      generalize decide (j = 0) = zb at *
      have HST := Lib.hid hst
      have HN1 := Lib.hid hn
      have HLT := Lib.hid hlt
      clear hst hrc hmI hn hlt CW1 CW3
      go_upto_region 7 with fail
      go_cut [7] (fun s7 wx => s7 = .bool (F && D) ∧ Sat k wx (KS b m S * R))
      case first =>
        cases F with
        | true =>
          go_wp2_with (go_at_call 76; (first | (refine (D2.out _ h5).mono ?_; rintro e w6 ⟨rfl, h6⟩) | (refine (D1.out _ hs).mono ?_; rintro e w5 ⟨rfl, h5⟩)))
          go_meet
          case rel => exact ⟨rfl, h6⟩
        | false =>
          go_wp2_with (go_at_call 76; (first | (refine (D2.out _ h5).mono ?_; rintro e w6 ⟨rfl, h6⟩) | (refine (D1.out _ hs).mono ?_; rintro e w5 ⟨rfl, h5⟩)))
          go_meet
          case rel => exact ⟨rfl, h5⟩
      case rest => as_aux_lemma =>
        clear hs D1 D2
        obtain ⟨rfl, hs⟩ := hcut
        generalize (F && D) = fd at *
        go_upto_region 8 with fail
        go_cut [44] (fun s44 wx => s44 = .bool ((f3 && !fd) || (zb && T)) ∧ Sat k wx (KS b m S * R))
        case first =>
          clear HST
          cases f3 <;> cases fd <;> cases zb <;> cases T
          all_goals
            go_wp2_with (go_at_call 76; (first | (refine (D4.out _ h5).mono ?_; rintro e w6 ⟨rfl, h6⟩) | (refine (D3.out _ hs).mono ?_; rintro e w5 ⟨rfl, h5⟩) | (refine (D4.out _ hs).mono ?_; rintro e w6 ⟨rfl, h6⟩)))
            go_meet
            case rel => first | exact ⟨rfl, h6⟩ | exact ⟨rfl, h5⟩
        case rest => as_aux_lemma =>
          clear hs D3 D4
          obtain ⟨rfl, hs⟩ := hcut
          cases hc : ((f3 && !fd) || (zb && T)) with
          | true =>
            have hst := HST.out
            rw [hc, if_pos rfl] at hst
            have D6 := Lib.hid (D5.out _ hs)
            rw [id, ← hst] at D6
            clear D5 hst HST hc
            go_wp2_with (go_at_call 77; (refine (D6.out).mono ?_); rintro e w6 ⟨rfl, h6⟩)
            go_roundw
            case rel => exact ⟨n, by have := HLT.out; have := HN1.out; omega, by have := HN1.out; go_num, h6⟩
            case measure => have := HLT.out; have := HN1.out; simp [intOf]; omega
          | false =>
            have hst := HST.out
            rw [hc, if_neg (by decide)] at hst
            have hs' : Sat k wc (KS b m (addAll [] (rAll l n)) * R) := by rw [hst]; exact hs
            clear D5 hst HST hc hs
            go_wp2_with fail
            go_roundw
            case rel => exact ⟨n, by have := HLT.out; have := HN1.out; omega, by have := HN1.out; go_num, hs'⟩
            case measure => have := HLT.out; have := HN1.out; simp [intOf]; omega
    · obtain rfl : j = l.length := by omega
      obtain ⟨L, hL, h1⟩ := ks_open hs
      have c0 : wr.cell? ⟨b, 0, none⟩ = some (.map (some m)) := h1.cell 0
      have hLL : L.length ≤ 2000000000000 := by
        have q1 := congrArg List.length hL
        have q2 := addAll_len (rAll l l.length) []
        have q3 := HBIG.out
        rw [List.length_map] at q1
        simp only [List.length_nil] at q2
        omega
      have C := sorted_any k wr _ m L hLL h1.swap
      rw [hL, sort_all] at C
      have hrd : sortL (rAll l l.length) = readsL l := rfl
      rw [hrd] at C
      have D := Lib.hid C
      clear C hrd hL hLL
      go_wp2_with (go_at_call 78; (with_reducible refine (D.out).mono ?_); rintro e w5 ⟨v, c, rfl, h5⟩)
      go_ret
      exact ⟨_, _, rfl, h5.swap.drop⟩

end Go.Proofs.Ytoeepbjnbgpmpaa
