/- Contracts of pontoonref07: Reads, Writes. -/
import Derived.Test.YtoeepbjnbgpmpaaSetsI
namespace Go.Proofs.Ytoeepbjnbgpmpaa
set_option linter.all false
open Go Go.RowKit

theorem putL_len : ∀ (more l : List ByteArray), (putL l more).length ≤ l.length + more.length
  | [], l => Nat.le_refl _
  | x :: r, l => by
    have h1 := putL_len r (insB l x)
    have h2 := insB_len l x
    rw [putL_cons, List.length_cons]; omega
theorem nm_size (l : List Tok) (hT : ∀ x ∈ l, x.t.size ≤ 1000000) (i : Nat) : (nmName l i).size ≤ 1000000000 := by
  have ht : ∀ j, (txAt l j).size ≤ 1000000 := by
    intro j
    unfold txAt
    split
    · rename_i x hx
      exact hT x (List.mem_of_getElem? hx)
    · decide
  unfold nmName
  have h1 := ht i
  have h2 := ht (i + 2)
  split
  · rw [ByteArray.size_append, ByteArray.size_append]
    have : cDot.size = 1 := rfl
    omega
  · omega
theorem namesF_size (l : List Tok) (hT : ∀ x ∈ l, x.t.size ≤ 1000000) : ∀ (n i : Nat), ∀ x ∈ namesF n l i, x.size ≤ 1000000000
  | 0, _, x, hx => by cases hx
  | n + 1, i, x, hx => by
    rw [namesF] at hx
    split at hx
    · rw [List.mem_cons] at hx
      rcases hx with rfl | hx
      · exact nm_size l hT _
      · split at hx
        · exact namesF_size l hT n _ x hx
        · cases hx
    · cases hx
theorem rAll_size (l : List Tok) (hT : ∀ x ∈ l, x.t.size ≤ 1000000) : ∀ j, ∀ x ∈ rAll l j, x.size ≤ 1000000000
  | 0, x, hx => by cases hx
  | j + 1, x, hx => by
    rw [rAll, List.mem_append] at hx
    rcases hx with hx | hx
    · exact rAll_size l hT j x hx
    · split at hx
      · exact namesF_size l hT _ _ x hx
      · cases hx
theorem wAll_size (l : List Tok) (hT : ∀ x ∈ l, x.t.size ≤ 1000000) : ∀ j, ∀ x ∈ wAll l j, x.size ≤ 1000000000
  | 0, x, hx => by cases hx
  | j + 1, x, hx => by
    rw [wAll, List.mem_append] at hx
    rcases hx with hx | hx
    · exact wAll_size l hT j x hx
    · split at hx
      · exact namesF_size l hT _ _ x hx
      · split at hx
        · exact namesF_size l hT _ _ x (List.mem_of_mem_take hx)
        · cases hx
theorem Rd.take {k : Env} {R : Assn} {a : Option Addr} {l : List ByteArray} (h : Rd k R a l) (n : Nat) : Rd k R a (l.take n) := by
  obtain ⟨g, o, h1, h2⟩ := h
  refine ⟨g, o, fun hne => h1 (by rintro rfl; exact hne (by simp)), fun w' h' j hj => ?_⟩
  rw [List.length_take] at hj
  rw [h2 w' h' j (by omega), List.getElem_take]
/-- The document's condition says the same. -/
theorem readC_doc (l : List Tok) (j : Nat) : readC l j = (((isAt l j 1 cFrom && !isAt l ((j : Int) - 1) 1 cDelete) || isAt l j 1 cJoin || isAt l j 1 cUsing) || (decide (j = 0) && isAt l j 1 cTable)) := by
  unfold readC wdAt
  cases hF : isAt l j 1 cFrom with
  | false => simp
  | true =>
    rw [isAt_one hF (by decide +kernel : cFrom ≠ cJoin), isAt_one hF (by decide +kernel : cFrom ≠ cUsing)]
    simp
theorem oneC_trunc (l : List Tok) (j : Nat) (h : isAt l j 1 cTrunc = true) : oneC l j = false := by
  unfold oneC wdAt
  rw [isAt_one h (by decide +kernel : cTrunc ≠ cInto), isAt_one h (by decide +kernel : cTrunc ≠ cUpdate), isAt_one h (by decide +kernel : cTrunc ≠ cFrom)]
  rfl

set_option maxRecDepth 100000 in
set_option maxHeartbeats 8000000 in
theorem rreads_any (k : Env) (w : World) (R : Assn) (a : Option Addr) (cap : Nat) (l : List Tok) (hr : RdT k R a l) (hl : l.length ≤ 20000) (hT : ∀ x ∈ l, x.t.size ≤ 1000000) (h : Sat k w R) :
    Calls Try.prog 54 #[.slice a l.length cap] w fun e w' => ∃ v c, e = .returned (.slice v (readsL l).length c) ∧ Sat k w' (Strs (.slice v (readsL l).length c) (readsL l) * R) := by
  have hz0 : Hid (∀ j, j ≤ l.length → (putL [] (rAll l j)).length ≤ 500000000) := by
    intro j hj
    have h1 := putL_len (rAll l j) []
    have h2 := rAll_len l j
    have h3 : j * (l.length + 1) ≤ 20000 * 20001 := Nat.mul_le_mul (by omega) (by omega)
    simp only [List.length_nil] at h1
    omega
  have hz1 : Hid (∀ j, ∀ x ∈ putL [] (rAll l j), x.size ≤ 1000000000) := by
    intro j x hx
    rw [put_mem] at hx
    rcases hx with hx | hx
    · cases hx
    · exact rAll_size l hT j x hx
  have hz2 : Hid (∀ n, (namesAt l n).length ≤ 20001) := by
    intro n
    have := names_len (l.length + 1) l n
    unfold namesAt; omega
  have hz3 : Hid (∀ n, ∀ x ∈ namesAt l n, x.size ≤ 1000000000) := fun n => namesF_size l hT _ n
  have CW := Lib.hid (fun v L w (i : Int) s h => rwd_any k w (Strs v L * R) a cap l i s (hr.mono fun _ q => q.drop) h)
  have CF := Lib.hid (fun v L w n hn h => rfrom_any k w (Strs v L * R) a cap l n hn (by omega) hT (hr.mono fun _ q => q.drop) h)
  have h0 : Sat k w (Strs (.slice none 0 0) [] * R) := own_nil h
  clear hr hT h
  go_enter Try.func54, Try.ntmps54
  go_wp2_with fail
  go_loopw [3, 4] (fun s3 s4 wr => ∃ (j : Nat) (v : Option Addr) (c : Nat) (L : List ByteArray), j ≤ l.length ∧ s4 = .int .i64 j ∧ s3 = .slice v L.length c ∧ Hid (L = putL [] (rAll l j)) ∧ Sat k wr (Strs (.slice v L.length c) L * R)) (fun _ s4 _ => l.length - (intOf s4).toNat)
  case atStart => exact ⟨0, none, 0, [], Nat.zero_le _, rfl, rfl, rfl, h0⟩
  case round =>
    clear h0
    obtain ⟨j, v, c, L, hj, rfl, rfl, HL, hs⟩ := hrel
    by_cases hlt : j < l.length
    · have hlt' : (j : Int) < l.length := by omega
      obtain ⟨mI, hmI⟩ : ∃ mI, mI = (j : Int) - 1 := ⟨_, rfl⟩
      have hwm : IntKind.i64.wrap ((j : Int) - 1) = mI := by rw [IntWalk.i64_in _ (by omega)]; omega
      obtain ⟨n, hn⟩ : ∃ n, n = j + 1 := ⟨_, rfl⟩
      have hwn : IntKind.i64.wrap ((j : Int) + 1) = n := by rw [IntWalk.i64_in _ (by omega)]; omega
      have hst : putL [] (rAll l n) = putL L (if readC l j = true then namesAt l n else []) := by rw [HL.out, ← putL_app, hn]; rfl
      rw [readC_doc, ← hmI] at hst
      have hLn := hz0.out j hj
      have hLs := hz1.out j
      rw [← HL.out] at hLn hLs
      have D1 := Lib.hid (CW.out (.slice v L.length c) L wr j cFrom hs)
      have D2 := Lib.hid (CW.out (.slice v L.length c) L wr mI cDelete hs)
      have D3 := Lib.hid (CW.out (.slice v L.length c) L wr j cJoin hs)
      have D4 := Lib.hid (CW.out (.slice v L.length c) L wr j cUsing hs)
      have D5 := Lib.hid (CW.out (.slice v L.length c) L wr j cTable hs)
      have hz : ((j : Int) == 0) = decide (j = 0) := by rw [Bool.eq_iff_iff]; simp
      generalize isAt l j 1 cFrom = F at *
      generalize isAt l mI 1 cDelete = D at *
      generalize isAt l j 1 cJoin = J at *
      generalize isAt l j 1 cUsing = U at *
      generalize isAt l j 1 cTable = T at *
      generalize decide (j = 0) = zb at *
      have HST := Lib.hid hst
      have HN1 := Lib.hid hn
      have HLT := Lib.hid hlt
      have HLS := Lib.hid hLs
      have HLN := Lib.hid hLn
      clear hst hmI hn hlt hLs hLn HL
      go_upto_region 5 with fail
      go_cut [39] (fun s39 wx => s39 = .bool (((F && !D) || J || U) || (zb && T)) ∧ Sat k wx (Strs (.slice v L.length c) L * R))
      case first =>
        clear HST HN1 HLT HLS HLN CF CW
        cases F <;> cases D
        case true.false =>
          go_wp2_with (go_at_call 79; (first | (with_reducible refine (D1.out).mono ?_) | (with_reducible refine (D2.out).mono ?_) | (with_reducible refine (D3.out).mono ?_) | (with_reducible refine (D4.out).mono ?_) | (with_reducible refine (D5.out).mono ?_)); rintro e w5 ⟨rfl, rfl⟩)
          go_meet
          case rel => exact ⟨rfl, hs⟩
        all_goals
          cases J with
          | true =>
            go_wp2_with (go_at_call 79; (first | (with_reducible refine (D1.out).mono ?_) | (with_reducible refine (D2.out).mono ?_) | (with_reducible refine (D3.out).mono ?_) | (with_reducible refine (D4.out).mono ?_) | (with_reducible refine (D5.out).mono ?_)); rintro e w5 ⟨rfl, rfl⟩)
            go_meet
            case rel => exact ⟨rfl, hs⟩
          | false =>
            cases U with
            | true =>
              go_wp2_with (go_at_call 79; (first | (with_reducible refine (D1.out).mono ?_) | (with_reducible refine (D2.out).mono ?_) | (with_reducible refine (D3.out).mono ?_) | (with_reducible refine (D4.out).mono ?_) | (with_reducible refine (D5.out).mono ?_)); rintro e w5 ⟨rfl, rfl⟩)
              go_meet
              case rel => exact ⟨rfl, hs⟩
            | false =>
              cases zb
              all_goals
                go_wp2_with (go_at_call 79; (first | (with_reducible refine (D1.out).mono ?_) | (with_reducible refine (D2.out).mono ?_) | (with_reducible refine (D3.out).mono ?_) | (with_reducible refine (D4.out).mono ?_) | (with_reducible refine (D5.out).mono ?_)); rintro e w5 ⟨rfl, rfl⟩)
                go_meet
                case rel => exact ⟨rfl, hs⟩
      case rest => as_aux_lemma =>
        clear hs D1 D2 D3 D4 D5 hz
        obtain ⟨rfl, hs⟩ := hcut
        cases hc : (((F && !D) || J || U) || (zb && T)) with
        | true =>
          have hst := HST.out
          rw [hc, if_pos rfl] at hst
          have C1 := Lib.hid (CF.out (.slice v L.length c) L wc n (by have := HN1.out; have := HLT.out; omega) hs)
          have C2 : Hid (∀ (w' : World) (v2 : Option Addr) (c2 : Nat), Sat k w' (Strs (.slice v2 (namesAt l n).length c2) (namesAt l n) * (Strs (.slice v L.length c) L * R)) → Calls Try.prog 80 #[.slice v L.length c, .slice v2 (namesAt l n).length c2] w' fun e w' => ∃ v c, e = .returned (.slice v (putL L (namesAt l n)).length c) ∧ Sat k w' (Strs (.slice v (putL L (namesAt l n)).length c) (putL L (namesAt l n)) * R)) := by
            intro w' v2 c2 q
            refine (rput_any k w' _ v c L v2 c2 (namesAt l n) (rd_own q.swap.drop) (by have := hz2.out n; have := HLN.out; omega) HLS.out (hz3.out n) q.swap).mono ?_
            rintro e w1 ⟨v3, c3, rfl, q⟩
            exact ⟨v3, c3, rfl, q.swap.drop⟩
          rw [← hst] at C2
          clear CW CF hst HST hc hs hz0 hz1 hz2 hz3 HLS HLN
          go_wp2_with (first | (go_at_call 81; (with_reducible refine (C1.out).mono ?_); rintro e w6 ⟨v2, c2, rfl, h6⟩) | (go_at_call 80; (with_reducible refine (C2.out _ _ _ h6).mono ?_); rintro e w7 ⟨v3, c3, rfl, h7⟩))
          go_roundw
          case rel => exact ⟨n, v3, c3, _, by have := HLT.out; have := HN1.out; omega, by have := HN1.out; go_num, rfl, rfl, h7⟩
          case measure => have := HLT.out; have := HN1.out; simp [intOf]; omega
        | false =>
          have hst : Hid (L = putL [] (rAll l n)) := by
            have hst := HST.out
            rw [hc, if_neg (by decide)] at hst
            exact hst.symm
          clear CW CF HST hc hz0 hz1 hz2 hz3 HLS HLN
          go_wp2_with fail
          go_roundw
          case rel => exact ⟨n, v, c, L, by have := HLT.out; have := HN1.out; omega, by have := HN1.out; go_num, rfl, hst, hs⟩
          case measure => have := HLT.out; have := HN1.out; simp [intOf]; omega
    · obtain rfl : j = l.length := by omega
      obtain rfl : L = readsL l := HL.out
      clear HL
      go_wp2_with fail
      go_ret
      exact ⟨_, _, rfl, hs⟩

end Go.Proofs.Ytoeepbjnbgpmpaa
