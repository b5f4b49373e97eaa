/- Contracts of Texts, Same, Meets. -/
import Derived.Test.YtkjhfpjjcagecaaSetsK
namespace Go.Proofs.Ytkjhfpjjcagecaa
set_option linter.all false
open Go Go.RowKit

set_option maxHeartbeats 2000000 in
/-- Equal lists. -/
theorem rtexts_any (k : Env) (w : World) (R : Assn) (a : Option Addr) (c : Nat) (b : Option Addr) (d : Nat) (l : List ByteArray) (ha : Rd k R a l) (hb : Rd k R b l) (hn : l.length ≤ 2000000000000) (h : Sat k w R) :
    Calls Try.prog 10 #[.slice a l.length c, .slice b l.length d] w fun e w' => e = .returned (.bool true) ∧ Sat k w' R := by
  have HA := Lib.hid ha
  have HB := Lib.hid hb
  clear ha hb
  go_enter Try.func10, Try.ntmps10
  go_wp2_with fail
  go_loopw [5] (fun s5 wr => ∃ j : Nat, j ≤ l.length ∧ s5 = .int .i64 j ∧ Sat k wr R) (fun s5 _ => l.length - (intOf s5).toNat)
  case atStart => exact ⟨0, Nat.zero_le _, rfl, h⟩
  case round =>
    clear h
    obtain ⟨j, hj, rfl, hs⟩ := hrel
    by_cases hlt : j < l.length
    · have hlt' : (j : Int) < l.length := by omega
      obtain ⟨g, o, rfl, d1⟩ := rd_get HA.out hs j hlt
      obtain ⟨g2, o2, rfl, d2⟩ := rd_get HB.out hs j hlt
      generalize l[j] = x at *
      have hq : (x.toList == x.toList) = true := by simp
      go_wp2_with fail
      go_quiet (fail)
      replace hs := hs.drewN nq
      generalize wr.drewN nq = wr at *
      go_wp2_with fail
      go_roundw
      case rel => exact ⟨j + 1, by omega, by go_num, hs⟩
      case measure => simp [intOf]; omega
    · obtain rfl : j = l.length := by omega
      go_wp2_with fail
      go_ret
      exact ⟨rfl, hs⟩

set_option maxRecDepth 100000 in
set_option maxHeartbeats 2000000 in
/-- Equal statements. -/
theorem rsame7_any (k : Env) (w : World) (R : Assn) (cl : Int) (a1 b1 a2 b2 : Option Addr) (c1 d1 c2 d2 : Nat) (rs ws : List ByteArray) (nm : ByteArray) (ha1 : Rd k R a1 rs) (hb1 : Rd k R b1 ws) (ha2 : Rd k R a2 rs) (hb2 : Rd k R b2 ws) (hn : rs.length ≤ 2000000000000) (hm : ws.length ≤ 2000000000000) (h : Sat k w R) :
    Calls Try.prog 15 #[.agg #[.int .i64 cl, .slice a1 rs.length c1, .slice b1 ws.length d1, .string nm], .agg #[.int .i64 cl, .slice a2 rs.length c2, .slice b2 ws.length d2, .string nm]] w fun e w' => e = .returned (.bool true) ∧ Sat k w' R := by
  have h0 := (h.alloc (.cells #[.int .i64 cl, .slice a1 rs.length c1, .slice b1 ws.length d1, .string nm] 30)).alloc (.cells #[.int .i64 cl, .slice a2 rs.length c2, .slice b2 ws.length d2, .string nm] 30)
  rw [show (w.alloc (.cells #[.int .i64 cl, .slice a1 rs.length c1, .slice b1 ws.length d1, .string nm] 30)).heap.size = w.heap.size + 1 from Array.size_push _] at h0
  have C1 := Lib.hid (fun w (o1 o2 : Nat) (u1 u2 : Obj) h => rtexts_any k w (blk o1 u1 * (blk o2 u2 * R)) a1 c1 a2 c2 rs (ha1.mono fun _ q => q.drop.drop) (ha2.mono fun _ q => q.drop.drop) hn h)
  have C2 := Lib.hid (fun w (o1 o2 : Nat) (u1 u2 : Obj) h => rtexts_any k w (blk o1 u1 * (blk o2 u2 * R)) b1 d1 b2 d2 ws (hb1.mono fun _ q => q.drop.drop) (hb2.mono fun _ q => q.drop.drop) hm h)
  clear ha1 ha2 hb1 hb2 h
  have hq : (nm.toList == nm.toList) = true := by simp
  go_enter Try.func15, Try.ntmps15
  go_upto_region 1 with fail
  generalize (w.alloc (.cells #[.int .i64 cl, .slice a1 rs.length c1, .slice b1 ws.length d1, .string nm] 30)).alloc (.cells #[.int .i64 cl, .slice a2 rs.length c2, .slice b2 ws.length d2, .string nm] 30) = w1 at *
  generalize w.heap.size = o at *
  have e0 : w1.cell? ⟨o, 0, none⟩ = some (.int .i64 cl) := h0.swap.cell 0
  have e1 : w1.cell? ⟨o, 1, none⟩ = some (.slice a1 rs.length c1) := h0.swap.cell 1
  have f0 : w1.cell? ⟨o + 1, 0, none⟩ = some (.int .i64 cl) := h0.cell 0
  have f1 : w1.cell? ⟨o + 1, 1, none⟩ = some (.slice a2 rs.length c2) := h0.cell 1
  go_wp2_with (go_at_call 10; (first | (refine (C2.out _ _ _ _ _ h2).mono ?_; rintro e w3 ⟨rfl, h3⟩; have e3 : w3.cell? ⟨o, 3, none⟩ = some (.string nm) := h3.swap.cell 3; have f3 : w3.cell? ⟨o + 1, 3, none⟩ = some (.string nm) := h3.cell 3) | (refine (C1.out _ _ _ _ _ h0).mono ?_; rintro e w2 ⟨rfl, h2⟩; have e2 : w2.cell? ⟨o, 2, none⟩ = some (.slice b1 ws.length d1) := h2.swap.cell 2; have f2 : w2.cell? ⟨o + 1, 2, none⟩ = some (.slice b2 ws.length d2) := h2.cell 2)))
  go_ret
  exact ⟨rfl, h3.drop.drop⟩

def meetB (la lb : List ByteArray) : Bool := la.any fun x => memB x lb
theorem meetB_snoc (la lb : List ByteArray) (x : ByteArray) : meetB (la ++ [x]) lb = (meetB la lb || memB x lb) := by simp [meetB]
theorem meetB_iff {la lb : List ByteArray} : meetB la lb = true ↔ ∃ x ∈ la, x ∈ lb := by simp [meetB, memB_iff]
theorem meetB_comm (la lb : List ByteArray) : meetB la lb = meetB lb la := by
  rw [Bool.eq_iff_iff, meetB_iff, meetB_iff]
  constructor
  · rintro ⟨x, h1, h2⟩; exact ⟨x, h2, h1⟩
  · rintro ⟨x, h1, h2⟩; exact ⟨x, h2, h1⟩

set_option maxHeartbeats 1000000 in
theorem rmeets7_any (k : Env) (w : World) (R : Assn) (a : Option Addr) (cap : Nat) (la : List ByteArray) (b : Option Addr) (cb : Nat) (lb : List ByteArray) (ha : Rd k R a la) (hb : Rd k R b lb) (hn : la.length ≤ 1000000000) (hm : lb.length ≤ 1000000000) (h : Sat k w R) :
    Calls Try.prog 22 #[.slice a la.length cap, .slice b lb.length cb] w fun e w' => e = .returned (.bool (meetB la lb)) ∧ Sat k w' R := by
  have HR := Lib.hid ha
  have C := Lib.hid (fun w' s h' => in7_any k w' R b cb lb s hb hm h')
  clear ha hb
  go_enter Try.func22, Try.ntmps22
  go_wp2_with fail
  go_loopw [5] (fun i wr => ∃ j : Nat, j ≤ la.length ∧ i = .int .i64 j ∧ Hid (meetB (la.take j) lb = false) ∧ Sat k wr R) (fun i _ => la.length - (intOf i).toNat)
  case atStart => exact ⟨0, Nat.zero_le _, rfl, rfl, h⟩
  case round =>
    clear h
    obtain ⟨j, hj, rfl, HB, hs⟩ := hrel
    by_cases hlt : j < la.length
    · have hlt' : (j : Int) < la.length := by omega
      obtain ⟨g, o, rfl, d⟩ := rd_get HR.out hs j hlt
      have HSN : Hid (meetB (la.take (j + 1)) lb = (meetB (la.take j) lb || memB la[j] lb)) := by
        have hsn : la.take (j + 1) = la.take j ++ [la[j]] := by rw [List.take_succ]; simp [hlt]
        unfold Hid; rw [hsn, meetB_snoc]
      have HM : Hid (la[j] ∈ la) := List.getElem_mem hlt
      generalize la[j] = x at *
      cases hx : memB x lb with
      | true =>
        have HT : Hid (meetB la lb = true) := meetB_iff.2 ⟨x, HM.out, memB_iff.1 hx⟩
        have HX := Lib.hid hx
        clear hx
        have CC := C.out wr x hs
        rw [HX.out] at CC
        go_wp2_with fail
        refine CC.mono ?_
        rintro e w2 ⟨rfl, h2⟩
        go_wp2_with fail
        go_ret
        exact ⟨by rw [HT.out]; rfl, h2⟩
      | false =>
        rw [hx] at HSN
        have HX := Lib.hid hx
        clear hx
        have CC := C.out wr x hs
        rw [HX.out] at CC
        go_wp2_with fail
        refine CC.mono ?_
        rintro e w2 ⟨rfl, h2⟩
        go_wp2_with fail
        go_roundw
        case rel => exact ⟨j + 1, by omega, by go_num, by unfold Hid; rw [HSN.out, HB.out]; rfl, h2⟩
        case measure => simp [intOf]; omega
    · obtain rfl : j = la.length := by omega
      rw [List.take_length] at HB
      go_wp2_with fail
      go_ret
      exact ⟨by rw [HB.out]; rfl, hs⟩

/-- The counts of those that have come. -/
def CntOK (L : List (ByteArray × Int)) (n : Nat) (K : List ByteArray) : Prop :=
  ∀ s, (memB s K = true → ∃ z : Int, mget s L = some z ∧ 1 ≤ z ∧ z ≤ n) ∧ (memB s K = false → mget s L = none)
theorem cnt_get {L : List (ByteArray × Int)} {n : Nat} {K : List ByteArray} (h : CntOK L n K) (s : ByteArray) : ∃ z : Int, (mget s (hents L)).getD (.int .i64 0) = .int .i64 z ∧ (mget s L).getD 0 = z ∧ 0 ≤ z ∧ z ≤ n ∧ decide (0 < z) = memB s K := by
  rw [hents_get]
  cases hm : memB s K with
  | true =>
    obtain ⟨z, h1, h2, h3⟩ := (h s).1 hm
    exact ⟨z, by rw [h1]; rfl, by rw [h1]; rfl, by omega, h3, by rw [decide_eq_true_eq]; omega⟩
  | false =>
    have h1 := (h s).2 hm
    exact ⟨0, by rw [h1]; rfl, by rw [h1]; rfl, by omega, by omega, rfl⟩
theorem cnt_put {L : List (ByteArray × Int)} {n : Nat} {K : List ByteArray} (h : CntOK L n K) (x : ByteArray) {z : Int} (hz : (mget x L).getD 0 = z) (h0 : 0 ≤ z) (hn : z ≤ n) : CntOK (mput x (z + 1) L) (n + 1) (K ++ [x]) := by
  intro s
  rw [memB_snoc, mget_put]
  by_cases hx : x = s
  · rw [decide_eq_true hx, Bool.or_true, if_pos hx]
    exact ⟨fun _ => ⟨z + 1, rfl, by omega, by omega⟩, fun q => by cases q⟩
  · rw [decide_eq_false hx, Bool.or_false, if_neg hx]
    refine ⟨fun q => ?_, (h s).2⟩
    obtain ⟨z, h1, h2, h3⟩ := (h s).1 q
    exact ⟨z, h1, h2, by omega⟩

set_option maxRecDepth 100000 in
set_option maxHeartbeats 2000000 in
theorem smeets_any (k : Env) (w : World) (R : Assn) (a : Option Addr) (cap : Nat) (la : List ByteArray) (b : Option Addr) (cb : Nat) (lb : List ByteArray) (ha : Rd k R a la) (hb : Rd k R b lb) (hn : la.length ≤ 1000000000) (hm : lb.length ≤ 1000000000) (h : Sat k w R) :
    Calls Try.prog 21 #[.slice a la.length cap, .slice b lb.length cb] w fun e w' => e = .returned (.bool (meetB la lb)) ∧ Sat k w' R := by
  have hmm := @run_makeMap Try.prog
  have hmk := mapHa
  have h1 := map_made (K := ByteArray) (kv := Value.string) h
  have h2 : Sat k (w.alloc (.map #[] 0)) (MapK Value.string w.heap.size (hents []) * R) := h1
  rw [meetB_comm]
  have HA := Lib.hid (fun (m : Nat) L => ha.mono (R' := MapK Value.string m (hents L) * R) fun _ q => q.drop)
  have HB := Lib.hid (fun (m : Nat) L => hb.mono (R' := MapK Value.string m (hents L) * R) fun _ q => q.drop)
  clear ha hb h h1
  go_enter Try.func21, Try.ntmps21
  go_upto_region 2 with fail
  generalize (w.alloc (.map #[] 0)) = w1 at *
  generalize w.heap.size = m at *
  go_wp2_with fail
  go_loopw [13] (fun i wr => ∃ (j : Nat) (L : List (ByteArray × Int)), j ≤ la.length ∧ i = .int .i64 j ∧ Hid (CntOK L j (la.take j)) ∧ Sat k wr (MapK Value.string m (hents L) * R)) (fun i _ => la.length - (intOf i).toNat)
  case atStart => exact ⟨0, [], Nat.zero_le _, rfl, (fun s => ⟨(by intro q; cases q), fun _ => rfl⟩), h2⟩
  case round =>
    clear h2
    obtain ⟨j, L, hj, rfl, HC, hs⟩ := hrel
    by_cases hlt : j < la.length
    · have hlt' : (j : Int) < la.length := by omega
      obtain ⟨g, o, rfl, d⟩ := rd_get (HA.out m L) hs j hlt
      have HSN : Hid (la.take (j + 1) = la.take j ++ [la[j]]) := by unfold Hid; rw [List.take_succ]; simp [hlt]
      generalize la[j] = x at *
      obtain ⟨z, hz1, hz2, hz3, hz4, _⟩ := cnt_get HC.out x
      have hl := run_lookup_sat KStrT mapHa zeroInt hs x
      rw [hz1] at hl
      have HZ : Hid (CntOK (mput x (z + 1) L) (j + 1) (la.take (j + 1))) := by
        unfold Hid; rw [HSN.out]; exact cnt_put HC.out x hz2 hz3 hz4
      have hwz : wrap64 (z + 1) = z + 1 := by unfold wrap64; omega
      clear hz1 hz2 HC HSN
      go_wp2_with (at_mapUpdate; refine wpList_update_sat KStrT mapHa hs x (.int .i64 (z + 1)) (.tmp 17) (.tmp 18) (.tmp 20) rfl rfl rfl rfl rfl ?_; intro w6 h6; rw [hents_put] at h6)
      go_roundw
      case rel => exact ⟨j + 1, _, by omega, by go_num, HZ, h6⟩
      case measure => simp [intOf]; omega
    · obtain rfl : j = la.length := by omega
      rw [List.take_length] at HC
      have HB2 := Lib.hid (HB.out m L)
      clear HA HB
      go_wp2_with fail
      go_loopw [24] (fun i wr => ∃ j : Nat, j ≤ lb.length ∧ i = .int .i64 j ∧ Hid (meetB (lb.take j) la = false) ∧ Sat k wr (MapK Value.string m (hents L) * R)) (fun i _ => lb.length - (intOf i).toNat)
      case atStart => exact ⟨0, Nat.zero_le _, rfl, rfl, hs⟩
      case round =>
        clear hs
        obtain ⟨j, hj, rfl, HF, hs⟩ := hrel
        by_cases hlt : j < lb.length
        · have hlt' : (j : Int) < lb.length := by omega
          obtain ⟨g, o, rfl, d⟩ := rd_get HB2.out hs j hlt
          have HSN : Hid (meetB (lb.take (j + 1)) la = (meetB (lb.take j) la || memB lb[j] la)) := by
            have hsn : lb.take (j + 1) = lb.take j ++ [lb[j]] := by rw [List.take_succ]; simp [hlt]
            unfold Hid; rw [hsn, meetB_snoc]
          have HM : Hid (lb[j] ∈ lb) := List.getElem_mem hlt
          generalize lb[j] = x at *
          obtain ⟨z, hz1, _, _, _, hz5⟩ := cnt_get HC.out x
          have hl := run_lookup_sat KStrT mapHa zeroInt hs x
          rw [hz1] at hl
          clear hz1
          cases hx : memB x la with
          | true =>
            rw [hx, decide_eq_true_eq] at hz5
            have HT : Hid (meetB lb la = true) := meetB_iff.2 ⟨x, HM.out, memB_iff.1 hx⟩
            clear hx HM HSN HF
            go_wp2_with fail
            go_ret
            exact ⟨by rw [HT.out]; rfl, hs.drop⟩
          | false =>
            rw [hx] at hz5 HSN
            have hz6 : ¬ 0 < z := of_decide_eq_false hz5
            have HF2 : Hid (meetB (lb.take (j + 1)) la = false) := by unfold Hid; rw [HSN.out, HF.out]; rfl
            clear hz5 hx HM HSN HF
            go_wp2_with fail
            go_roundw
            case rel => exact ⟨j + 1, by omega, by go_num, HF2, hs⟩
            case measure => simp [intOf]; omega
        · obtain rfl : j = lb.length := by omega
          rw [List.take_length] at HF
          go_wp2_with fail
          go_ret
          exact ⟨by rw [HF.out]; rfl, hs.drop⟩

end Go.Proofs.Ytkjhfpjjcagecaa
