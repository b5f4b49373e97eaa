/- The document's cache: Put, done. -/
import Derived.Test.YtlilogcojeoelaaMF
namespace Go.Proofs.Ytlilogcojeoelaa
set_option linter.all false
open Go Go.RowKit


set_option maxRecDepth 100000 in
set_option maxHeartbeats 8000000 in
theorem rdput_ok (k : Env) (w : World) (R : Assn) (b : Nat) (d : DS) (y : Ky) (v : ByteArray) (now : Int) (hy : tiny y) (hvs : v.size ≤ 1000000000) (hr : rightK y = true) (n0 : ¬ now < 0) (n1 : ¬ 549755813888 < now) (t1 : 1 ≤ d.ttl) (t2 : d.ttl ≤ 549755813888)
    (z1 : 1 ≤ sizeK y v) (z2 : sizeK y v ≤ d.mo) (z3 : d.mo ≤ d.al) (hal : d.al ≤ 1073741824) (hn : NdV d.T d.K) (hpt : posV d.T) (hpk : posV d.K) (hsum : sumV d.T + sumV d.K ≤ d.al) (hl : (d.L.length : Int) ≤ 536870912) (hp : (d.P.length : Int) ≤ 536870912)
    (hgs : ∀ s ∈ (roomR d.al (textK y) (sizeK y v) d.T d.K).2.2, s.size ≤ 300000) (hgl : ((roomR d.al (textK y) (sizeK y v) d.T d.K).2.2.length : Int) ≤ 536870912)
    (htk : (((textK y, sizeK y v) :: (roomR d.al (textK y) (sizeK y v) d.T d.K).1).length : Int) + (roomR d.al (textK y) (sizeK y v) d.T d.K).2.1.length ≤ 1073741824) (h : Sat k w (DocR b d * R)) :
    Calls Try.prog 22 #[pq b, kyV y, .string v, .int .i64 now] w fun e w' => ∃ v', e = .returned (.tuple #[v', .int .i64 0]) ∧ Sat k w' (KysR v' ((roomR d.al (textK y) (sizeK y v) d.T d.K).2.2.map resP) * (DocR b (dgones (roomR d.al (textK y) (sizeK y v) d.T d.K).2.2 (dputS d y v now)) * R)) := by
  have CP := Lib.hid (fun w' R' sb => rput_ok k w' R' sb d.al d.kp d.mo d.T d.K (textK y) (sizeK y v) z1 z2 z3 hal hn hpt hpk hsum)
  obtain ⟨d2, hd2⟩ : ∃ d2, dputS d y v now = d2 := ⟨_, rfl⟩
  have HD2 := Lib.hid hd2
  rw [hd2]
  have hll2 : ((dputS d y v now).L.length : Int) ≤ 1073741824 := by
    show ((insQ (dropV (textK y) d.L) (textK y, now + d.ttl)).length : Int) ≤ _
    have h1 := dropV_len (textK y) d.L
    have h2 : (insQ (dropV (textK y) d.L) (textK y, now + d.ttl)).length = (dropV (textK y) d.L).length + 1 := by
      unfold insQ
      rw [List.length_append, List.length_cons]
      have := congrArg List.length (List.takeWhile_append_dropWhile (p := fun x : KV => decide (x.2 ≤ (textK y, now + d.ttl).2)) (l := dropV (textK y) d.L))
      rw [List.length_append] at this
      omega
    omega
  have hpp2 : ((dputS d y v now).P.length : Int) ≤ 1073741824 := by
    show ((dropP (textK y) d.P ++ [(textK y, v)]).length : Int) ≤ _
    have h1 := dropP_len (textK y) d.P
    rw [List.length_append]; simp; omega
  have htt2 : ((dputS d y v now).T.length : Int) + (dputS d y v now).K.length ≤ 1073741824 := htk
  rw [hd2] at hll2 hpp2 htt2
  have HC : Hid (∀ {w' : World} {R' : Assn} {sb qb : Nat} {vv : Value}, Sat k w' (blk b (.cells (cellsD sb qb vv d.ttl) 105 (0, 0)) * (RefV sb d.al d.kp d.mo ((textK y, sizeK y v) :: (roomR d.al (textK y) (sizeK y v) d.T d.K).1) (roomR d.al (textK y) (sizeK y v) d.T d.K).2.1 * (Q11 qb (insQ (dropV (textK y) d.L) (textK y, now + d.ttl)) * (Prs vv (dropP (textK y) d.P ++ [(textK y, v)]) * R')))) → Sat k w' (DocR b d2 * R')) := by
    unfold Hid
    intro w' R' sb qb vv h'
    rw [← HD2.out]
    exact dr_close (d := dputS d y v now) h' rfl rfl rfl rfl rfl rfl rfl rfl
  clear hd2 htk hn hpt hpk hsum z1 z2 z3
  obtain ⟨gone, hgo⟩ : ∃ g, (roomR d.al (textK y) (sizeK y v) d.T d.K).2.2 = g := ⟨_, rfl⟩
  rw [hgo] at CP hgs hgl ⊢
  clear hgo
  generalize (textK y, sizeK y v) :: (roomR d.al (textK y) (sizeK y v) d.T d.K).1 = T2 at *
  generalize (roomR d.al (textK y) (sizeK y v) d.T d.K).2.1 = K2 at *
  (
    have h1 := h.alloc (.cells #[.string y.db, .string y.ro, .int .i64 y.fm, .string y.nm] 28)
    have CR := Lib.hid (fun w' R' => rright_any k w' R' y hy)
    have CT := Lib.hid (fun w' R' => rtext_any k w' R' y hy)
    have CZ := Lib.hid (fun w' R' => rsize_any k w' R' y v hy hvs)
    clear h
    unfold kyV at CR CT CZ ⊢
    go_enter Try.func22, Try.ntmps22
    go_upto_region 1 with fail
    generalize w.alloc (.cells #[.string y.db, .string y.ro, .int .i64 y.fm, .string y.nm] 28) = w1 at *
    generalize w.heap.size = o5 at *
    have d0 : w1.cell? ⟨o5, 0, none⟩ = some (.string y.db) := h1.cell 0
    have d1 : w1.cell? ⟨o5, 1, none⟩ = some (.string y.ro) := h1.cell 1
    have d2k : w1.cell? ⟨o5, 2, none⟩ = some (.int .i64 y.fm) := h1.cell 2
    have d3 : w1.cell? ⟨o5, 3, none⟩ = some (.string y.nm) := h1.cell 3)
  rw [hr] at CR
  go_wp2_with fail
  refine (CR.out w1 _ h1).mono ?_
  rintro e w2 ⟨rfl, h2⟩
  clear d0 d1 d3
  have e0 : w2.cell? ⟨o5, 0, none⟩ = some (.string y.db) := h2.cell 0
  have e1 : w2.cell? ⟨o5, 1, none⟩ = some (.string y.ro) := h2.cell 1
  have e2 : w2.cell? ⟨o5, 2, none⟩ = some (.int .i64 y.fm) := h2.cell 2
  have e3 : w2.cell? ⟨o5, 3, none⟩ = some (.string y.nm) := h2.cell 3
  clear d2k h1 CR
  go_wp2_with fail
  refine (CT.out w2 _ h2).mono ?_
  rintro e w3 ⟨rfl, h3⟩
  clear e0 e1 e2 e3 h2 CT
  obtain ⟨sb, qb, pa, pc, hs⟩ := dr_open h3.swap
  have c0 : w3.cell? ⟨b, 0, none⟩ = some (pq sb) := hs.cell 0
  have d0 : w3.cell? ⟨o5, 0, none⟩ = some (.string y.db) := hs.get5.cell 0
  have d1 : w3.cell? ⟨o5, 1, none⟩ = some (.string y.ro) := hs.get5.cell 1
  have d2k : w3.cell? ⟨o5, 2, none⟩ = some (.int .i64 y.fm) := hs.get5.cell 2
  have d3 : w3.cell? ⟨o5, 3, none⟩ = some (.string y.nm) := hs.get5.cell 3
  go_upto_region 4 with fail
  go_region_held3 (fun w' => w'.cell? ⟨b, 0, none⟩ = some (pq sb) ∧ w'.cell? ⟨o5, 0, none⟩ = some (.string y.db) ∧ w'.cell? ⟨o5, 1, none⟩ = some (.string y.ro) ∧ w'.cell? ⟨o5, 2, none⟩ = some (.int .i64 y.fm) ∧ w'.cell? ⟨o5, 3, none⟩ = some (.string y.nm))
    (first | exact ⟨c0, d0, d1, d2k, d3⟩ | exact ⟨(h4.cell 0).trans rfl, (h4.get5.cell 0).trans rfl, (h4.get5.cell 1).trans rfl, (h4.get5.cell 2).trans rfl, (h4.get5.cell 3).trans rfl⟩ | exact ⟨(h5.get3.cell 0).trans rfl, (h5.get6.cell 0).trans rfl, (h5.get6.cell 1).trans rfl, (h5.get6.cell 2).trans rfl, (h5.get6.cell 3).trans rfl⟩ | fail)
    (first | (go_at_call 16; (with_reducible refine (CZ.out _ _ (Sat.drew hs)).mono ?_); rintro e w4 ⟨rfl, h4⟩) | (go_at_call 55; (with_reducible refine (CP.out _ _ sb h4.swap).mono ?_); rintro e w5 ⟨v5, rfl, h5⟩; obtain ⟨va, vc, rfl⟩ := own_val h5) | fail)
  have h6 : Sat k w5 (Prs (.slice none 0 0) (dropP (textK y) (d.P.take 0)) * ((blk b (.cells (cellsD sb qb (.slice pa d.P.length pc) d.ttl) 105 (0, 0))) * (Prs (.slice pa d.P.length pc) d.P * (RefV sb d.al d.kp d.mo T2 K2 * (Q11 qb d.L * (Strs (.slice va gone.length vc) gone * ((blk o5 (.cells #[.string y.db, .string y.ro, .int .i64 y.fm, .string y.nm] 28 (0, 0))) * R))))))) := own_nil (h5.of_eq (by ac_rfl))
  clear c0 d0 d1 d2k d3 h5 h4 hs h3 CP CZ
  obtain ⟨tx, htx⟩ : ∃ tx, textK y = tx := ⟨_, rfl⟩
  rw [htx] at h6 HC
  have HTX := Lib.hid htx
  rw [htx]
  clear htx
  go_wp2_with fail
  go_loopw [13, 14] (fun v13 i wr => ∃ j : Nat, j ≤ d.P.length ∧ i = .int .i64 j ∧ Sat k wr (Prs v13 (dropP tx (d.P.take j)) * ((blk b (.cells (cellsD sb qb (.slice pa d.P.length pc) d.ttl) 105 (0, 0))) * (Prs (.slice pa d.P.length pc) d.P * (RefV sb d.al d.kp d.mo T2 K2 * (Q11 qb d.L * (Strs (.slice va gone.length vc) gone * ((blk o5 (.cells #[.string y.db, .string y.ro, .int .i64 y.fm, .string y.nm] 28 (0, 0))) * R)))))))) (fun _ i _ => d.P.length - (intOf i).toNat)
  case atStart => exact ⟨0, Nat.zero_le _, rfl, h6⟩
  case round =>
    clear h6
    obtain ⟨j, hj, rfl, hq⟩ := hrel
    obtain ⟨xa, xc, rfl⟩ := rec_val hq
    have c2 : wr.cell? ⟨b, 2, none⟩ = some (.slice pa d.P.length pc) := hq.swap.cell 2
    have hfl : ((dropP tx (d.P.take j)).length : Int) ≤ 536870912 := by
      have := dropP_len tx (d.P.take j)
      rw [List.length_take] at this
      omega
    by_cases hlt : j < d.P.length
    · have hlt' : (j : Int) < d.P.length := by omega
      obtain ⟨g, rfl, e0, e1⟩ := pr_get hq.get3 j hlt
      have HSN : Hid (dropP tx (d.P.take (j + 1)) = if d.P[j].1 = tx then dropP tx (d.P.take j) else dropP tx (d.P.take j) ++ [d.P[j]]) := by
        have hsn : d.P.take (j + 1) = d.P.take j ++ [d.P[j]] := by rw [List.take_succ]; simp [hlt]
        unfold Hid; rw [hsn, dropP_snoc]
      generalize d.P[j] = x at *
      generalize dropP tx (d.P.take j) = fl at *
      obtain ⟨x1, x2⟩ := x
      simp only at e0 e1 HSN
      have hcmp : (x1.toList == tx.toList) = decide (x1 = tx) := tl_beq _ _
      by_cases hx : x1 = tx
      · rw [decide_eq_true hx] at hcmp
        rw [if_pos hx] at HSN
        have HX := Lib.hid hx
        clear hx
        go_wp2_with fail
        go_roundw
        case rel => exact ⟨j + 1, by omega, by go_num, by rw [HSN.out]; exact hq⟩
        case measure => simp [intOf]; omega
      · rw [decide_eq_false hx] at hcmp
        rw [if_neg hx] at HSN
        have HX := Lib.hid hx
        clear hx
        go_upto_region 12 with fail
        go_wp2_with (at_builtin; refine wpList_append_sat TPr (hq.alloc' _) (.tmp 63) (.tmp 71) _ 1 1 [.string x1, .string x2] rfl rfl rfl rfl rfl (fun _ => ⟨_, rfl, new_cells_at _ _ _ _ (by first | rfl | simp)⟩) (EPr.one (x1, x2)) (by simp only [maxLen]; omega) (by omega) ?_; intro a7 c7 w7 h7)
        go_roundw
        case rel => exact ⟨j + 1, by omega, by go_num, by rw [HSN.out]; exact rec_push (E := EPr) (x := (x1, x2)) h7⟩
        case measure => simp [intOf]; omega
    · have hjl : j = d.P.length := by omega
      subst hjl
      rw [List.take_length] at hq hfl ⊢
      go_upto_region 13 with fail
      clear c2
      go_wp2_with (at_builtin; refine wpList_append_sat TPr (hq.alloc' _) (.tmp 73) (.tmp 77) _ 1 1 [.string tx, .string v] rfl rfl rfl rfl rfl (fun _ => ⟨_, rfl, new_cells_at _ _ _ _ (by first | rfl | simp)⟩) (EPr.one (tx, v)) (by simp only [maxLen]; omega) (by omega) ?_; intro a7 c7 w7 h7; have c2 : w7.cell? ⟨b, 2, none⟩ = some (.slice pa d.P.length pc) := h7.swap.cell 2; have f2 := h7.swap.frozen 2)
      have h8 := h7.swap.set 2 (.slice a7 ((dropP tx d.P).length + 1) c7)
      generalize w7.setCell ⟨b, 2, none⟩ (.slice a7 ((dropP tx d.P).length + 1) c7) = w8 at *
      have h9 : Sat k w8 (Q11 qb d.L * (blk b (.cells (cellsD sb qb (.slice a7 ((dropP tx d.P).length + 1) c7) d.ttl) 105 (0, 0)) * (Prs (.slice a7 ((dropP tx d.P).length + 1) c7) (dropP tx d.P ++ [(tx, v)]) * (Prs (.slice pa d.P.length pc) d.P * (RefV sb d.al d.kp d.mo T2 K2 * (Strs (.slice va gone.length vc) gone * ((blk o5 (.cells #[.string y.db, .string y.ro, .int .i64 y.fm, .string y.nm] 28 (0, 0))) * R))))))) := (rec_push (E := EPr) (x := (tx, v)) h8.swap).of_eq (by unfold Prs cellsD; simp only [List.setIfInBounds_toArray, List.set_cons_zero, List.set_cons_succ]; ac_rfl)
      clear c2 f2 h7 h8 hq hfl
      have c1 : w8.cell? ⟨b, 1, none⟩ = some (pq qb) := h9.swap.cell 1
      have c3 : w8.cell? ⟨b, 3, none⟩ = some (.int .i64 d.ttl) := h9.swap.cell 3
      have hwr : IntKind.i64.wrap (now + d.ttl) = now + d.ttl := IntWalk.i64_in _ (by omega)
      have CS := Lib.hid (fun w' R' => rqset_any k w' R' qb d.L tx (now + d.ttl) (by omega) (by omega) (by omega))
      go_upto_region 15 with fail
      go_region_held3 (fun w' => w'.cell? ⟨b, 1, none⟩ = some (pq qb) ∧ w'.cell? ⟨b, 3, none⟩ = some (.int .i64 d.ttl))
        (first | exact ⟨c1, c3⟩ | exact ⟨(h10.swap.cell 1).trans rfl, (h10.swap.cell 3).trans rfl⟩ | fail)
        (first | (go_at_call 56; (with_reducible refine (CS.out _ _ (Sat.drew h9)).mono ?_); rintro e w10 ⟨rfl, h10⟩) | fail)
      have h11 : Sat k w10 (DocR b d2 * ((blk o5 (.cells #[.string y.db, .string y.ro, .int .i64 y.fm, .string y.nm] 28 (0, 0))) * (Prs (.slice pa d.P.length pc) d.P * (Strs (.slice va gone.length vc) gone * R)))) := HC.out (sb := sb) (qb := qb) (vv := .slice a7 ((dropP tx d.P).length + 1) c7) (h10.of_eq (by ac_rfl))
      have h12 : Sat k w10 (DocR b (dgones (gone.take 0) d2) * (Strs (.slice va gone.length vc) gone * R)) := h11.swap.drop.swap.drop
      clear c1 c3 CS h9 h10 h11 hwr HC HD2
      go_wp2_with fail
      go_loopw [15] (fun i wr => ∃ j : Nat, j ≤ gone.length ∧ i = .int .i64 j ∧ Sat k wr (DocR b (dgones (gone.take j) d2) * (Strs (.slice va gone.length vc) gone * R))) (fun i _ => gone.length - (intOf i).toNat)
      case atStart => exact ⟨0, Nat.zero_le _, rfl, h12⟩
      case round =>
        clear h12
        obtain ⟨j, hj, rfl, hr2⟩ := hrel
        by_cases hlt : j < gone.length
        · have hlt' : (j : Int) < gone.length := by omega
          obtain ⟨g, rfl, hg, dj⟩ := strs_get hr2.swap j hlt
          have HSN : Hid (dgones (gone.take (j + 1)) d2 = dgone (dgones (gone.take j) d2) gone[j]) := by
            have hsn : gone.take (j + 1) = gone.take j ++ [gone[j]] := by rw [List.take_succ]; simp [hlt]
            unfold Hid; rw [hsn, dgones_snoc]
          obtain ⟨l1, l2, l3, l4⟩ := dgones_len (gone.take j) d2
          generalize gone[j] = s at *
          have C2 := Lib.hid (rgone_any k _ _ b (dgones (gone.take j) d2) s (by omega) (by omega) (by omega) hr2)
          rw [← HSN.out] at C2
          go_wp2_with fail
          refine C2.out.mono ?_
          rintro e w2 ⟨rfl, h4⟩
          go_wp2_with fail
          go_roundw
          case rel => exact ⟨j + 1, by omega, by go_num, h4⟩
          case measure => simp [intOf]; omega
        · have hjl : j = gone.length := by omega
          subst hjl
          rw [List.take_length] at hr2
          go_wp2_with fail
          refine (rkeysof_any k _ _ va vc gone hgs (by omega) hr2.swap).mono ?_
          rintro e w2 ⟨v2, rfl, h4⟩
          go_wp2_with fail
          go_ret2
          exact ⟨_, rfl, h4.swap.drop⟩

end Go.Proofs.Ytlilogcojeoelaa
