/- The law CachePlays, walked. -/
import Derived.Test.YtlilogcojeoelaaCacheZ1
import Derived.Test.YtlilogcojeoelaaCacheFr
namespace Go.Proofs.Ytlilogcojeoelaa
set_option linter.all false
open Go Go.RowKit

theorem Two.more {c : CS} {P : List PV} {p : Pu} {n : Nat} (H : Two c P p n) (hn : n < 100) : Two c P p (n + 1) := ⟨H.t, H.b, Nat.le_succ_of_le H.l, hn⟩
theorem len4i {l : List Int} (h : l.length = 4) : ∃ a b c d, l = [a, b, c, d] := by
  match l, h with
  | [a, b, c, d], _ => exact ⟨a, b, c, d, rfl⟩

set_option maxRecDepth 100000 in
set_option maxHeartbeats 16000000 in
theorem walkCachePlays (W : World) (hs : List Int) (hl : hs.length = 4) (hw : ∀ z ∈ hs, (Lit.int .i64 z).wf = true) (a : Option Addr) (len cap : Nat) (xs : List (List Value)) (z : IsRecs W a len cap 7 okOp xs) :
    Calls Try.prog 6 #[.agg (hs.map (Value.int .i64)).toArray, .slice a len cap] W fun e w' => e = .returned (.bool true) ∧ Below W.heap.size W w' := by
  obtain ⟨al, kp, mo, ttl, rfl⟩ := len4i hl
  clear hl hw
  have hz := (Sat.whole W).alloc (.cells #[.int .i64 al, .int .i64 kp, .int .i64 mo, .int .i64 ttl] 52)
  by_cases hbad : badNew al kp mo ∨ ttl < 1 ∨ 549755813888 < ttl
  · as_aux_lemma =>
    have HB := Lib.hid hbad
    clear hbad
    go_enter Try.func6, Try.ntmps6
    go_wp2_with fail
    refine (cnew_bad _ _ _ al kp mo ttl HB.out hz).mono ?_
    rintro e w1 ⟨rfl, h1⟩
    have q0 : w1.cell? ⟨W.heap.size, 0, none⟩ = some (.int .i64 al) := h1.cell 0
    have q1 : w1.cell? ⟨W.heap.size, 1, none⟩ = some (.int .i64 kp) := h1.cell 1
    have q2 : w1.cell? ⟨W.heap.size, 2, none⟩ = some (.int .i64 mo) := h1.cell 2
    have q3 : w1.cell? ⟨W.heap.size, 3, none⟩ = some (.int .i64 ttl) := h1.cell 3
    go_wp2_with fail
    refine (rdnew_bad _ _ _ al kp mo ttl HB.out h1.drop).mono ?_
    rintro e w2 ⟨c, rfl, h2⟩
    clear q0 q1 q2 q3 h1 hz
    go_wp2_with fail
    go_loopw [5, 9] (fun s i wr => s = .pointer none ∧ i = .int .i64 0 ∧ Sat (World.env W) wr (whole W)) (fun s i _ => 0)
    case atStart => exact ⟨rfl, rfl, h2⟩
    case round =>
      obtain ⟨rfl, rfl, hr⟩ := hrel
      go_wp2_with fail
      all_goals
        refine (known_any _ _ _ hr).mono ?_
        rintro e w6 ⟨rfl, h6⟩
        go_wp2_with fail
        go_ret
        exact ⟨rfl, h6.below⟩
  · unfold badNew at hbad
    have p1 : 1 ≤ al := by omega
    have p2 : al ≤ 1073741824 := by omega
    have p3 : 0 ≤ kp := by omega
    have p4 : kp ≤ al := by omega
    have p5 : 1 ≤ mo := by omega
    have p6 : mo ≤ al := by omega
    have p7 : 1 ≤ ttl := by omega
    have p8 : ttl ≤ 549755813888 := by omega
    clear hbad
    have HT0 : Two ⟨al, kp, mo, ttl, [], [], [], []⟩ [] [] 0 := ⟨⟨Good.nil _ _ _ _, by simp, by intro y _; simp [mget], by simp [keysS]⟩, ⟨p7, p8, p6, p3, p4⟩, by simp, by omega⟩
    go_enter Try.func6, Try.ntmps6
    go_wp2_with fail
    refine (cnew_any _ _ _ al kp mo ttl p1 p2 p3 p4 p5 p6 p7 p8 hz).mono ?_
    rintro e w1 ⟨b, rfl, h1⟩
    have q0 : w1.cell? ⟨W.heap.size, 0, none⟩ = some (.int .i64 al) := h1.swap.cell 0
    have q1 : w1.cell? ⟨W.heap.size, 1, none⟩ = some (.int .i64 kp) := h1.swap.cell 1
    have q2 : w1.cell? ⟨W.heap.size, 2, none⟩ = some (.int .i64 mo) := h1.swap.cell 2
    have q3 : w1.cell? ⟨W.heap.size, 3, none⟩ = some (.int .i64 ttl) := h1.swap.cell 3
    go_wp2_with fail
    refine (rdnew_any _ _ _ al kp mo ttl p1 p2 p3 p4 p5 p6 p7 p8 h1).mono ?_
    rintro e w2 ⟨r, rfl, h2⟩
    clear q0 q1 q2 q3 h1 hz p1 p2 p3 p4 p5 p6 p7 p8
    have h3 := h2.swap.drop3
    clear h2
    generalize hc0 : (⟨al, kp, mo, ttl, [], [], [], []⟩ : CS) = c0 at *
    have hd0 : (⟨al, kp, mo, ttl, [], [], [], []⟩ : DS) = docOf c0 [] := by rw [← hc0]; rfl
    rw [hd0] at h3
    clear hd0 hc0
    go_wp2_with fail
    go_loopw [5, 9] (fun s5 i wr => ∃ (b' j : Nat) (c : CS) (P : List PV) (p : Pu), j ≤ len ∧ j ≤ 50 ∧ i = .int .i64 j ∧ s5 = pq b' ∧ Two c P p j ∧ Sat (World.env W) wr (CacheR b' c j * (DocR r (docOf c P) * whole W))) (fun _ i _ => 50 - (intOf i).toNat)
    case atStart => exact ⟨b, 0, c0, [], [], Nat.zero_le _, Nat.zero_le _, rfl, rfl, HT0, h3⟩
    case round =>
      clear h3 HT0
      obtain ⟨b, j, c, P, p, hj, hj2, rfl, rfl, H2, hr⟩ := hrel
      by_cases hlt : j < len ∧ j < 50
      · obtain ⟨hlt, hlt2⟩ := hlt
        obtain ⟨g, o, cs, rfl, _, _, ⟨oo, rfl, hok, hvs, hwn⟩, hcs⟩ := rec_at z (by decide) j hlt
        obtain ⟨kd, y, vv, now⟩ := oo
        simp only at hok hvs hwn
        obtain ⟨hg, c0⟩ := whole_at hr.drop.drop (hcs 0 (by decide))
        obtain ⟨_, c1⟩ := whole_at hr.drop.drop (hcs 1 (by decide))
        obtain ⟨_, c2⟩ := whole_at hr.drop.drop (hcs 2 (by decide))
        obtain ⟨_, c3⟩ := whole_at hr.drop.drop (hcs 3 (by decide))
        obtain ⟨_, c4⟩ := whole_at hr.drop.drop (hcs 4 (by decide))
        obtain ⟨_, c5⟩ := whole_at hr.drop.drop (hcs 5 (by decide))
        obtain ⟨_, c6⟩ := whole_at hr.drop.drop (hcs 6 (by decide))
        simp only [Nat.add_zero] at c0
        clear hcs
        have SH := Lib.hid (fun w' R' => short_any (World.env W) w' R' y hok)
        unfold kyV at SH
        have h3 := hr.alloc (.cells #[.int .i64 kd, .string y.db, .string y.ro, .int .i64 y.fm, .string y.nm, .string vv, .int .i64 now] 43)
        go_upto_region 9 with fail
        generalize wr.alloc (.cells #[.int .i64 kd, .string y.db, .string y.ro, .int .i64 y.fm, .string y.nm, .string vv, .int .i64 now] 43) = w4 at *
        generalize wr.heap.size = og at *
        clear hr hg c0 c1 c2 c3 c4 c5 c6 hwn
        replace h3 := h3.put3
        have c1 : w4.cell? ⟨og, 1, none⟩ = some (.string y.db) := h3.get3.cell 1
        have c2 : w4.cell? ⟨og, 2, none⟩ = some (.string y.ro) := h3.get3.cell 2
        have c3 : w4.cell? ⟨og, 3, none⟩ = some (.int .i64 y.fm) := h3.get3.cell 3
        have c4 : w4.cell? ⟨og, 4, none⟩ = some (.string y.nm) := h3.get3.cell 4
        by_cases hsh : y.db.size + y.ro.size + y.nm.size ≤ 500
        · rw [decide_eq_true hsh] at SH
          have ht : shortK y := hsh
          have HSK := Lib.hid ht
          clear hsh
          by_cases hvl : vv.size ≤ 500
          · have hvl' : ¬ (500 : Int) < vv.size := by omega
            go_upto_region 10 with (go_at_call 8; (with_reducible refine (SH.out w4 _ h3).mono ?_); rintro e w5 ⟨rfl, h5⟩; have c5 : w5.cell? ⟨og, 5, none⟩ = some (.string vv) := h5.get3.cell 5)
            clear c1 c2 c3 c4 c5 h3 SH
            have c0 : w5.cell? ⟨og, 0, none⟩ = some (.int .i64 kd) := h5.get3.cell 0
            have c1 : w5.cell? ⟨og, 1, none⟩ = some (.string y.db) := h5.get3.cell 1
            have c2 : w5.cell? ⟨og, 2, none⟩ = some (.string y.ro) := h5.get3.cell 2
            have c3 : w5.cell? ⟨og, 3, none⟩ = some (.int .i64 y.fm) := h5.get3.cell 3
            have c4 : w5.cell? ⟨og, 4, none⟩ = some (.string y.nm) := h5.get3.cell 4
            have c5 : w5.cell? ⟨og, 5, none⟩ = some (.string vv) := h5.get3.cell 5
            have c6 : w5.cell? ⟨og, 6, none⟩ = some (.int .i64 now) := h5.get3.cell 6
            have HPL := Lib.hid (fun w' R' h => plain_any (World.env W) w' R' y h)
            unfold kyV at HPL
            have HH := Lib.hid H2
            have hvl2 := Lib.hid hvl
            clear H2 hvl
            --<<
            go_upto_block 2 with fail
            go_cut [5] (fun s5 wx => ∃ (b' : Nat) (c' : CS) (P' : List PV) (p' : Pu), s5 = pq b' ∧ Two c' P' p' (j + 1) ∧ Sat (World.env W) wx (CacheR b' c' (j + 1) * (DocR r (docOf c' P') * (blk og (.cells #[.int .i64 kd, .string y.db, .string y.ro, .int .i64 y.fm, .string y.nm, .string vv, .int .i64 now] 43 (0, 0)) * whole W))))
            case first =>
              by_cases k0 : kd = 0
              · subst k0
                as_aux_lemma =>
                  obtain ⟨er, ys, c', P', p', HT, hyl, hP, hD⟩ := put_both r HH.out now HSK.out hvl2.out (by omega) h5
                  unfold PutP kyV at hP
                  unfold PutD kyV at hD
                  have CP := Lib.hid hP
                  have CD := Lib.hid hD
                  have HT' := Lib.hid HT
                  clear hP hD HT
                  go_wp2_with fail
                  refine (CP.out _ _ h5).mono ?_
                  rintro e w6 ⟨v6, rfl, h6⟩
                  obtain ⟨va, vc, rfl⟩ := rec_val h6
                  clear c0 c1 c2 c3 c4 c5 c6
                  have c1 : w6.cell? ⟨og, 1, none⟩ = some (.string y.db) := h6.get4.cell 1
                  have c2 : w6.cell? ⟨og, 2, none⟩ = some (.string y.ro) := h6.get4.cell 2
                  have c3 : w6.cell? ⟨og, 3, none⟩ = some (.int .i64 y.fm) := h6.get4.cell 3
                  have c4 : w6.cell? ⟨og, 4, none⟩ = some (.string y.nm) := h6.get4.cell 4
                  have c5 : w6.cell? ⟨og, 5, none⟩ = some (.string vv) := h6.get4.cell 5
                  have c6 : w6.cell? ⟨og, 6, none⟩ = some (.int .i64 now) := h6.get4.cell 6
                  go_wp2_with fail
                  go_region_held3 (fun w' => w'.cell? ⟨og, 1, none⟩ = some (.string y.db) ∧ w'.cell? ⟨og, 2, none⟩ = some (.string y.ro) ∧ w'.cell? ⟨og, 3, none⟩ = some (.int .i64 y.fm) ∧ w'.cell? ⟨og, 4, none⟩ = some (.string y.nm) ∧ w'.cell? ⟨og, 5, none⟩ = some (.string vv) ∧ w'.cell? ⟨og, 6, none⟩ = some (.int .i64 now)) (first | exact ⟨c1, c2, c3, c4, c5, c6⟩ | exact ⟨(h7.get4.cell 1).trans rfl, (h7.get4.cell 2).trans rfl, (h7.get4.cell 3).trans rfl, (h7.get4.cell 4).trans rfl, (h7.get4.cell 5).trans rfl, (h7.get4.cell 6).trans rfl⟩ | exact ⟨(h8.get5.cell 1).trans rfl, (h8.get5.cell 2).trans rfl, (h8.get5.cell 3).trans rfl, (h8.get5.cell 4).trans rfl, (h8.get5.cell 5).trans rfl, (h8.get5.cell 6).trans rfl⟩ | fail) (first | (go_at_call 14; (with_reducible refine (HPL.out _ _ h6.drew).mono ?_); rintro e w7 ⟨rfl, h7⟩) | (go_at_call 22; (with_reducible refine (CD.out _ _ h7.get3).mono ?_); rintro e w8 ⟨v8, rfl, h8⟩; obtain ⟨vb, vd, rfl⟩ := rec_val h8) | fail)
                  go_wp2_with fail
                  refine (same_any _ _ _ _ _ _ _ ys (by omega) h8.get3).mono ?_
                  rintro e w9 ⟨rfl, h9⟩
                  go_wp2_with fail
                  go_meet
                  case rel => exact ⟨b, c', P', p', rfl, HT'.out, h9.drop.drop.swap⟩
              have b0 : (kd == 0) = false := by simpa using k0
              by_cases k1 : kd = 1
              · subst k1
                as_aux_lemma =>
                  obtain ⟨v, is, c', P', p', HT, hP, hD⟩ := get_both r HH.out now HSK.out h5
                  unfold GetP kyV at hP
                  unfold GetD kyV at hD
                  have CP := Lib.hid hP
                  have CD := Lib.hid hD
                  have HT' := Lib.hid HT
                  clear hP hD HT
                  go_wp2_with fail
                  refine (CP.out _ _ h5).mono ?_
                  rintro e w6 ⟨rfl, h6⟩
                  clear c0 c1 c2 c3 c4 c5 c6
                  have c1 : w6.cell? ⟨og, 1, none⟩ = some (.string y.db) := h6.get3.cell 1
                  have c2 : w6.cell? ⟨og, 2, none⟩ = some (.string y.ro) := h6.get3.cell 2
                  have c3 : w6.cell? ⟨og, 3, none⟩ = some (.int .i64 y.fm) := h6.get3.cell 3
                  have c4 : w6.cell? ⟨og, 4, none⟩ = some (.string y.nm) := h6.get3.cell 4
                  have c6 : w6.cell? ⟨og, 6, none⟩ = some (.int .i64 now) := h6.get3.cell 6
                  go_wp2_with fail
                  go_region_held3 (fun w' => w'.cell? ⟨og, 1, none⟩ = some (.string y.db) ∧ w'.cell? ⟨og, 2, none⟩ = some (.string y.ro) ∧ w'.cell? ⟨og, 3, none⟩ = some (.int .i64 y.fm) ∧ w'.cell? ⟨og, 4, none⟩ = some (.string y.nm) ∧ w'.cell? ⟨og, 6, none⟩ = some (.int .i64 now)) (first | exact ⟨c1, c2, c3, c4, c6⟩ | exact ⟨(h7.get3.cell 1).trans rfl, (h7.get3.cell 2).trans rfl, (h7.get3.cell 3).trans rfl, (h7.get3.cell 4).trans rfl, (h7.get3.cell 6).trans rfl⟩ | exact ⟨(h8.get3.cell 1).trans rfl, (h8.get3.cell 2).trans rfl, (h8.get3.cell 3).trans rfl, (h8.get3.cell 4).trans rfl, (h8.get3.cell 6).trans rfl⟩ | fail) (first | (go_at_call 14; (with_reducible refine (HPL.out _ _ h6.drew).mono ?_); rintro e w7 ⟨rfl, h7⟩) | (go_at_call 24; (with_reducible refine (CD.out _ _ h7.swap).mono ?_); rintro e w8 ⟨rfl, h8⟩) | fail)
                  go_wp2_with fail
                  go_meet
                  case rel => exact ⟨b, c', P', p', rfl, HT'.out.more (by omega), ca_more h8.swap⟩
              have b1 : (kd == 1) = false := by simpa using k1
              by_cases k2 : kd = 2
              · subst k2
                as_aux_lemma =>
                  obtain ⟨is, c', P', p', HT, hP, hD⟩ := drop_both r HH.out HSK.out h5
                  unfold DropP kyV at hP
                  unfold DropD kyV at hD
                  have CP := Lib.hid hP
                  have CD := Lib.hid hD
                  have HT' := Lib.hid HT
                  clear hP hD HT
                  go_wp2_with fail
                  go_region_held3 (fun w' => w'.cell? ⟨og, 1, none⟩ = some (.string y.db) ∧ w'.cell? ⟨og, 2, none⟩ = some (.string y.ro) ∧ w'.cell? ⟨og, 3, none⟩ = some (.int .i64 y.fm) ∧ w'.cell? ⟨og, 4, none⟩ = some (.string y.nm)) (first | exact ⟨c1, c2, c3, c4⟩ | exact ⟨(h6.get3.cell 1).trans rfl, (h6.get3.cell 2).trans rfl, (h6.get3.cell 3).trans rfl, (h6.get3.cell 4).trans rfl⟩ | exact ⟨(h7.get3.cell 1).trans rfl, (h7.get3.cell 2).trans rfl, (h7.get3.cell 3).trans rfl, (h7.get3.cell 4).trans rfl⟩ | exact ⟨(h8.get3.cell 1).trans rfl, (h8.get3.cell 2).trans rfl, (h8.get3.cell 3).trans rfl, (h8.get3.cell 4).trans rfl⟩ | fail) (first | (go_at_call 25; (with_reducible refine (CP.out _ _ h5.drew).mono ?_); rintro e w6 ⟨rfl, h6⟩) | (go_at_call 14; (with_reducible refine (HPL.out _ _ h6).mono ?_); rintro e w7 ⟨rfl, h7⟩) | (go_at_call 26; (with_reducible refine (CD.out _ _ h7.swap).mono ?_); rintro e w8 ⟨rfl, h8⟩) | fail)
                  go_wp2_with fail
                  go_meet
                  case rel => exact ⟨b, c', P', p', rfl, HT'.out.more (by omega), ca_more h8.swap⟩
              have b2 : (kd == 2) = false := by simpa using k2
              by_cases k3 : kd = 3
              · subst k3
                as_aux_lemma =>
                  obtain ⟨ys, c', P', p', HT, hyl, hP, hD⟩ := tick_both r HH.out now h5
                  unfold TickP at hP
                  unfold TickD at hD
                  have CP := Lib.hid hP
                  have CD := Lib.hid hD
                  have HT' := Lib.hid HT
                  clear hP hD HT
                  go_wp2_with fail
                  go_region_held3 (fun w' => w'.cell? ⟨og, 6, none⟩ = some (.int .i64 now)) (first | exact c6 | exact (h6.get4.cell 6).trans rfl | exact (h8.get5.cell 6).trans rfl | exact (h9.get5.cell 6).trans rfl | fail) (first | (go_at_call 27; (with_reducible refine (CP.out _ _ h5.drew).mono ?_); rintro e w6 ⟨v6, rfl, h6⟩; obtain ⟨va, vc, rfl⟩ := rec_val h6) | (go_at_call 28; (with_reducible refine (CD.out _ _ h6.get3).mono ?_); rintro e w8 ⟨v8, rfl, h8⟩; obtain ⟨vb, vd, rfl⟩ := rec_val h8) | (go_at_call 23; (with_reducible refine (same_any _ _ _ _ _ _ _ ys (by omega) h8.get3).mono ?_); rintro e w9 ⟨rfl, h9⟩) | fail)
                  go_wp2_with fail
                  go_meet
                  case rel => exact ⟨b, c', P', p', rfl, HT'.out.more (by omega), ca_more h9.drop.drop.swap⟩
              have b3 : (kd == 3) = false := by simpa using k3
              by_cases k4 : kd = 4
              · subst k4
                as_aux_lemma =>
                  obtain ⟨z, c', P', p', HT, hP, hD⟩ := flush_both r HH.out h5
                  unfold FlushP at hP
                  unfold FlushD at hD
                  have CP := Lib.hid hP
                  have CD := Lib.hid hD
                  have HT' := Lib.hid HT
                  clear hP hD HT
                  go_wp2_with fail
                  refine (CP.out _ _ h5).mono ?_
                  rintro e w6 ⟨rfl, h6⟩
                  go_wp2_with fail
                  refine (CD.out _ _ h6.swap).mono ?_
                  rintro e w8 ⟨rfl, h8⟩
                  go_wp2_with fail
                  go_meet
                  case rel => exact ⟨b, c', P', p', rfl, HT'.out.more (by omega), ca_more h8.swap⟩
              have b4 : (kd == 4) = false := by simpa using k4
              as_aux_lemma =>
                go_wp2_with fail
                refine (ccopy_any _ _ _ b j c (by omega) h5).mono ?_
                rintro e w6 ⟨d, V', rfl, hpm, h6⟩
                obtain ⟨er, ys, c', P', p', HT, hyl, hP, -⟩ := put_both (v := ⟨#[115, 112, 111, 105, 108, 116]⟩) r HH.out 0 HSK.out (by decide) (by omega) h6.swap
                unfold PutP kyV at hP
                have CP := Lib.hid hP
                have HT' := Lib.hid HT
                clear hP HT
                have HD : Hid (Two { c with V := V' } P p (j + 1)) := (show Two { c with V := V' } P p j from ⟨HH.out.t.copy hpm, HH.out.b.of rfl rfl rfl rfl, HH.out.l, HH.out.n⟩).more (by omega)
                clear c0 c1 c2 c3 c4 c5 c6
                have c1 : w6.cell? ⟨og, 1, none⟩ = some (.string y.db) := h6.get4.cell 1
                have c2 : w6.cell? ⟨og, 2, none⟩ = some (.string y.ro) := h6.get4.cell 2
                have c3 : w6.cell? ⟨og, 3, none⟩ = some (.int .i64 y.fm) := h6.get4.cell 3
                have c4 : w6.cell? ⟨og, 4, none⟩ = some (.string y.nm) := h6.get4.cell 4
                go_wp2_with fail
                refine (CP.out _ _ h6.swap).mono ?_
                rintro e w7 ⟨v7, rfl, h7⟩
                replace h7 := h7.drop
                obtain ⟨zz, c2, P2, p2, -, hP, -⟩ := flush_both r HT'.out h7
                unfold FlushP at hP
                have CF := Lib.hid hP
                clear hP
                go_wp2_with fail
                refine (CF.out _ _ h7).mono ?_
                rintro e w8 ⟨rfl, h8⟩
                go_wp2_with fail
                go_meet
                case rel => exact ⟨d, { c with V := V' }, P, p, rfl, HD.out, ca_more h8.drop⟩
            case rest => as_aux_lemma =>
              clear c0 c1 c2 c3 c4 c5 c6 h5 HH
              obtain ⟨b, c, P, p, rfl, H2, h6⟩ := hcut
              have HH := Lib.hid H2
              obtain ⟨ks, hkl, hKP, hKD⟩ := keys_both (k := World.env W) (b := b) r H2
              obtain ⟨z, hBP, hBD⟩ := bytes_both r P h6
              unfold KeysP at hKP
              unfold KeysD at hKD
              unfold BytesP at hBP
              unfold BytesD at hBD
              have C1 := Lib.hid hKP
              have C2 := Lib.hid hKD
              have C3 := Lib.hid hBP
              have C4 := Lib.hid hBD
              clear hKP hKD hBP hBD
              go_wp2_with fail
              refine (C1.out _ _ h6).mono ?_
              rintro e w7 ⟨v7, rfl, h7⟩
              obtain ⟨va, vc, rfl⟩ := rec_val h7
              go_wp2_with fail
              refine (C2.out _ _ h7.get3).mono ?_
              rintro e w8 ⟨v8, rfl, h8⟩
              obtain ⟨vb, vd, rfl⟩ := rec_val h8
              go_wp2_with fail
              refine (same_any _ _ _ _ _ _ _ ks (by omega) h8.get3).mono ?_
              rintro e w9 ⟨rfl, h9⟩
              go_wp2_with fail
              refine (C3.out _ _ h9.get4).mono ?_
              rintro e w10 ⟨rfl, h10⟩
              go_wp2_with fail
              refine (C4.out _ _ h10.get4).mono ?_
              rintro e w11 ⟨rfl, h11⟩
              go_wp2_with fail
              go_roundw
              case rel => exact ⟨b, j + 1, c, P, p, by omega, by omega, by go_num, rfl, HH.out, (h11.of_eq (by ac_rfl) : Sat (World.env W) _ (Kys (.slice va ks.length vc) ks * (KysR (.slice vb ks.length vd) ks * (blk og (.cells #[.int .i64 kd, .string y.db, .string y.ro, .int .i64 y.fm, .string y.nm, .string vv, .int .i64 now] 43 (0, 0)) * (CacheR b c (j + 1) * (DocR r (docOf c P) * whole W)))))).drop.drop.drop⟩
              case measure => simp [intOf]; omega
            -->>
          · have hvl' : (500 : Int) < vv.size := by omega
            go_wp2_with (go_at_call 8; (with_reducible refine (SH.out w4 _ h3).mono ?_); rintro e w5 ⟨rfl, h5⟩; have c5 : w5.cell? ⟨og, 5, none⟩ = some (.string vv) := h5.get3.cell 5)
            go_roundw
            case rel => exact ⟨b, j + 1, c, P, p, by omega, by omega, by go_num, rfl, H2.more (by omega), ca_more h5.drop3⟩
            case measure => simp [intOf]; omega
        · rw [decide_eq_false hsh] at SH
          go_wp2_with (go_at_call 8; (with_reducible refine (SH.out w4 _ h3).mono ?_); rintro e w5 ⟨rfl, h5⟩; have c5 : w5.cell? ⟨og, 5, none⟩ = some (.string vv) := h5.get3.cell 5)
          go_roundw
          case rel => exact ⟨b, j + 1, c, P, p, by omega, by omega, by go_num, rfl, H2.more (by omega), ca_more h5.drop3⟩
          case measure => simp [intOf]; omega
      · have hlt' : ¬ (j : Int) < len ∨ ((j : Int) < len ∧ ¬ (j : Int) < 50) := by omega
        clear hlt
        rcases hlt' with hq | ⟨hq, hq2⟩
        all_goals
          go_wp2_with fail
          refine (known_any _ _ _ hr.drop.drop).mono ?_
          rintro e w2 ⟨rfl, h2⟩
          go_wp2_with fail
          go_ret
          exact ⟨rfl, h2.below⟩

end Go.Proofs.Ytlilogcojeoelaa
