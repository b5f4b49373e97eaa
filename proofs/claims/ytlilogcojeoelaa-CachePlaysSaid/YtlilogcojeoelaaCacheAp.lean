/- The law CacheApart, walked. -/
import Derived.Test.YtlilogcojeoelaaCacheO
namespace Go.Proofs.Ytlilogcojeoelaa
set_option linter.all false
open Go Go.RowKit

abbrev cA : CS := ⟨4000, 2000, 2000, 9, [], [], [], []⟩
def cB (y : Ky) (v : ByteArray) : CS := ⟨4000, 2000, 2000, 9, [(textK y, sizeK y v)], [], [(textK y, 10)], [(y, v)]⟩

theorem cB_eq (y : Ky) (v : ByteArray) (hs : sizeK y v ≤ 2000) : cdrops [] (cputS cA y v 1) = cB y v ∧ cgone cA y v = [] := by
  have h : roomR 4000 (textK y) (sizeK y v) [] [] = ([], [], []) := rfl
  have h2 : qset (textK y) (1 + 9) [] = [(textK y, 10)] := rfl
  unfold cgone
  simp only [cdrops, List.foldl_nil, cputS, h, h2, cB, mput]
  exact ⟨trivial, trivial⟩

def cC (y : Ky) (v : ByteArray) : CS := ⟨4000, 2000, 2000, 9, [], [(textK y, sizeK y v)], [(textK y, 10)], [(y, v)]⟩
theorem cC_eq (y : Ky) (v : ByteArray) (hs : sizeK y v ≤ 2000) : ctouch (cB y v) y (sizeK y v) = cC y v := by
  have h : touchR 2000 (textK y) (sizeK y v) [(textK y, sizeK y v)] [] = ([], [(textK y, sizeK y v)], []) := by
    have e1 : dropV (textK y) [(textK y, sizeK y v)] = [] := by simp [dropV]
    have e2 : dropV (textK y) ([] : List KV) = [] := rfl
    unfold touchR touchP
    rw [if_neg (by omega)]
    simp only [e1, e2]
    exact backV_stop _ (by simp only [sumV]; omega)
  simp only [ctouch, cB, h, cC]
theorem kyeq_run (a b : Ky) (w : World) : (binOp .eql 23 (kyV a) (kyV b)).run Try.prog w = .ok (.bool (decide (a = b))) w := by
  have h := kyV_eq a b w
  unfold Op.equal at h
  unfold kyV at *
  rw [run_eql_struct]
  rw [show (10000 : Nat) = Op.maxDepth from rfl, h]
  rfl

set_option maxRecDepth 100000 in
set_option maxHeartbeats 2000000 in
theorem walkCacheApart (W : World) (x : Ky) (hx : okKy x) (y : Ky) (hy : okKy y) (v : ByteArray) (hv : v.size ≤ 140737488351232) :
    Calls Try.prog 5 #[kyV x, kyV y, .string v] W fun e w' => e = .returned (.bool true) ∧ Below W.heap.size W w' := by
  have hz := ((Sat.whole W).alloc (.cells (kyc x).toArray 23)).alloc (.cells (kyc y).toArray 23)
  have SX := Lib.hid (fun w' R' => short_any (World.env W) w' R' x hx)
  have SY := Lib.hid (fun w' R' => short_any (World.env W) w' R' y hy)
  simp only [World.size_alloc, kyc] at hz
  unfold kyV at *
  go_enter Try.func5, Try.ntmps5
  go_upto_region 1 with fail
  generalize ((W.alloc (.cells #[.string x.db, .string x.ro, .int .i64 x.fm, .string x.nm] 23)).alloc (.cells #[.string y.db, .string y.ro, .int .i64 y.fm, .string y.nm] 23)) = w0 at *
  generalize W.heap.size + 1 = oy at *
  generalize W.heap.size = ox at *
  generalize hR : (blk oy (.cells #[.string y.db, .string y.ro, .int .i64 y.fm, .string y.nm] 23 (0, 0)) * (blk ox (.cells #[.string x.db, .string x.ro, .int .i64 x.fm, .string x.nm] 23 (0, 0)) * whole W)) = Pz at *
  have HD : Hid (∀ {w' : World} {Q : Assn}, Sat (World.env W) w' (Q * Pz) → w'.cell? ⟨ox, 0, none⟩ = some (.string x.db) ∧ w'.cell? ⟨ox, 1, none⟩ = some (.string x.ro) ∧ w'.cell? ⟨ox, 2, none⟩ = some (.int .i64 x.fm) ∧ w'.cell? ⟨ox, 3, none⟩ = some (.string x.nm) ∧
      w'.cell? ⟨oy, 0, none⟩ = some (.string y.db) ∧ w'.cell? ⟨oy, 1, none⟩ = some (.string y.ro) ∧ w'.cell? ⟨oy, 2, none⟩ = some (.int .i64 y.fm) ∧ w'.cell? ⟨oy, 3, none⟩ = some (.string y.nm)) := by
    unfold Hid
    intro w' Q h'
    rw [← hR] at h'
    exact ⟨h'.get3.cell 0, h'.get3.cell 1, h'.get3.cell 2, h'.get3.cell 3, h'.swap.cell 0, h'.swap.cell 1, h'.swap.cell 2, h'.swap.cell 3⟩
  have HB : Hid (∀ {w' : World}, Sat (World.env W) w' Pz → Sat (World.env W) w' (whole W)) := by
    unfold Hid
    intro w' h'
    rw [← hR] at h'
    exact h'.drop.drop
  clear hR
  go_wp2_with fail
  refine (cnew_any _ w0 Pz 4000 2000 2000 9 (by omega) (by omega) (by omega) (by omega) (by omega) (by omega) (by omega) (by omega) hz).mono ?_
  rintro e w1 ⟨b, rfl, h1⟩
  obtain ⟨d0, d1, d2, d3, e0, e1, e2, e3⟩ := HD.out h1
  by_cases sx : x.db.size + x.ro.size + x.nm.size ≤ 500
  · have sx' := decide_eq_true sx
    rw [sx'] at SX
    by_cases sy : y.db.size + y.ro.size + y.nm.size ≤ 500
    · have sy' := decide_eq_true sy
      rw [sy'] at SY
      by_cases sv : v.size ≤ 500
      · have sv' : ¬ (500 : Int) < v.size := by omega
        have tx : tiny x := by unfold tiny; omega
        have ty : tiny y := by unfold tiny; omega
        have hvv : (v.toList == v.toList) = true := by simp
        have GN := Lib.hid (fun w' n c z => cget_none (World.env W) w' Pz b n c z 2)
        have TX := Lib.hid (fun w' R' => text_any (World.env W) w' R' x tx)
        unfold kyV at GN TX
        cases rx : rightK x with
        | false =>
          have PA := Lib.hid (fun w' R' => cput_arg (World.env W) w' R' b 0 cA x v 1 tx (.inl rx))
          have ht : textK x = ⟨#[]⟩ := by unfold textK; rw [rx]; rfl
          rw [ht] at TX
          unfold kyV at PA
          go_wp2_with (first | (go_at_call 8; (with_reducible refine (SX.out w1 _ h1).mono ?_); rintro e w2 ⟨rfl, h2⟩; clear d0 d1 d2 d3 e0 e1 e2 e3; obtain ⟨d0, d1, d2, d3, e0, e1, e2, e3⟩ := HD.out h2) | (go_at_call 8; (with_reducible refine (SY.out w2 _ h2).mono ?_); rintro e w3 ⟨rfl, h3⟩; clear d0 d1 d2 d3 e0 e1 e2 e3; obtain ⟨d0, d1, d2, d3, e0, e1, e2, e3⟩ := HD.out h3))
          with_reducible refine (PA.out w3 _ h3).mono ?_
          rintro e w4 ⟨rfl, h4⟩
          clear d0 d1 d2 d3 e0 e1 e2 e3
          obtain ⟨d0, d1, d2, d3, e0, e1, e2, e3⟩ := HD.out h4
          go_wp2_with fail
          with_reducible refine (GN.out w4 _ _ x rfl h4).mono ?_
          rintro e w5 ⟨rfl, h5⟩
          clear d0 d1 d2 d3 e0 e1 e2 e3
          obtain ⟨d0, d1, d2, d3, e0, e1, e2, e3⟩ := HD.out h5
          go_wp2_with fail
          with_reducible refine (GN.out w5 _ _ y rfl h5).mono ?_
          rintro e w6 ⟨rfl, h6⟩
          clear d0 d1 d2 d3 e0 e1 e2 e3
          obtain ⟨d0, d1, d2, d3, e0, e1, e2, e3⟩ := HD.out h6
          go_wp2_with fail
          with_reducible refine (TX.out w6 _ h6).mono ?_
          rintro e w7 ⟨rfl, h7⟩
          go_wp2_with fail
          refine (known_any _ _ _ h7.drop).mono ?_
          rintro e w8 ⟨rfl, h8⟩
          go_wp2_with fail
          go_ret
          exact ⟨rfl, (HB.out h8).below⟩
        | true =>
          have hsz : sizeK x v ≤ 2000 := by
            unfold sizeK textK
            rw [if_pos rx, if_pos rx]
            have z1 : zb.size = 1 := rfl
            have z2 : (bin2 x.fm).size = 2 := rfl
            simp only [ByteArray.size_append]
            omega
          obtain ⟨q1, q2⟩ := cB_eq x v hsz
          have PO := Lib.hid (fun w' R' => cput_ok (World.env W) w' R' b 0 cA x v 1 [] rx tx (by omega) (by omega) (by omega) hsz (by decide) (by decide) (by omega) q2 (by simp) (by simp))
          rw [q1] at PO
          have G1 := Lib.hid (fun w' R' => cget_some (World.env W) w' R' b 1 (cB x v) x 2 10 (sizeK x v) v rx tx (by simp [cB, mget]) (by simp [cB, mget]) (by omega) (by simp [cB, mget]))
          have q3 : ctouch (cB x v) x (sizeK x v) = cC x v := cC_eq x v hsz
          rw [q3] at G1
          have hab := fun w => kyeq_run x y w
          unfold kyV at PO G1 hab
          go_wp2_with (first | (go_at_call 8; (with_reducible refine (SX.out w1 _ h1).mono ?_); rintro e w2 ⟨rfl, h2⟩; clear d0 d1 d2 d3 e0 e1 e2 e3; obtain ⟨d0, d1, d2, d3, e0, e1, e2, e3⟩ := HD.out h2) | (go_at_call 8; (with_reducible refine (SY.out w2 _ h2).mono ?_); rintro e w3 ⟨rfl, h3⟩; clear d0 d1 d2 d3 e0 e1 e2 e3; obtain ⟨d0, d1, d2, d3, e0, e1, e2, e3⟩ := HD.out h3))
          with_reducible refine (PO.out w3 _ h3).mono ?_
          rintro e w4 ⟨v4, rfl, h4⟩
          obtain ⟨va, vc, rfl⟩ := rec_val h4
          replace h4 := h4.drop
          clear d0 d1 d2 d3 e0 e1 e2 e3
          obtain ⟨d0, d1, d2, d3, e0, e1, e2, e3⟩ := HD.out h4
          go_wp2_with fail
          with_reducible refine (G1.out w4 _ h4).mono ?_
          rintro e w5 ⟨rfl, h5⟩
          clear d0 d1 d2 d3 e0 e1 e2 e3
          obtain ⟨d0, d1, d2, d3, e0, e1, e2, e3⟩ := HD.out h5
          by_cases hxy : y = x
          · subst hxy
            have GX := Lib.hid (fun w' R' => cget_some (World.env W) w' R' b 1 (cC y v) y 2 10 (sizeK y v) v rx ty (by simp [cC, mget]) (by simp [cC, mget]) (by omega) (by simp [cC, mget]))
            unfold kyV at GX
            have hdx : decide (y = y) = true := decide_eq_true rfl
            rw [hdx] at hab
            go_wp2_with fail
            with_reducible refine (GX.out w5 _ h5).mono ?_
            rintro e w6 ⟨rfl, h6⟩
            clear d0 d1 d2 d3 e0 e1 e2 e3
            obtain ⟨d0, d1, d2, d3, e0, e1, e2, e3⟩ := HD.out h6
            go_wp2_with fail
            refine (known_any _ _ _ h6.drop).mono ?_
            rintro e w8 ⟨rfl, h8⟩
            go_wp2_with fail
            go_ret
            exact ⟨rfl, (HB.out h8).below⟩
          · have hdx : decide (x = y) = false := decide_eq_false (fun q => hxy q.symm)
            rw [hdx] at hab
            have HXY := Lib.hid hxy
            have hgn : mget y (cC x v).V = none := by
              simp only [cC, mget]
              rw [if_neg (fun q => hxy q.symm)]
            clear hxy
            go_wp2_with fail
            with_reducible refine (GN.out w5 _ _ y hgn h5).mono ?_
            rintro e w6 ⟨rfl, h6⟩
            clear d0 d1 d2 d3 e0 e1 e2 e3
            obtain ⟨d0, d1, d2, d3, e0, e1, e2, e3⟩ := HD.out h6
            go_wp2_with fail
            refine (known_any _ _ _ h6.drop).mono ?_
            rintro e w8 ⟨rfl, h8⟩
            go_wp2_with fail
            go_ret
            exact ⟨rfl, (HB.out h8).below⟩
      · have sv' : (500 : Int) < v.size := by omega
        go_wp2_with (first | (go_at_call 8; (with_reducible refine (SX.out w1 _ h1).mono ?_); rintro e w2 ⟨rfl, h2⟩; clear d0 d1 d2 d3 e0 e1 e2 e3; obtain ⟨d0, d1, d2, d3, e0, e1, e2, e3⟩ := HD.out h2) | (go_at_call 8; (with_reducible refine (SY.out w2 _ h2).mono ?_); rintro e w3 ⟨rfl, h3⟩) | (go_at_call 9; (with_reducible refine (known_any _ w3 _ h3).mono ?_); rintro e w4 ⟨rfl, h4⟩))
        go_ret
        exact ⟨rfl, (HB.out h4.drop).below⟩
    · have sy' := decide_eq_false sy
      rw [sy'] at SY
      go_wp2_with (first | (go_at_call 8; (with_reducible refine (SX.out w1 _ h1).mono ?_); rintro e w2 ⟨rfl, h2⟩; clear d0 d1 d2 d3 e0 e1 e2 e3; obtain ⟨d0, d1, d2, d3, e0, e1, e2, e3⟩ := HD.out h2) | (go_at_call 8; (with_reducible refine (SY.out w2 _ h2).mono ?_); rintro e w3 ⟨rfl, h3⟩) | (go_at_call 9; (with_reducible refine (known_any _ w3 _ h3).mono ?_); rintro e w4 ⟨rfl, h4⟩))
      go_ret
      exact ⟨rfl, (HB.out h4.drop).below⟩
  · have sx' := decide_eq_false sx
    rw [sx'] at SX
    go_wp2_with (first | (go_at_call 8; (with_reducible refine (SX.out w1 _ h1).mono ?_); rintro e w2 ⟨rfl, h2⟩) | (go_at_call 9; (with_reducible refine (known_any _ w2 _ h2).mono ?_); rintro e w4 ⟨rfl, h4⟩))
    go_ret
    exact ⟨rfl, (HB.out h4.drop).below⟩

end Go.Proofs.Ytlilogcojeoelaa
