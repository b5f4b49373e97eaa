/- The law CacheKeys, walked. -/
import Derived.Test.YtlilogcojeoelaaCacheK0
import Derived.Test.YtlilogcojeoelaaCacheO
import Derived.Test.YtlilogcojeoelaaCacheX
import Derived.OpenShut
namespace Go.Proofs.Ytlilogcojeoelaa
set_option linter.all false
open Go Go.RowKit

set_option maxRecDepth 100000 in
set_option maxHeartbeats 16000000 in
theorem walkCacheKeys (W : World) (x : Ky) (hx : okKy x) (s : ByteArray) (hs : s.size ≤ 140737488351232) (v : ByteArray) (hv : v.size ≤ 140737488351232) :
    Calls Try.prog 3 #[kyV x, .string s, .string v] W fun e w' => e = .returned (.bool true) ∧ Below W.heap.size W w' := by
  have hz := (Sat.whole W).alloc (.cells (kyc x).toArray 23)
  have SX := Lib.hid (fun w' R' => short_any (World.env W) w' R' x hx)
  simp only [kyc] at hz
  by_cases hbad : 500 < x.db.size + x.ro.size + x.nm.size ∨ 500 < s.size ∨ 500 < v.size
  · have hb3 : ¬ x.db.size + x.ro.size + x.nm.size ≤ 500 ∨ (x.db.size + x.ro.size + x.nm.size ≤ 500 ∧ (500 : Int) < s.size) ∨ (x.db.size + x.ro.size + x.nm.size ≤ 500 ∧ ¬ (500 : Int) < s.size ∧ (500 : Int) < v.size) := by omega
    clear hbad
    rcases hb3 with q1 | ⟨q1, q2⟩ | ⟨q1, q2, q3⟩
    all_goals
      first | rw [decide_eq_true q1] at SX | rw [decide_eq_false q1] at SX
      unfold kyV at *
      go_enter Try.func3, Try.ntmps3
      go_upto_region 1 with fail
      generalize W.alloc (.cells #[.string x.db, .string x.ro, .int .i64 x.fm, .string x.nm] 23) = w1 at *
      generalize W.heap.size = ox at *
      have d0 : w1.cell? ⟨ox, 0, none⟩ = some (.string x.db) := hz.cell 0
      have d1 : w1.cell? ⟨ox, 1, none⟩ = some (.string x.ro) := hz.cell 1
      have d2 : w1.cell? ⟨ox, 2, none⟩ = some (.int .i64 x.fm) := hz.cell 2
      have d3 : w1.cell? ⟨ox, 3, none⟩ = some (.string x.nm) := hz.cell 3
      go_wp2_with (go_at_call 8; (with_reducible refine (SX.out w1 _ hz).mono ?_); rintro e w2 ⟨rfl, h2⟩)
      refine (known_any _ _ _ h2.drop).mono ?_
      rintro e w3 ⟨rfl, h3⟩
      go_wp2_with fail
      go_ret
      exact ⟨rfl, h3.below⟩
  · have q1 : x.db.size + x.ro.size + x.nm.size ≤ 500 := by omega
    have q2 : s.size ≤ 500 := by omega
    have q3 : v.size ≤ 500 := by omega
    have q2' : ¬ (500 : Int) < s.size := by omega
    have q3' : ¬ (500 : Int) < v.size := by omega
    clear hbad hs hv
    rw [decide_eq_true q1] at SX
    have tx : tiny x := by unfold tiny; omega
    have hts := textK_short q1
    have CP := Lib.hid (fun w' R' => parse_any (World.env W) w' R' s (by omega))
    have CR := Lib.hid (fun w' R' => rparse_any (World.env W) w' R' s (by omega))
    have CT := Lib.hid (fun w' R' => text_any (World.env W) w' R' x tx)
    have RT := Lib.hid (fun w' R' => rtext_any (World.env W) w' R' x tx)
    have CL := Lib.hid (fun w' R' => plain_any (World.env W) w' R' x)
    have CS := Lib.hid (fun w' R' => size_any (World.env W) w' R' x v tx (by omega))
    have RS := Lib.hid (fun w' R' => rsize_any (World.env W) w' R' x v tx (by omega))
    have CB := Lib.hid (fun w' R' => parse_any (World.env W) w' R' (textK x) (by omega))
    have CLA := Lib.hid (fun w' R' => plain_any (World.env W) w' R' (resP s))
    have CTA := Lib.hid (fun w' R' => text_any (World.env W) w' R' (resP s) (resP_tiny (by omega)))
    have hne := fun w => rkyneq_run (resP s) w
    have heq := fun w => kyeq_self x w
    have HA := Lib.hid (resP_text (s := s))
    have HB := Lib.hid (back_facts x)
    generalize sizeK x v = sz at *
    generalize textK x = tt at *
    generalize isP tt = ok at *
    generalize resP tt = c at *
    generalize isP s = ip at *
    generalize resP s = a at *
    unfold kyV at *
    go_enter Try.func3, Try.ntmps3
    go_upto_region 1 with fail
    generalize W.alloc (.cells #[.string x.db, .string x.ro, .int .i64 x.fm, .string x.nm] 23) = w1 at *
    generalize W.heap.size = ox at *
    have d0 : w1.cell? ⟨ox, 0, none⟩ = some (.string x.db) := hz.cell 0
    have d1 : w1.cell? ⟨ox, 1, none⟩ = some (.string x.ro) := hz.cell 1
    have d2 : w1.cell? ⟨ox, 2, none⟩ = some (.int .i64 x.fm) := hz.cell 2
    have d3 : w1.cell? ⟨ox, 3, none⟩ = some (.string x.nm) := hz.cell 3
    go_upto_region 3 with (go_at_call 8; (with_reducible refine (SX.out w1 _ hz).mono ?_); rintro e w2 ⟨rfl, h2⟩)
    clear d0 d1 d2 d3 hz
    go_upto_region 4 with (go_at_call 10; (with_reducible refine (CP.out w2 _ h2).mono ?_); rintro e w3 ⟨rfl, h3⟩)
    have h4 := h3.alloc (.cells #[.string a.db, .string a.ro, .int .i64 a.fm, .string a.nm] 23)
    generalize w3.alloc (.cells #[.string a.db, .string a.ro, .int .i64 a.fm, .string a.nm] 23) = w4 at *
    generalize w3.heap.size = oa at *
    go_upto_region 5 with (go_at_call 11; (with_reducible refine (CR.out w4 _ h4).mono ?_); rintro e w5 ⟨rfl, h5⟩)
    have h6 := h5.alloc (.cells #[.string a.db, .string a.ro, .int .i64 a.fm, .string a.nm] 28)
    generalize w5.alloc (.cells #[.string a.db, .string a.ro, .int .i64 a.fm, .string a.nm] 28) = w6 at *
    generalize w5.heap.size = ob at *
    clear h2 h3 h4 h5 CP CR SX
    generalize hP : (blk ob (.cells #[.string a.db, .string a.ro, .int .i64 a.fm, .string a.nm] 28 (0, 0)) * (blk oa (.cells #[.string a.db, .string a.ro, .int .i64 a.fm, .string a.nm] 23 (0, 0)) * (blk ox (.cells #[.string x.db, .string x.ro, .int .i64 x.fm, .string x.nm] 23 (0, 0)) * whole W))) = Pz at *
    have HD : Hid (∀ {w' : World}, Sat (World.env W) w' Pz → w'.cell? ⟨ox, 0, none⟩ = some (.string x.db) ∧ w'.cell? ⟨ox, 1, none⟩ = some (.string x.ro) ∧ w'.cell? ⟨ox, 2, none⟩ = some (.int .i64 x.fm) ∧ w'.cell? ⟨ox, 3, none⟩ = some (.string x.nm) ∧
        w'.cell? ⟨oa, 0, none⟩ = some (.string a.db) ∧ w'.cell? ⟨oa, 1, none⟩ = some (.string a.ro) ∧ w'.cell? ⟨oa, 2, none⟩ = some (.int .i64 a.fm) ∧ w'.cell? ⟨oa, 3, none⟩ = some (.string a.nm) ∧
        w'.cell? ⟨ob, 0, none⟩ = some (.string a.db) ∧ w'.cell? ⟨ob, 1, none⟩ = some (.string a.ro) ∧ w'.cell? ⟨ob, 2, none⟩ = some (.int .i64 a.fm) ∧ w'.cell? ⟨ob, 3, none⟩ = some (.string a.nm)) := by
      unfold Hid
      intro w' h'
      rw [← hP] at h'
      exact ⟨h'.get3.cell 0, h'.get3.cell 1, h'.get3.cell 2, h'.get3.cell 3, h'.swap.cell 0, h'.swap.cell 1, h'.swap.cell 2, h'.swap.cell 3, h'.cell 0, h'.cell 1, h'.cell 2, h'.cell 3⟩
    have HW : Hid (∀ {w' : World}, Sat (World.env W) w' Pz → Sat (World.env W) w' (whole W)) := by
      unfold Hid
      intro w' h'
      rw [← hP] at h'
      exact h'.drop.drop.drop
    clear hP
    have CT1 := Lib.hid (fun w' => CT.out w' Pz)
    have RT1 := Lib.hid (fun w' => RT.out w' Pz)
    have CL1 := Lib.hid (fun w' => CL.out w' Pz)
    have CS1 := Lib.hid (fun w' => CS.out w' Pz)
    have RS1 := Lib.hid (fun w' => RS.out w' Pz)
    have CA1 := Lib.hid (fun w' => CLA.out w' Pz)
    go_region_held3 (fun w' => w'.cell? ⟨ox, 0, none⟩ = some (.string x.db) ∧ w'.cell? ⟨ox, 1, none⟩ = some (.string x.ro) ∧ w'.cell? ⟨ox, 2, none⟩ = some (.int .i64 x.fm) ∧ w'.cell? ⟨ox, 3, none⟩ = some (.string x.nm) ∧
        w'.cell? ⟨oa, 0, none⟩ = some (.string a.db) ∧ w'.cell? ⟨oa, 1, none⟩ = some (.string a.ro) ∧ w'.cell? ⟨oa, 2, none⟩ = some (.int .i64 a.fm) ∧ w'.cell? ⟨oa, 3, none⟩ = some (.string a.nm) ∧
        w'.cell? ⟨ob, 0, none⟩ = some (.string a.db) ∧ w'.cell? ⟨ob, 1, none⟩ = some (.string a.ro) ∧ w'.cell? ⟨ob, 2, none⟩ = some (.int .i64 a.fm) ∧ w'.cell? ⟨ob, 3, none⟩ = some (.string a.nm)) (first | exact HD.out (by assumption) | fail) (first
        | (go_at_call 12; (with_reducible refine (CT1.out _ (by first | assumption | exact Sat.drew (by assumption))).mono ?_); rintro e w' ⟨rfl, hq⟩)
        | (go_at_call 14; (with_reducible refine (CL1.out _ (by first | assumption | exact Sat.drew (by assumption))).mono ?_); rintro e w' ⟨rfl, hq⟩)
        | (go_at_call 13; (with_reducible refine (RT1.out _ (by first | assumption | exact Sat.drew (by assumption))).mono ?_); rintro e w' ⟨rfl, hq⟩)
        | (go_at_call 14; (with_reducible refine (CA1.out _ (by first | assumption | exact Sat.drew (by assumption))).mono ?_); rintro e w' ⟨rfl, hq⟩)
        | (go_at_call 15; (with_reducible refine (CS1.out _ (by first | assumption | exact Sat.drew (by assumption))).mono ?_); rintro e w' ⟨rfl, hq⟩)
        | (go_at_call 16; (with_reducible refine (RS1.out _ (by first | assumption | exact Sat.drew (by assumption))).mono ?_); rintro e w' ⟨rfl, hq⟩)
        | fail)
    clear CL1 CS1 RS1 CA1 CL CS RS CLA RT1 RT hne
    have CB1 := Lib.hid (fun w' => CB.out w' Pz)
    go_upto_region 8 with (first
        | (go_at_call 12; (with_reducible refine (CT1.out _ (by assumption)).mono ?_); rintro e w7 ⟨rfl, h7⟩)
        | (go_at_call 10; (with_reducible refine (CB1.out _ (by assumption)).mono ?_); rintro e w8 ⟨rfl, h8⟩)
        | fail)
    have h9 := h8.alloc (.cells #[.string c.db, .string c.ro, .int .i64 c.fm, .string c.nm] 23)
    generalize w8.alloc (.cells #[.string c.db, .string c.ro, .int .i64 c.fm, .string c.nm] 23) = w9 at *
    generalize w8.heap.size = oc at *
    have HE : Hid (∀ {w' : World}, Sat (World.env W) w' (blk oc (.cells #[.string c.db, .string c.ro, .int .i64 c.fm, .string c.nm] 23 (0, 0)) * Pz) → w'.cell? ⟨oc, 0, none⟩ = some (.string c.db) ∧ w'.cell? ⟨oc, 1, none⟩ = some (.string c.ro) ∧ w'.cell? ⟨oc, 2, none⟩ = some (.int .i64 c.fm) ∧ w'.cell? ⟨oc, 3, none⟩ = some (.string c.nm)) := by
      unfold Hid
      intro w' h'
      exact ⟨h'.cell 0, h'.cell 1, h'.cell 2, h'.cell 3⟩
    generalize hP2 : (blk oc (.cells #[.string c.db, .string c.ro, .int .i64 c.fm, .string c.nm] 23 (0, 0)) * Pz) = P2 at *
    have HO : Hid (∀ {w' : World}, Sat (World.env W) w' P2 → Sat (World.env W) w' Pz) := by
      unfold Hid
      intro w' h'
      rw [← hP2] at h'
      exact h'.drop
    clear hP2 h8
    have CT2 := Lib.hid (fun w' => CT.out w' P2)
    have KN := Lib.hid (fun w' => known_any (World.env W) w' P2)
    have CTA2 := Lib.hid (fun w' => CTA.out w' P2)
    obtain ⟨d0, d1, d2, d3, a0, a1, a2, a3, _⟩ := HD.out (HO.out h9)
    obtain ⟨c0, c1, c2, c3⟩ := HE.out h9
    rcases HB.out with ⟨rfl, hc, hb⟩ | ⟨rfl, hb⟩
    all_goals
      cases ip
    case inl.false =>
      obtain rfl : x = c := hc.symm
      have HI := Lib.hid (show tt.toList.isEmpty = false by simpa using hb)
      clear HA HB
      go_wp2_with (first | (go_at_call 12; (with_reducible refine (CT2.out w9 h9).mono ?_); rintro e w10 ⟨rfl, h10⟩; clear d0 d1 d2 d3 a0 a1 a2 a3 c0 c1 c2 c3; obtain ⟨d0, d1, d2, d3, a0, a1, a2, a3, _⟩ := HD.out (HO.out h10); obtain ⟨c0, c1, c2, c3⟩ := HE.out h10) | (go_at_call 9; (with_reducible refine (KN.out w10 h10).mono ?_); rintro e w12 ⟨rfl, h12⟩) | fail)
      go_ret
      exact ⟨by show Ending.returned (.bool (!tt.toList.isEmpty)) = _; rw [HI.out]; rfl, (HW.out (HO.out h12)).below⟩
    case inl.true =>
      obtain rfl : x = c := hc.symm
      have HI := Lib.hid (show tt.toList.isEmpty = false by simpa using hb)
      have ha := HA.out rfl
      rw [ha] at CTA2
      clear ha
      clear HA HB
      go_wp2_with (first | (go_at_call 12; (with_reducible refine (CT2.out w9 h9).mono ?_); rintro e w10 ⟨rfl, h10⟩; clear d0 d1 d2 d3 a0 a1 a2 a3 c0 c1 c2 c3; obtain ⟨d0, d1, d2, d3, a0, a1, a2, a3, _⟩ := HD.out (HO.out h10); obtain ⟨c0, c1, c2, c3⟩ := HE.out h10) | (go_at_call 12; (with_reducible refine (CTA2.out w10 h10).mono ?_); rintro e w11 ⟨rfl, h11⟩) | (go_at_call 9; (with_reducible refine (KN.out w11 h11).mono ?_); rintro e w12 ⟨rfl, h12⟩) | fail)
      go_ret
      exact ⟨by show Ending.returned (.bool (!tt.toList.isEmpty)) = _; rw [HI.out]; rfl, (HW.out (HO.out h12)).below⟩
    case inr.false =>
      clear HA HB
      go_wp2_with (first | (go_at_call 12; (with_reducible refine (CT2.out w9 h9).mono ?_); rintro e w10 ⟨rfl, h10⟩; clear d0 d1 d2 d3 a0 a1 a2 a3 c0 c1 c2 c3; obtain ⟨d0, d1, d2, d3, a0, a1, a2, a3, _⟩ := HD.out (HO.out h10); obtain ⟨c0, c1, c2, c3⟩ := HE.out h10) | (go_at_call 9; (with_reducible refine (KN.out w10 h10).mono ?_); rintro e w12 ⟨rfl, h12⟩) | fail)
      go_ret
      exact ⟨rfl, (HW.out (HO.out h12)).below⟩
    case inr.true =>
      have ha := HA.out rfl
      rw [ha] at CTA2
      clear ha
      clear HA HB
      go_wp2_with (first | (go_at_call 12; (with_reducible refine (CT2.out w9 h9).mono ?_); rintro e w10 ⟨rfl, h10⟩; clear d0 d1 d2 d3 a0 a1 a2 a3 c0 c1 c2 c3; obtain ⟨d0, d1, d2, d3, a0, a1, a2, a3, _⟩ := HD.out (HO.out h10); obtain ⟨c0, c1, c2, c3⟩ := HE.out h10) | (go_at_call 12; (with_reducible refine (CTA2.out w10 h10).mono ?_); rintro e w11 ⟨rfl, h11⟩) | (go_at_call 9; (with_reducible refine (KN.out w11 h11).mono ?_); rintro e w12 ⟨rfl, h12⟩) | fail)
      go_ret
      exact ⟨rfl, (HW.out (HO.out h12)).below⟩

end Go.Proofs.Ytlilogcojeoelaa
