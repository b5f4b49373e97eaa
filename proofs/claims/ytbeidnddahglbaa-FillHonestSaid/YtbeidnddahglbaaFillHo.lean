/- The law FillHonest, walked. -/
import Derived.Test.YtbeidnddahglbaaFillT
namespace Go.Proofs.Ytbeidnddahglbaa
set_option linter.all false
open Go Go.RowKit

theorem IntsC (k : Env) (w : World) (R : Assn) (v : Value) (l : List Int) (h : Sat k w (Ints v l * R)) : ∃ a c, v = .slice a l.length c := own_val h

set_option maxRecDepth 100000 in
set_option maxHeartbeats 64000000 in
theorem walkFillHonest (W : World) (a : Option Addr) (len cap : Nat) (xs : List (List Value)) (z : IsRecs W a len cap 12 (okOpF W) xs) :
    Calls Try.prog 3 #[.slice a len cap] W fun e w' => e = .returned (.bool true) ∧ Below W.heap.size W w' := by
  go_enter Try.func3, Try.ntmps3
  go_wp2_with fail
  refine (fh_new _ W (whole W) (Sat.whole W)).mono ?_
  rintro e w1 ⟨b, rfl, h1⟩
  go_upto_region 10 with fail
  have h2 := (strs_lit rds (by decide) h1 _ rfl).alloc (.cells #[.string ⟨#[]⟩, .string ⟨#[]⟩, .int .i64 0, .string ⟨#[113]⟩] 30)
  rw [show (w1.alloc (.cells (strs rds).toArray 9)).heap.size = w1.heap.size + 1 from by simp] at h2
  have h3 : Sat (World.env W) ((w1.alloc (.cells #[.string ⟨#[116]⟩, .string ⟨#[117]⟩] 9)).alloc (.cells #[.string ⟨#[]⟩, .string ⟨#[]⟩, .int .i64 0, .string ⟨#[113]⟩] 30)) (blk (w1.heap.size + 1) (.cells #[.string ⟨#[]⟩, .string ⟨#[]⟩, .int .i64 0, .string ⟨#[113]⟩] 30 (0, 0)) * (Strs (.slice (some ⟨w1.heap.size, 0, none⟩) 2 2) rds * (FH b 0 0 ⟨#[]⟩ false false [] * whole W))) := h2
  clear h2
  generalize (w1.alloc (.cells #[.string ⟨#[116]⟩, .string ⟨#[117]⟩] 9)).alloc (.cells #[.string ⟨#[]⟩, .string ⟨#[]⟩, .int .i64 0, .string ⟨#[113]⟩] 30) = w2 at *
  generalize w1.heap.size + 1 = o10 at *
  generalize w1.heap.size = g5 at *
  clear h1
  go_wp2_with fail
  go_loopw [6, 7, 8, 9, 11] (fun v6 v7 v8 v9 i wr => ∃ (j nv : Nat) (value : ByteArray) (filled changed : Bool) (dl : List Int), j ≤ len ∧ j ≤ 50 ∧ nv ≤ 13 * j ∧ dl.length ≤ j ∧ i = .int .i64 j ∧ v6 = .string value ∧ v7 = .bool filled ∧ v8 = .bool changed ∧ Sat (World.env W) wr (Ints v9 dl * (FH b j nv value filled changed dl * ((blk o10 (.cells #[.string ⟨#[]⟩, .string ⟨#[]⟩, .int .i64 0, .string ⟨#[113]⟩] 30 (0, 0))) * ((Strs (.slice (some ⟨g5, 0, none⟩) 2 2) rds) * whole W))))) (fun _ _ _ _ i _ => 50 - (intOf i).toNat)
  case atStart => exact ⟨0, 0, ⟨#[]⟩, false, false, [], Nat.zero_le _, Nat.zero_le _, Nat.zero_le _, Nat.zero_le _, rfl, rfl, rfl, rfl, own_nil (h3.get3.of_eq (by ac_rfl))⟩
  case round =>
    clear h3
    obtain ⟨j, nv, value, filled, changed, dl, hj, hj50, hnv, hdl, rfl, rfl, rfl, rfl, hr⟩ := hrel
    obtain ⟨da, dc, rfl⟩ := IntsC _ _ _ _ _ hr
    by_cases hlt : j < len ∧ j < 50
    · obtain ⟨hlt, hlt2⟩ := hlt
      have hlt' : (j : Int) < len := by omega
      have hlt2' : (j : Int) < 50 := by omega
      obtain ⟨g, o, cs, rfl, _, _, ⟨oo, rfl, hok, hvs, ⟨xn, zn⟩, ⟨xs2, zs⟩⟩, hcs⟩ := rec_at z (by decide) j hlt
      obtain ⟨kd, y, v, cl, na, nn, nc, now, ep, sa, sn, sc, ia, il, ic⟩ := oo
      simp only at hok hvs zn zs
      obtain ⟨names, hnl, _, hnr⟩ := strs_in zn
      obtain ⟨snames, hsl, _, hsr⟩ := strs_in zs
      subst hnl hsl
      obtain ⟨s0, s1, s2, _⟩ := hok
      have HNR := Lib.hid (rd_in hnr (World.env W))
      have HSR := Lib.hid (rd_in hsr (World.env W))
      clear hnr hsr zn zs
      obtain ⟨hg, c0⟩ := whole_at hr.drop.drop.drop.drop (hcs 0 (by decide))
      obtain ⟨_, c1⟩ := whole_at hr.drop.drop.drop.drop (hcs 1 (by decide))
      obtain ⟨_, c2⟩ := whole_at hr.drop.drop.drop.drop (hcs 2 (by decide))
      obtain ⟨_, c3⟩ := whole_at hr.drop.drop.drop.drop (hcs 3 (by decide))
      obtain ⟨_, c4⟩ := whole_at hr.drop.drop.drop.drop (hcs 4 (by decide))
      obtain ⟨_, c5⟩ := whole_at hr.drop.drop.drop.drop (hcs 5 (by decide))
      obtain ⟨_, c6⟩ := whole_at hr.drop.drop.drop.drop (hcs 6 (by decide))
      obtain ⟨_, c7⟩ := whole_at hr.drop.drop.drop.drop (hcs 7 (by decide))
      obtain ⟨_, c8⟩ := whole_at hr.drop.drop.drop.drop (hcs 8 (by decide))
      obtain ⟨_, c9⟩ := whole_at hr.drop.drop.drop.drop (hcs 9 (by decide))
      obtain ⟨_, c10⟩ := whole_at hr.drop.drop.drop.drop (hcs 10 (by decide))
      obtain ⟨_, c11⟩ := whole_at hr.drop.drop.drop.drop (hcs 11 (by decide))
      simp only [Nat.add_zero] at c0
      clear hcs
      have h3 := hr.alloc (.cells #[.int .i64 kd, .string y.db, .string y.ro, .int .i64 y.fm, .string y.nm, .string v, .int .i64 cl, .slice na names.length nc, .int .i64 now, .int .i64 ep, .slice sa snames.length sc, .slice ia il ic] 34)
      go_upto_region 14 with fail
      generalize wr.alloc (.cells #[.int .i64 kd, .string y.db, .string y.ro, .int .i64 y.fm, .string y.nm, .string v, .int .i64 cl, .slice na names.length nc, .int .i64 now, .int .i64 ep, .slice sa snames.length sc, .slice ia il ic] 34) = w4 at *
      generalize wr.heap.size = og at *
      clear hr hg c0 c1 c2 c3 c4 c5 c6 c7 c8 c9 c10 c11
      have CL := Lib.hid (light_any (World.env W) w4 _ kd y.db y.ro y.fm y.nm v cl na nc now ep sa sc ia il ic names snames s0 s1 s2 hvs (HNR.out.mono fun w' h' => h'.drop.drop.drop.drop.drop) (HSR.out.mono fun w' h' => h'.drop.drop.drop.drop.drop) h3)
      have d0 : w4.cell? ⟨og, 0, none⟩ = some (.int .i64 kd) := h3.cell 0
      have d1 : w4.cell? ⟨og, 1, none⟩ = some (.string y.db) := h3.cell 1
      have d2 : w4.cell? ⟨og, 2, none⟩ = some (.string y.ro) := h3.cell 2
      have d3 : w4.cell? ⟨og, 3, none⟩ = some (.int .i64 y.fm) := h3.cell 3
      have d4 : w4.cell? ⟨og, 4, none⟩ = some (.string y.nm) := h3.cell 4
      have d5 : w4.cell? ⟨og, 5, none⟩ = some (.string v) := h3.cell 5
      have d6 : w4.cell? ⟨og, 6, none⟩ = some (.int .i64 cl) := h3.cell 6
      have d7 : w4.cell? ⟨og, 7, none⟩ = some (.slice na names.length nc) := h3.cell 7
      have d8 : w4.cell? ⟨og, 8, none⟩ = some (.int .i64 now) := h3.cell 8
      have d9 : w4.cell? ⟨og, 9, none⟩ = some (.int .i64 ep) := h3.cell 9
      have d10 : w4.cell? ⟨og, 10, none⟩ = some (.slice sa snames.length sc) := h3.cell 10
      have d11 : w4.cell? ⟨og, 11, none⟩ = some (.slice ia il ic) := h3.cell 11
      go_wp2_with fail
      refine CL.out.mono ?_
      rintro e w5 ⟨tl, rfl, htl, h5⟩
      clear d0 d1 d2 d3 d4 d5 d6 d7 d8 d9 d10 d11 CL h3 s0 s1 s2 HSR hvs
      cases tl with
      | false =>
        go_wp2_with fail
        go_roundw
        case rel => exact ⟨j + 1, nv, value, filled, changed, dl, by omega, by omega, by omega, by omega, by go_num, rfl, rfl, rfl, (fh_more h5.drop.swap (Nat.le_succ j) (Nat.le_refl _)).swap⟩
        case measure => simp [intOf]; omega
      | true =>
        obtain ⟨hv5, hn12⟩ := htl rfl
        clear htl
        have d0 : w5.cell? ⟨og, 0, none⟩ = some (.int .i64 kd) := h5.cell 0
        by_cases k012 : kd = 0 ∨ kd = 1 ∨ kd = 2
        · as_aux_lemma =>
            obtain ⟨V, oq, hi, hs⟩ := fh_open h5.get3
            have hs2 : Sat (World.env W) w5 (FO b j nv 400 100 100 1000 kq V oq * ((Strs (.slice (some ⟨g5, 0, none⟩) 2 2) rds) * ((blk og (.cells #[.int .i64 kd, .string y.db, .string y.ro, .int .i64 y.fm, .string y.nm, .string v, .int .i64 cl, .slice na names.length nc, .int .i64 now, .int .i64 ep, .slice sa snames.length sc, .slice ia il ic] 34 (0, 0))) * (Ints (.slice da dl.length dc) dl * ((blk o10 (.cells #[.string ⟨#[]⟩, .string ⟨#[]⟩, .int .i64 0, .string ⟨#[113]⟩] 30 (0, 0))) * whole W))))) := hs.of_eq (by ac_rfl)
            clear hs h5
            have CS := Lib.hid (fo_start2 (World.env W) w5.drew b j nv _ g5 V oq (Sat.drew hs2))
            have HI' := Lib.hid hi
            clear hi
            have e0 : w5.cell? ⟨o10, 0, none⟩ = some (.string ⟨#[]⟩) := hs2.get5.cell 0
            have e1 : w5.cell? ⟨o10, 1, none⟩ = some (.string ⟨#[]⟩) := hs2.get5.cell 1
            have e2 : w5.cell? ⟨o10, 2, none⟩ = some (.int .i64 0) := hs2.get5.cell 2
            have e3 : w5.cell? ⟨o10, 3, none⟩ = some (.string ⟨#[113]⟩) := hs2.get5.cell 3
            have d5 : w5.cell? ⟨og, 5, none⟩ = some (.string v) := hs2.get3.cell 5
            have hq : (kd == 0) = true ∨ ((kd == 0) = false ∧ (kd == 1) = true) ∨ ((kd == 0) = false ∧ (kd == 1) = false ∧ (kd == 2) = true) := by rcases k012 with h | h | h <;> simp [h]
            clear k012
            rcases hq with q0 | ⟨q0, q1⟩ | ⟨q0, q1, q2⟩
            all_goals
              go_upto_region 19 with fail
              go_region_held3 (fun w' => w'.cell? ⟨o10, 0, none⟩ = some (.string ⟨#[]⟩) ∧ w'.cell? ⟨o10, 1, none⟩ = some (.string ⟨#[]⟩) ∧ w'.cell? ⟨o10, 2, none⟩ = some (.int .i64 0) ∧ w'.cell? ⟨o10, 3, none⟩ = some (.string ⟨#[113]⟩) ∧ w'.cell? ⟨og, 5, none⟩ = some (.string v))
                (first | exact ⟨e0, e1, e2, e3, d5⟩ | exact ⟨(h6.get6.cell 0).trans rfl, (h6.get6.cell 1).trans rfl, (h6.get6.cell 2).trans rfl, (h6.get6.cell 3).trans rfl, (h6.get4.cell 5).trans rfl⟩ | exact ⟨(hX.get3.cell 0).trans rfl, (hX.get3.cell 1).trans rfl, (hX.get3.cell 2).trans rfl, (hX.get3.cell 3).trans rfl, (hX.cell 5).trans rfl⟩ | fail)
                (first | (go_at_call 10; (with_reducible refine CS.out.mono ?_); rintro e w6 ⟨⟨ep3, sa3, ac3, names3, si3, ic3, nums3⟩, rfl, p1, p2, p3, h6⟩; simp only at p1 p2 p3; simp only [StM.v]; have CFI := Lib.hid (fh_fill (World.env W) w6 _ b j nv value filled changed dl V oq HI'.out v ep3 sa3 si3 ac3 ic3 names3 nums3 p1 p2 p3 hv5 (by omega) h6); clear p1 p2 p3) | (go_at_call 9; (with_reducible refine CFI.out.mono ?_); rintro e w7 ⟨t7, er, rfl, hor⟩; have hX : Sat (World.env W) w7 ((blk og (.cells #[.int .i64 kd, .string y.db, .string y.ro, .int .i64 y.fm, .string y.nm, .string v, .int .i64 cl, .slice na names.length nc, .int .i64 now, .int .i64 ep, .slice sa snames.length sc, .slice ia il ic] 34 (0, 0))) * (Ints (.slice da dl.length dc) dl * ((blk o10 (.cells #[.string ⟨#[]⟩, .string ⟨#[]⟩, .int .i64 0, .string ⟨#[113]⟩] 30 (0, 0))) * whole W))) := (by rcases hor with ⟨_, _, _, q⟩ | ⟨_, _, _, q⟩ | ⟨_, _, _, _, q⟩ <;> exact q.drop.drop)) | fail)
              clear e0 e1 e2 e3 d5 CS CFI h6 HI'
              have d5 : w7.cell? ⟨og, 5, none⟩ = some (.string v) := hX.cell 5
              rcases hor with ⟨hd, rfl, rfl, h7⟩ | ⟨hd, rfl, rfl, h7⟩ | ⟨hd, rfl, her, h78, h7⟩
              · have hdz : ((dl.length : Int) == 0) = false := by
                  have := List.length_pos_iff.2 hd
                  simp; omega
                have HDD := Lib.hid hd
                clear hd hX
                go_wp2_with fail
                go_roundw
                case rel => exact ⟨j + 1, nv, value, filled, changed, dl, by omega, by omega, by omega, by omega, by go_num, rfl, rfl, rfl, (h7.of_eq (show _ = (blk og (.cells #[.int .i64 kd, .string y.db, .string y.ro, .int .i64 y.fm, .string y.nm, .string v, .int .i64 cl, .slice na names.length nc, .int .i64 now, .int .i64 ep, .slice sa snames.length sc, .slice ia il ic] 34 (0, 0))) * (Ints (.slice da dl.length dc) dl * (FH b (j + 1) nv value filled changed dl * ((blk o10 (.cells #[.string ⟨#[]⟩, .string ⟨#[]⟩, .int .i64 0, .string ⟨#[113]⟩] 30 (0, 0))) * ((Strs (.slice (some ⟨g5, 0, none⟩) 2 2) rds) * whole W)))) by ac_rfl)).drop⟩
                case measure => simp [intOf]; omega
              · have hdz : ((dl.length : Int) == 0) = true := by rw [hd]; rfl
                have HDD := Lib.hid hd
                clear hd hX
                go_wp2_with fail
                go_roundw
                case rel => exact ⟨j + 1, nv, v, true, false, dl, by omega, by omega, by omega, by omega, by go_num, rfl, rfl, rfl, (h7.of_eq (show _ = (blk og (.cells #[.int .i64 kd, .string y.db, .string y.ro, .int .i64 y.fm, .string y.nm, .string v, .int .i64 cl, .slice na names.length nc, .int .i64 now, .int .i64 ep, .slice sa snames.length sc, .slice ia il ic] 34 (0, 0))) * (Ints (.slice da dl.length dc) dl * (FH b (j + 1) nv v true false dl * ((blk o10 (.cells #[.string ⟨#[]⟩, .string ⟨#[]⟩, .int .i64 0, .string ⟨#[113]⟩] 30 (0, 0))) * ((Strs (.slice (some ⟨g5, 0, none⟩) 2 2) rds) * whole W)))) by ac_rfl)).drop⟩
                case measure => simp [intOf]; omega
              · have her1 : (er == 0) = false := by simpa using her
                have her2 : (er != 0) = true := by simpa using her
                have h78' : ¬ (v.size : Int) ≤ 78 := by omega
                have HDD := Lib.hid hd
                clear hd hX her
                go_wp2_with fail
                go_roundw
                case rel => exact ⟨j + 1, nv, value, filled, changed, dl, by omega, by omega, by omega, by omega, by go_num, rfl, rfl, rfl, (h7.of_eq (show _ = (blk og (.cells #[.int .i64 kd, .string y.db, .string y.ro, .int .i64 y.fm, .string y.nm, .string v, .int .i64 cl, .slice na names.length nc, .int .i64 now, .int .i64 ep, .slice sa snames.length sc, .slice ia il ic] 34 (0, 0))) * (Ints (.slice da dl.length dc) dl * (FH b (j + 1) nv value filled changed dl * ((blk o10 (.cells #[.string ⟨#[]⟩, .string ⟨#[]⟩, .int .i64 0, .string ⟨#[113]⟩] 30 (0, 0))) * ((Strs (.slice (some ⟨g5, 0, none⟩) 2 2) rds) * whole W)))) by ac_rfl)).drop⟩
                case measure => simp [intOf]; omega
        · have q0 : (kd == 0) = false := by simp; omega
          have q1 : (kd == 1) = false := by simp; omega
          have q2 : (kd == 2) = false := by simp; omega
          clear k012
          have hs : Sat (World.env W) w5 (FH b j nv value filled changed dl * ((blk og (.cells #[.int .i64 kd, .string y.db, .string y.ro, .int .i64 y.fm, .string y.nm, .string v, .int .i64 cl, .slice na names.length nc, .int .i64 now, .int .i64 ep, .slice sa snames.length sc, .slice ia il ic] 34 (0, 0))) * (Ints (.slice da dl.length dc) dl * ((blk o10 (.cells #[.string ⟨#[]⟩, .string ⟨#[]⟩, .int .i64 0, .string ⟨#[113]⟩] 30 (0, 0))) * ((Strs (.slice (some ⟨g5, 0, none⟩) 2 2) rds) * whole W))))) := h5.of_eq (by ac_rfl)
          clear h5
          by_cases k3 : kd = 3
          · as_aux_lemma =>
              have q3 : (kd == 3) = true := by rw [k3]; rfl
              have q4 : (kd == 4) = false := by rw [k3]; rfl
              have q5 : (kd == 5) = false := by rw [k3]; rfl
              have q6 : (kd == 6) = false := by rw [k3]; rfl
              clear k3
              have e0 : w5.cell? ⟨o10, 0, none⟩ = some (.string ⟨#[]⟩) := hs.get4.cell 0
              have e1 : w5.cell? ⟨o10, 1, none⟩ = some (.string ⟨#[]⟩) := hs.get4.cell 1
              have e2 : w5.cell? ⟨o10, 2, none⟩ = some (.int .i64 0) := hs.get4.cell 2
              have e3 : w5.cell? ⟨o10, 3, none⟩ = some (.string ⟨#[113]⟩) := hs.get4.cell 3
              go_wp2_with fail
              refine (fh_look (World.env W) w5 _ b j nv value filled changed dl (by omega) hs).mono ?_
              rintro e w6 ⟨v6, t6, rfl, ht6, hv6, h6⟩
              clear e0 e1 e2 e3 d0 hs
              cases filled with
              | false =>
                have ht7 : t6 = false := ht6
                subst ht7
                clear ht6 hv6
                cases changed with
                | false =>
                  go_wp2_with fail
                  go_roundw
                  case rel => exact ⟨j + 1, nv, value, false, false, dl, by omega, by omega, by omega, by omega, by go_num, rfl, rfl, rfl, (fh_more (h6.of_eq (show _ = FH b j nv value false false dl * ((blk og (.cells #[.int .i64 kd, .string y.db, .string y.ro, .int .i64 y.fm, .string y.nm, .string v, .int .i64 cl, .slice na names.length nc, .int .i64 now, .int .i64 ep, .slice sa snames.length sc, .slice ia il ic] 34 (0, 0))) * (Ints (.slice da dl.length dc) dl * ((blk o10 (.cells #[.string ⟨#[]⟩, .string ⟨#[]⟩, .int .i64 0, .string ⟨#[113]⟩] 30 (0, 0))) * ((Strs (.slice (some ⟨g5, 0, none⟩) 2 2) rds) * whole W)))) by simp only [Bool.not_true, Bool.not_false, Bool.and_true, Bool.and_false, Bool.false_and, Bool.true_and] <;> ac_rfl)) (Nat.le_succ j) (Nat.le_refl _)).swap.drop.swap⟩
                  case measure => simp [intOf]; omega
                | true =>
                  go_wp2_with fail
                  go_roundw
                  case rel => exact ⟨j + 1, nv, value, false, true, dl, by omega, by omega, by omega, by omega, by go_num, rfl, rfl, rfl, (fh_more (h6.of_eq (show _ = FH b j nv value false true dl * ((blk og (.cells #[.int .i64 kd, .string y.db, .string y.ro, .int .i64 y.fm, .string y.nm, .string v, .int .i64 cl, .slice na names.length nc, .int .i64 now, .int .i64 ep, .slice sa snames.length sc, .slice ia il ic] 34 (0, 0))) * (Ints (.slice da dl.length dc) dl * ((blk o10 (.cells #[.string ⟨#[]⟩, .string ⟨#[]⟩, .int .i64 0, .string ⟨#[113]⟩] 30 (0, 0))) * ((Strs (.slice (some ⟨g5, 0, none⟩) 2 2) rds) * whole W)))) by simp only [Bool.not_true, Bool.not_false, Bool.and_true, Bool.and_false, Bool.false_and, Bool.true_and] <;> ac_rfl)) (Nat.le_succ j) (Nat.le_refl _)).swap.drop.swap⟩
                  case measure => simp [intOf]; omega
              | true =>
                cases changed with
                | true =>
                  have ht7 : t6 = false := ht6
                  subst ht7
                  clear ht6 hv6
                  go_wp2_with fail
                  go_roundw
                  case rel => exact ⟨j + 1, nv, value, false, true, dl, by omega, by omega, by omega, by omega, by go_num, rfl, rfl, rfl, (fh_more (h6.of_eq (show _ = FH b j nv value false true dl * ((blk og (.cells #[.int .i64 kd, .string y.db, .string y.ro, .int .i64 y.fm, .string y.nm, .string v, .int .i64 cl, .slice na names.length nc, .int .i64 now, .int .i64 ep, .slice sa snames.length sc, .slice ia il ic] 34 (0, 0))) * (Ints (.slice da dl.length dc) dl * ((blk o10 (.cells #[.string ⟨#[]⟩, .string ⟨#[]⟩, .int .i64 0, .string ⟨#[113]⟩] 30 (0, 0))) * ((Strs (.slice (some ⟨g5, 0, none⟩) 2 2) rds) * whole W)))) by simp only [Bool.not_true, Bool.not_false, Bool.and_true, Bool.and_false, Bool.false_and, Bool.true_and] <;> ac_rfl)) (Nat.le_succ j) (Nat.le_refl _)).swap.drop.swap⟩
                  case measure => simp [intOf]; omega
                | false =>
                  by_cases hd : dl = []
                  · have ht7 : t6 = true := by rw [ht6, decide_eq_true hd]; rfl
                    subst ht7
                    have hvv := hv6 rfl
                    subst hvv
                    have hdz : ((dl.length : Int) == 0) = true := by rw [hd]; rfl
                    have hvb : (v6.toList == v6.toList) = true := by simp
                    have HDD := Lib.hid hd
                    clear ht6 hv6 hd
                    go_wp2_with fail
                    go_roundw
                    case rel => exact ⟨j + 1, nv, v6, true, false, dl, by omega, by omega, by omega, by omega, by go_num, rfl, rfl, rfl, (fh_more (h6.of_eq (show _ = FH b j nv v6 true false dl * ((blk og (.cells #[.int .i64 kd, .string y.db, .string y.ro, .int .i64 y.fm, .string y.nm, .string v, .int .i64 cl, .slice na names.length nc, .int .i64 now, .int .i64 ep, .slice sa snames.length sc, .slice ia il ic] 34 (0, 0))) * (Ints (.slice da dl.length dc) dl * ((blk o10 (.cells #[.string ⟨#[]⟩, .string ⟨#[]⟩, .int .i64 0, .string ⟨#[113]⟩] 30 (0, 0))) * ((Strs (.slice (some ⟨g5, 0, none⟩) 2 2) rds) * whole W)))) by simp only [Bool.not_true, Bool.not_false, Bool.and_true, Bool.and_false, Bool.false_and, Bool.true_and] <;> ac_rfl)) (Nat.le_succ j) (Nat.le_refl _)).swap.drop.swap⟩
                    case measure => simp [intOf]; omega
                  · have ht7 : t6 = false := by rw [ht6, decide_eq_false hd]; rfl
                    subst ht7
                    have hdz : ((dl.length : Int) == 0) = false := by
                      have := List.length_pos_iff.2 hd
                      simp; omega
                    have HDD := Lib.hid hd
                    clear ht6 hv6 hd
                    go_wp2_with fail
                    go_roundw
                    case rel => exact ⟨j + 1, nv, value, true, false, dl, by omega, by omega, by omega, by omega, by go_num, rfl, rfl, rfl, (fh_more (h6.of_eq (show _ = FH b j nv value true false dl * ((blk og (.cells #[.int .i64 kd, .string y.db, .string y.ro, .int .i64 y.fm, .string y.nm, .string v, .int .i64 cl, .slice na names.length nc, .int .i64 now, .int .i64 ep, .slice sa snames.length sc, .slice ia il ic] 34 (0, 0))) * (Ints (.slice da dl.length dc) dl * ((blk o10 (.cells #[.string ⟨#[]⟩, .string ⟨#[]⟩, .int .i64 0, .string ⟨#[113]⟩] 30 (0, 0))) * ((Strs (.slice (some ⟨g5, 0, none⟩) 2 2) rds) * whole W)))) by simp only [Bool.not_true, Bool.not_false, Bool.and_true, Bool.and_false, Bool.false_and, Bool.true_and] <;> ac_rfl)) (Nat.le_succ j) (Nat.le_refl _)).swap.drop.swap⟩
                    case measure => simp [intOf]; omega
          · have q3 : (kd == 3) = false := by simpa using k3
            by_cases k4 : kd = 4
            · as_aux_lemma =>
                have q4 : (kd == 4) = true := by rw [k4]; rfl
                have q5 : (kd == 5) = false := by rw [k4]; rfl
                have q6 : (kd == 6) = false := by rw [k4]; rfl
                clear k3 k4
                have d6 : w5.cell? ⟨og, 6, none⟩ = some (.int .i64 cl) := hs.swap.cell 6
                have d7 : w5.cell? ⟨og, 7, none⟩ = some (.slice na names.length nc) := hs.swap.cell 7
                go_wp2_with fail
                refine (fh_write (World.env W) w5 _ b j nv value filled changed dl cl na nc names (HNR.out.mono fun w' h' => h'.drop.drop.drop.drop) (by omega) hs).mono ?_
                rintro e w6 ⟨rfl, h6⟩
                clear d0 d6 d7 hs
                have d6 : w6.cell? ⟨og, 6, none⟩ = some (.int .i64 cl) := h6.swap.cell 6
                have d7 : w6.cell? ⟨og, 7, none⟩ = some (.slice na names.length nc) := h6.swap.cell 7
                have CM : Hid (Calls Try.prog 13 #[.slice na names.length nc, .slice (some ⟨g5, 0, none⟩) 2 2] w6 fun e w' => e = .returned (.bool (meetB names rds)) ∧ Sat (World.env W) w' (FH b j (nv + names.length + 1) value filled (changed || meetB names rds) (if meetB names rds = true then dl ++ [cl] else dl) * ((blk og (.cells #[.int .i64 kd, .string y.db, .string y.ro, .int .i64 y.fm, .string y.nm, .string v, .int .i64 cl, .slice na names.length nc, .int .i64 now, .int .i64 ep, .slice sa snames.length sc, .slice ia il ic] 34 (0, 0))) * (Ints (.slice da dl.length dc) dl * ((blk o10 (.cells #[.string ⟨#[]⟩, .string ⟨#[]⟩, .int .i64 0, .string ⟨#[113]⟩] 30 (0, 0))) * ((Strs (.slice (some ⟨g5, 0, none⟩) 2 2) rds) * whole W)))))) :=
                  meets_any (World.env W) w6 _ na nc names (some ⟨g5, 0, none⟩) 2 rds (HNR.out.mono fun w' h' => h'.drop.drop.drop.drop.drop) ((rd_own_any (l := rds) h6.get5 _).mono fun w' h' => h'.get5) (by omega) (by decide) h6
                clear h6
                cases hm : meetB names rds with
                | false =>
                  simp only [hm, Bool.or_false, Bool.false_eq_true, if_false] at CM
                  clear hm
                  go_wp2_with fail
                  refine CM.out.mono ?_
                  rintro e w7 ⟨rfl, h7⟩
                  clear d6 d7 CM
                  go_wp2_with fail
                  go_roundw
                  case rel => exact ⟨j + 1, nv + names.length + 1, value, filled, changed, dl, by omega, by omega, by omega, by omega, by go_num, rfl, rfl, rfl, (fh_more h7 (Nat.le_succ j) (Nat.le_refl _)).swap.drop.swap⟩
                  case measure => simp [intOf]; omega
                | true =>
                  simp only [hm, Bool.or_true, if_true] at CM
                  clear hm
                  go_wp2_with fail
                  refine CM.out.mono ?_
                  rintro e w7 ⟨rfl, h7⟩
                  clear d6 d7 CM
                  go_upto_region 36 with fail
                  have d6 : w7.cell? ⟨og, 6, none⟩ = some (.int .i64 cl) := h7.swap.cell 6
                  go_wp2_with (at_builtin; refine wpList_append_sat TInts (h7.get3.alloc' _) (.tmp 128) (.tmp 131) _ 1 1 [.int .i64 cl] rfl rfl rfl rfl rfl (fun _ => ⟨_, rfl, new_cells_at _ _ _ _ (by first | rfl | simp)⟩) (ints_one [cl]) (by simp only [maxLen]; omega) (by omega) ?_; intro a8 c8 w8 h8)
                  go_roundw
                  case rel => exact ⟨j + 1, nv + names.length + 1, value, filled, true, dl ++ [cl], by omega, by omega, by omega, by simp; omega, by go_num, rfl, rfl, rfl, (fh_more (ints_push h8).swap (Nat.le_succ j) (Nat.le_refl _)).swap.get3.drop⟩
                  case measure => simp [intOf]; omega
            · have q4 : (kd == 4) = false := by simpa using k4
              by_cases k5 : kd = 5
              · as_aux_lemma =>
                  have q5 : (kd == 5) = true := by rw [k5]; rfl
                  have q6 : (kd == 6) = false := by rw [k5]; rfl
                  clear k3 k4 k5
                  have d6 : w5.cell? ⟨og, 6, none⟩ = some (.int .i64 cl) := hs.swap.cell 6
                  have d7 : w5.cell? ⟨og, 7, none⟩ = some (.slice na names.length nc) := hs.swap.cell 7
                  go_wp2_with fail
                  refine (fh_commit (World.env W) w5 _ b j nv value filled changed dl cl na nc names (HNR.out.mono fun w' h' => h'.drop.drop.drop.drop) (by omega) hs).mono ?_
                  rintro e w6 ⟨rfl, h6⟩
                  clear d0 d6 d7 hs
                  go_upto_region 39 with fail
                  cases changed with
                  | true =>
                    simp only [Bool.true_or] at h6
                    go_wp2_with fail
                    go_loopw [17, 18] (fun v17 i wr => ∃ q : Nat, q ≤ dl.length ∧ i = .int .i64 q ∧ Sat (World.env W) wr (Ints v17 ((dl.take q).filter (fun c => decide (c ≠ cl))) * (Ints (.slice da dl.length dc) dl * ((blk og (.cells #[.int .i64 kd, .string y.db, .string y.ro, .int .i64 y.fm, .string y.nm, .string v, .int .i64 cl, .slice na names.length nc, .int .i64 now, .int .i64 ep, .slice sa snames.length sc, .slice ia il ic] 34 (0, 0))) * (FH b j (nv + 1) value filled true (dl.filter (fun c => decide (c ≠ cl))) * ((blk o10 (.cells #[.string ⟨#[]⟩, .string ⟨#[]⟩, .int .i64 0, .string ⟨#[113]⟩] 30 (0, 0))) * ((Strs (.slice (some ⟨g5, 0, none⟩) 2 2) rds) * whole W))))))) (fun _ i _ => dl.length - (intOf i).toNat)
                    case atStart => exact ⟨0, Nat.zero_le _, rfl, own_nil (h6.of_eq (by ac_rfl))⟩
                    case round =>
                      clear h6
                      obtain ⟨q, hq, rfl, hr⟩ := hrel
                      obtain ⟨ra, rc, rfl⟩ := IntsC _ _ _ _ _ hr
                      by_cases hql : q < dl.length
                      · have hql' : (q : Int) < dl.length := by omega
                        obtain ⟨gd, rfl, _, dq⟩ := ints_get hr.swap q hql
                        have hsn : (dl.take (q + 1)).filter (fun c => decide (c ≠ cl)) = if dl[q] = cl then (dl.take q).filter (fun c => decide (c ≠ cl)) else (dl.take q).filter (fun c => decide (c ≠ cl)) ++ [dl[q]] := by
                          have h1 : dl.take (q + 1) = dl.take q ++ [dl[q]] := by rw [List.take_succ]; simp [hql]
                          rw [h1, List.filter_append]
                          by_cases e : dl[q] = cl <;> simp [e]
                        have hfl : ((dl.take q).filter (fun c => decide (c ≠ cl))).length ≤ 50 := Nat.le_trans (List.length_filter_le _ _) (by rw [List.length_take]; omega)
                        have HSN := Lib.hid hsn
                        clear hsn
                        have HDQ : Hid (∀ {w' : World} {R' : Assn}, Sat (World.env W) w' (Ints (.slice (some ⟨gd, 0, none⟩) dl.length dc) dl * R') → w'.cell? ⟨gd, q, none⟩ = some (.int .i64 dl[q])) := by
                          unfold Hid
                          intro w' R' h'
                          obtain ⟨g2, e2, _, hc⟩ := ints_get h' q hql
                          simp only [Option.some.injEq, Addr.mk.injEq, and_true] at e2
                          subst e2
                          exact hc
                        generalize dl[q] = cq at *
                        generalize (dl.take q).filter (fun c => decide (c ≠ cl)) = fl at *
                        have d6 : wr.cell? ⟨og, 6, none⟩ = some (.int .i64 cl) := hr.get3.cell 6
                        go_upto_region 44 with fail
                        go_quiet (fail)
                        replace hr := hr.drewN nq
                        clear d6 dq
                        generalize wr.drewN nq = w9 at *
                        have dq : w9.cell? ⟨gd, q, none⟩ = some (.int .i64 cq) := HDQ.out hr.swap
                        by_cases hc : cq = cl
                        · have hne : (cq != cl) = false := by simp [hc]
                          have HX := Lib.hid hc
                          rw [if_pos hc] at HSN
                          clear hc
                          go_wp2_with fail
                          go_roundw
                          case rel => exact ⟨q + 1, by omega, by go_num, by rw [HSN.out]; exact hr⟩
                          case measure => simp [intOf]; omega
                        · have hne : (cq != cl) = true := by simp [hc]
                          have HX := Lib.hid hc
                          rw [if_neg hc] at HSN
                          clear hc
                          go_upto_region 45 with fail
                          go_wp2_with (at_builtin; refine wpList_append_sat TInts (hr.alloc' _) (.tmp 161) (.tmp 166) _ 1 1 [.int .i64 cq] rfl rfl rfl rfl rfl (fun _ => ⟨_, rfl, new_cells_at _ _ _ _ (by first | rfl | simp)⟩) (ints_one [cq]) (by simp only [maxLen]; omega) (by omega) ?_; intro a8 c8 w8 h8)
                          go_roundw
                          case rel => exact ⟨q + 1, by omega, by go_num, by rw [HSN.out]; exact ints_push h8⟩
                          case measure => simp [intOf]; omega
                      · have hqe : q = dl.length := by omega
                        subst hqe
                        rw [List.take_length] at hr ⊢
                        go_wp2_with fail
                        go_roundw
                        case rel => exact ⟨j + 1, nv + 1, value, filled, true, dl.filter (fun c => decide (c ≠ cl)), by omega, by omega, by omega, Nat.le_trans (List.length_filter_le _ _) (by omega), by go_num, rfl, rfl, rfl, (fh_more (hr.swap.drop.swap.drop).swap (Nat.le_succ j) (Nat.le_refl _)).swap⟩
                        case measure => simp [intOf]; omega
                  | false =>
                    simp only [Bool.false_or] at h6
                    have d7 : w6.cell? ⟨og, 7, none⟩ = some (.slice na names.length nc) := h6.swap.cell 7
                    have CM : Hid (Calls Try.prog 13 #[.slice na names.length nc, .slice (some ⟨g5, 0, none⟩) 2 2] w6 fun e w' => e = .returned (.bool (meetB names rds)) ∧ Sat (World.env W) w' (FH b j (nv + 1) value filled (meetB names rds) (dl.filter (fun c => decide (c ≠ cl))) * ((blk og (.cells #[.int .i64 kd, .string y.db, .string y.ro, .int .i64 y.fm, .string y.nm, .string v, .int .i64 cl, .slice na names.length nc, .int .i64 now, .int .i64 ep, .slice sa snames.length sc, .slice ia il ic] 34 (0, 0))) * (Ints (.slice da dl.length dc) dl * ((blk o10 (.cells #[.string ⟨#[]⟩, .string ⟨#[]⟩, .int .i64 0, .string ⟨#[113]⟩] 30 (0, 0))) * ((Strs (.slice (some ⟨g5, 0, none⟩) 2 2) rds) * whole W)))))) :=
                      meets_any (World.env W) w6 _ na nc names (some ⟨g5, 0, none⟩) 2 rds (HNR.out.mono fun w' h' => h'.drop.drop.drop.drop.drop) ((rd_own_any (l := rds) h6.get5 _).mono fun w' h' => h'.get5) (by omega) (by decide) h6
                    clear h6
                    generalize meetB names rds = mt at *
                    go_wp2_with fail
                    refine CM.out.mono ?_
                    rintro e w7 ⟨rfl, h7⟩
                    clear d7 CM
                    go_wp2_with fail
                    go_loopw [17, 18] (fun v17 i wr => ∃ q : Nat, q ≤ dl.length ∧ i = .int .i64 q ∧ Sat (World.env W) wr (Ints v17 ((dl.take q).filter (fun c => decide (c ≠ cl))) * (Ints (.slice da dl.length dc) dl * ((blk og (.cells #[.int .i64 kd, .string y.db, .string y.ro, .int .i64 y.fm, .string y.nm, .string v, .int .i64 cl, .slice na names.length nc, .int .i64 now, .int .i64 ep, .slice sa snames.length sc, .slice ia il ic] 34 (0, 0))) * (FH b j (nv + 1) value filled mt (dl.filter (fun c => decide (c ≠ cl))) * ((blk o10 (.cells #[.string ⟨#[]⟩, .string ⟨#[]⟩, .int .i64 0, .string ⟨#[113]⟩] 30 (0, 0))) * ((Strs (.slice (some ⟨g5, 0, none⟩) 2 2) rds) * whole W))))))) (fun _ i _ => dl.length - (intOf i).toNat)
                    case atStart => exact ⟨0, Nat.zero_le _, rfl, own_nil (h7.of_eq (by ac_rfl))⟩
                    case round =>
                      clear h7
                      obtain ⟨q, hq, rfl, hr⟩ := hrel
                      obtain ⟨ra, rc, rfl⟩ := IntsC _ _ _ _ _ hr
                      by_cases hql : q < dl.length
                      · have hql' : (q : Int) < dl.length := by omega
                        obtain ⟨gd, rfl, _, dq⟩ := ints_get hr.swap q hql
                        have hsn : (dl.take (q + 1)).filter (fun c => decide (c ≠ cl)) = if dl[q] = cl then (dl.take q).filter (fun c => decide (c ≠ cl)) else (dl.take q).filter (fun c => decide (c ≠ cl)) ++ [dl[q]] := by
                          have h1 : dl.take (q + 1) = dl.take q ++ [dl[q]] := by rw [List.take_succ]; simp [hql]
                          rw [h1, List.filter_append]
                          by_cases e : dl[q] = cl <;> simp [e]
                        have hfl : ((dl.take q).filter (fun c => decide (c ≠ cl))).length ≤ 50 := Nat.le_trans (List.length_filter_le _ _) (by rw [List.length_take]; omega)
                        have HSN := Lib.hid hsn
                        clear hsn
                        have HDQ : Hid (∀ {w' : World} {R' : Assn}, Sat (World.env W) w' (Ints (.slice (some ⟨gd, 0, none⟩) dl.length dc) dl * R') → w'.cell? ⟨gd, q, none⟩ = some (.int .i64 dl[q])) := by
                          unfold Hid
                          intro w' R' h'
                          obtain ⟨g2, e2, _, hc⟩ := ints_get h' q hql
                          simp only [Option.some.injEq, Addr.mk.injEq, and_true] at e2
                          subst e2
                          exact hc
                        generalize dl[q] = cq at *
                        generalize (dl.take q).filter (fun c => decide (c ≠ cl)) = fl at *
                        have d6 : wr.cell? ⟨og, 6, none⟩ = some (.int .i64 cl) := hr.get3.cell 6
                        go_upto_region 44 with fail
                        go_quiet (fail)
                        replace hr := hr.drewN nq
                        clear d6 dq
                        generalize wr.drewN nq = w9 at *
                        have dq : w9.cell? ⟨gd, q, none⟩ = some (.int .i64 cq) := HDQ.out hr.swap
                        by_cases hc : cq = cl
                        · have hne : (cq != cl) = false := by simp [hc]
                          have HX := Lib.hid hc
                          rw [if_pos hc] at HSN
                          clear hc
                          go_wp2_with fail
                          go_roundw
                          case rel => exact ⟨q + 1, by omega, by go_num, by rw [HSN.out]; exact hr⟩
                          case measure => simp [intOf]; omega
                        · have hne : (cq != cl) = true := by simp [hc]
                          have HX := Lib.hid hc
                          rw [if_neg hc] at HSN
                          clear hc
                          go_upto_region 45 with fail
                          go_wp2_with (at_builtin; refine wpList_append_sat TInts (hr.alloc' _) (.tmp 161) (.tmp 166) _ 1 1 [.int .i64 cq] rfl rfl rfl rfl rfl (fun _ => ⟨_, rfl, new_cells_at _ _ _ _ (by first | rfl | simp)⟩) (ints_one [cq]) (by simp only [maxLen]; omega) (by omega) ?_; intro a8 c8 w8 h8)
                          go_roundw
                          case rel => exact ⟨q + 1, by omega, by go_num, by rw [HSN.out]; exact ints_push h8⟩
                          case measure => simp [intOf]; omega
                      · have hqe : q = dl.length := by omega
                        subst hqe
                        rw [List.take_length] at hr ⊢
                        go_wp2_with fail
                        go_roundw
                        case rel => exact ⟨j + 1, nv + 1, value, filled, mt, dl.filter (fun c => decide (c ≠ cl)), by omega, by omega, by omega, Nat.le_trans (List.length_filter_le _ _) (by omega), by go_num, rfl, rfl, rfl, (fh_more (hr.swap.drop.swap.drop).swap (Nat.le_succ j) (Nat.le_refl _)).swap⟩
                        case measure => simp [intOf]; omega
              · have q5 : (kd == 5) = false := by simpa using k5
                by_cases k6 : kd = 6
                · as_aux_lemma =>
                    have q6 : (kd == 6) = true := by rw [k6]; rfl
                    clear k3 k4 k5 k6
                    go_wp2_with fail
                    refine (fh_all (World.env W) w5 _ b j nv value filled changed dl (by omega) hs).mono ?_
                    rintro e w6 ⟨rfl, h6⟩
                    clear d0 hs
                    go_wp2_with fail
                    go_roundw
                    case rel => exact ⟨j + 1, nv + 1, value, filled, true, dl, by omega, by omega, by omega, by omega, by go_num, rfl, rfl, rfl, (fh_more h6 (Nat.le_succ j) (Nat.le_refl _)).swap.drop.swap⟩
                    case measure => simp [intOf]; omega
                · as_aux_lemma =>
                    have q6 : (kd == 6) = false := by simpa using k6
                    clear k3 k4 k5 k6
                    go_wp2_with fail
                    go_roundw
                    case rel => exact ⟨j + 1, nv, value, filled, changed, dl, by omega, by omega, by omega, by omega, by go_num, rfl, rfl, rfl, (fh_more hs (Nat.le_succ j) (Nat.le_refl _)).swap.drop.swap⟩
                    case measure => simp [intOf]; omega
    · have hlt' : ¬ (j : Int) < len ∨ ((j : Int) < len ∧ ¬ (j : Int) < 50) := by omega
      clear hlt
      rcases hlt' with hq | ⟨hq, hq2⟩
      all_goals
        go_wp2_with fail
        refine (known15_any _ _ _ hr.drop.drop.drop.drop).mono ?_
        rintro e w2 ⟨rfl, h2⟩
        go_wp2_with fail
        go_ret
        exact ⟨rfl, h2.below⟩

end Go.Proofs.Ytbeidnddahglbaa
