/- The law CacheFresh, walked. -/
import Derived.Test.YtlilogcojeoelaaCacheFr
import Derived.OpenShut
namespace Go.Proofs.Ytlilogcojeoelaa
set_option linter.all false
open Go Go.RowKit

theorem cg_more2 {k : Env} {w : World} {b n : Nat} {al kp mo ttl : Int} {p : Pu} {P R : Assn} (h : Sat k w (P * (CacheG b al kp mo ttl p n * R))) : Sat k w (P * (CacheG b al kp mo ttl p (n + 1) * R)) := by
  obtain ⟨c, h1, h2, h3⟩ := cg_open h.swap
  exact (cg_close (ca_more h3) h1 h2).swap

set_option maxRecDepth 100000 in
set_option maxHeartbeats 16000000 in
theorem walkCacheFresh (W : World) (a1 : Int) (w1 : (Lit.int .u8 a1).wf = true) (tt : Int) (w2 : (Lit.int .u8 tt).wf = true) (a : Option Addr) (len cap : Nat) (xs : List (List Value)) (z : IsRecs W a len cap 7 okOp xs) :
    Calls Try.prog 4 #[.int .u8 a1, .int .u8 tt, .slice a len cap] W fun e w' => e = .returned (.bool true) ∧ Below W.heap.size W w' := by
  obtain ⟨p0, p1⟩ := bounds_u8 w1
  obtain ⟨q0, q1⟩ := bounds_u8 w2
  clear w1 w2
  go_enter Try.func4, Try.ntmps4
  go_wp2_with fail
  refine (cnew_any _ W (whole W) (40 + a1) 20 40 (1 + tt) (by omega) (by omega) (by omega) (by omega) (by omega) (by omega) (by omega) (by omega) (Sat.whole W)).mono ?_
  rintro e w3 ⟨b, rfl, h1⟩
  have h1 := cg_close h1 (Good.nil _ _ _ _) ⟨rfl, rfl, rfl, rfl⟩
  go_wp2_with fail
  go_loopw [9, 10] (fun v9 i wr => ∃ (j : Nat) (l : List OpC), j ≤ len ∧ j ≤ 50 ∧ i = .int .i64 j ∧ l.length ≤ j ∧ Hid (∀ o ∈ l, 0 ≤ o.now ∧ o.now ≤ 549755813888) ∧ Sat (World.env W) wr (RecS EOp 43 v9 l * (CacheG b (40 + a1) 20 40 (1 + tt) (puO l) j * whole W))) (fun _ i _ => 50 - (intOf i).toNat)
  case atStart => exact ⟨0, [], Nat.zero_le _, Nat.zero_le _, rfl, Nat.zero_le _, (fun o ho => by cases ho), rec_nil h1⟩
  case round =>
    clear h1
    obtain ⟨j, l, hj, hj2, rfl, hll, HN, hr⟩ := hrel
    obtain ⟨va, vc, rfl⟩ := rec_val hr
    by_cases hlt : j < len ∧ j < 50
    · obtain ⟨hlt, hlt2⟩ := hlt
      obtain ⟨g, o, cs, rfl, _, _, ⟨oo, rfl, hok, hvs, hwn⟩, hcs⟩ := rec_at z (by decide) j hlt
      obtain ⟨kd, y, vv, now⟩ := oo
      simp only at hok hvs hwn
      obtain ⟨hg, c0⟩ := whole_at hr.drop.drop (hcs 0 (by decide))
      obtain ⟨_, c1⟩ := whole_at hr.drop.drop (hcs 1 (by decide))
      obtain ⟨_, c2⟩ := whole_at hr.drop.drop (hcs 2 (by decide))
      obtain ⟨_, c3⟩ := whole_at hr.drop.drop (hcs 3 (by decide))
      obtain ⟨_, c4⟩ := whole_at hr.drop.drop (hcs 4 (by decide))
      obtain ⟨_, c5⟩ := whole_at hr.drop.drop (hcs 5 (by decide))
      obtain ⟨_, c6⟩ := whole_at hr.drop.drop (hcs 6 (by decide))
      simp only [Nat.add_zero] at c0
      clear hcs
      obtain ⟨n1, n2⟩ := bounds_i64 hwn
      have SH := Lib.hid (fun w' R' => short_any (World.env W) w' R' y hok)
      have HT : Hid (y.db.size + y.ro.size + y.nm.size ≤ 500 → tiny y) := fun q => by unfold tiny; omega
      have HY : Hid ((⟨y.db, y.ro, y.fm, y.nm⟩ : Ky) = y) := rfl
      unfold kyV at SH
      have h3 := hr.alloc (.cells #[.int .i64 kd, .string y.db, .string y.ro, .int .i64 y.fm, .string y.nm, .string vv, .int .i64 now] 43)
      go_upto_region 9 with fail
      generalize wr.alloc (.cells #[.int .i64 kd, .string y.db, .string y.ro, .int .i64 y.fm, .string y.nm, .string vv, .int .i64 now] 43) = w4 at *
      generalize wr.heap.size = og at *
      clear hr hg c0 c1 c2 c3 c4 c5 c6 hwn
      replace h3 := h3.put3
      have c1 : w4.cell? ⟨og, 1, none⟩ = some (.string y.db) := h3.get3.cell 1
      have c2 : w4.cell? ⟨og, 2, none⟩ = some (.string y.ro) := h3.get3.cell 2
      have c3 : w4.cell? ⟨og, 3, none⟩ = some (.int .i64 y.fm) := h3.get3.cell 3
      have c4 : w4.cell? ⟨og, 4, none⟩ = some (.string y.nm) := h3.get3.cell 4
      by_cases hsh : y.db.size + y.ro.size + y.nm.size ≤ 500
      · have ht := HT.out hsh
        rw [decide_eq_true hsh] at SH
        by_cases hvl : vv.size ≤ 500
        · have hvl' : ¬ (500 : Int) < vv.size := by omega
          go_upto_region 10 with (go_at_call 8; (with_reducible refine (SH.out w4 _ h3).mono ?_); rintro e w5 ⟨rfl, h5⟩; have c5 : w5.cell? ⟨og, 5, none⟩ = some (.string vv) := h5.get3.cell 5)
          clear c1 c2 c3 c4 c5 h3 SH
          have c0 : w5.cell? ⟨og, 0, none⟩ = some (.int .i64 kd) := h5.get3.cell 0
          have c1 : w5.cell? ⟨og, 1, none⟩ = some (.string y.db) := h5.get3.cell 1
          have c2 : w5.cell? ⟨og, 2, none⟩ = some (.string y.ro) := h5.get3.cell 2
          have c3 : w5.cell? ⟨og, 3, none⟩ = some (.int .i64 y.fm) := h5.get3.cell 3
          have c4 : w5.cell? ⟨og, 4, none⟩ = some (.string y.nm) := h5.get3.cell 4
          have c5 : w5.cell? ⟨og, 5, none⟩ = some (.string vv) := h5.get3.cell 5
          have c6 : w5.cell? ⟨og, 6, none⟩ = some (.int .i64 now) := h5.get3.cell 6
          go_upto_if 60 with fail
          go_cut [9] (fun v9 wx => ∃ l' : List OpC, l'.length ≤ j + 1 ∧ Hid (∀ o ∈ l', 0 ≤ o.now ∧ o.now ≤ 549755813888) ∧ Sat (World.env W) wx (RecS EOp 43 v9 l' * (CacheG b (40 + a1) 20 40 (1 + tt) (puO l') (j + 1) * (blk og (.cells #[.int .i64 kd, .string y.db, .string y.ro, .int .i64 y.fm, .string y.nm, .string vv, .int .i64 now] 43 (0, 0)) * whole W))))
          case first =>
            by_cases k0 : kd = 0
            · subst k0
              go_wp2_with fail
              refine (cput_good _ w5 _ b j (40 + a1) 20 40 (1 + tt) (puO l) y vv now ht (by omega) (by omega) (by omega) (by omega) h5.swap).mono ?_
              rintro e w6 ⟨v', er, rfl, hor⟩
              rcases hor with ⟨rfl, hn0, hn1, g6⟩ | ⟨hne, g6⟩
              · clear c0 c1 c2 c3 c4 c5 c6 h5
                have c0 : w6.cell? ⟨og, 0, none⟩ = some (.int .i64 0) := g6.get3.cell 0
                have c1 : w6.cell? ⟨og, 1, none⟩ = some (.string y.db) := g6.get3.cell 1
                have c2 : w6.cell? ⟨og, 2, none⟩ = some (.string y.ro) := g6.get3.cell 2
                have c3 : w6.cell? ⟨og, 3, none⟩ = some (.int .i64 y.fm) := g6.get3.cell 3
                have c4 : w6.cell? ⟨og, 4, none⟩ = some (.string y.nm) := g6.get3.cell 4
                have c5 : w6.cell? ⟨og, 5, none⟩ = some (.string vv) := g6.get3.cell 5
                have c6 : w6.cell? ⟨og, 6, none⟩ = some (.int .i64 now) := g6.get3.cell 6
                have HN2 : Hid (∀ o ∈ l ++ [(⟨0, y, vv, now⟩ : OpC)], 0 ≤ o.now ∧ o.now ≤ 549755813888) := by
                  intro o ho
                  rcases List.mem_append.1 ho with ho | ho
                  · exact HN.out o ho
                  · rw [List.mem_singleton] at ho; subst ho; exact ⟨hn0, hn1⟩
                go_wp2_with (at_builtin; refine wpList_append_sat TOp (g6.swap.alloc' _) (.tmp 74) (.tmp 76) _ 1 1 (opc ⟨0, y, vv, now⟩) rfl rfl rfl rfl rfl (fun _ => ⟨_, rfl, new_cells_at _ _ _ _ (by first | rfl | simp)⟩) (EOp.one ⟨0, y, vv, now⟩) (by simp [maxLen]; omega) (by omega) ?_; intro a7 c7 w7 h7)
                go_meet
                case rel => exact ⟨l ++ [⟨0, y, vv, now⟩], by simp; omega, HN2, (rec_push (E := EOp) h7).of_eq (by simp [puO])⟩
              · have hne' : (er == 0) = false := by simpa using hne
                go_wp2_with fail
                go_meet
                case rel => exact ⟨l, by omega, HN, g6.swap⟩
            · have k0' : (kd == 0) = false := by simpa using k0
              go_wp2_with fail
              go_meet
              case rel => exact ⟨l, by omega, HN, cg_more2 h5⟩
          case rest =>
            clear c0 c1 c2 c3 c4 c5 c6 h5 HN
            obtain ⟨l', hl', HN, h6⟩ := hcut
            obtain ⟨va', vc', rfl⟩ := rec_val h6
            have c0 : wc.cell? ⟨og, 0, none⟩ = some (.int .i64 kd) := h6.get3.cell 0
            have c1 : wc.cell? ⟨og, 1, none⟩ = some (.string y.db) := h6.get3.cell 1
            have c2 : wc.cell? ⟨og, 2, none⟩ = some (.string y.ro) := h6.get3.cell 2
            have c3 : wc.cell? ⟨og, 3, none⟩ = some (.int .i64 y.fm) := h6.get3.cell 3
            have c4 : wc.cell? ⟨og, 4, none⟩ = some (.string y.nm) := h6.get3.cell 4
            have c5 : wc.cell? ⟨og, 5, none⟩ = some (.string vv) := h6.get3.cell 5
            have c6 : wc.cell? ⟨og, 6, none⟩ = some (.int .i64 now) := h6.get3.cell 6
            go_upto_if 80 with fail
            go_cut [] (fun wx => Sat (World.env W) wx (RecS EOp 43 (.slice va' l'.length vc') l' * (CacheG b (40 + a1) 20 40 (1 + tt) (puO l') (j + 1) * (blk og (.cells #[.int .i64 kd, .string y.db, .string y.ro, .int .i64 y.fm, .string y.nm, .string vv, .int .i64 now] 43 (0, 0)) * whole W))))
            case first =>
              by_cases k1 : kd = 1
              · subst k1
                go_wp2_with fail
                refine (cget_good _ wc _ b (j + 1) (40 + a1) 20 40 (1 + tt) (puO l') y now (by omega) h6.swap).mono ?_
                rintro e w7 ⟨v, is, rfl, hf, g7⟩
                have HF := Lib.hid (okAt_all hf)
                clear hf c0 c1 c2 c3 c4 c5 c6 h6
                go_wp2_with fail
                go_loopw [16, 17] (fun s16 s17 wr => ∃ q : Nat, q ≤ l'.length ∧ s17 = .int .i64 q ∧ s16 = .bool (okAt (l'.take q) y v is (1 + tt) now) ∧ Sat (World.env W) wr (RecS EOp 43 (.slice va' l'.length vc') l' * (CacheG b (40 + a1) 20 40 (1 + tt) (puO l') (j + 1) * (blk og (.cells #[.int .i64 1, .string y.db, .string y.ro, .int .i64 y.fm, .string y.nm, .string vv, .int .i64 now] 43 (0, 0)) * whole W)))) (fun _ s17 _ => l'.length - (intOf s17).toNat)
                case atStart => exact ⟨0, Nat.zero_le _, rfl, rfl, g7.swap⟩
                case round =>
                  clear g7
                  obtain ⟨q, hq, rfl, rfl, g8⟩ := hrel
                  by_cases hql : q < l'.length
                  · obtain ⟨gp, rfl, hgl, dq⟩ := rec_get g8 (by decide) q hql
                    have hsn : l'.take (q + 1) = l'.take q ++ [l'[q]] := by rw [List.take_succ]; simp [hql]
                    have hnb := HN.out l'[q] (List.getElem_mem hql)
                    have HS : Hid (okAt (l'.take (q + 1)) y v is (1 + tt) now = if l'[q].y = y then (!is || (decide (l'[q].v = v) && decide (now < l'[q].now + (1 + tt)))) else okAt (l'.take q) y v is (1 + tt) now) := by
                      unfold Hid
                      rw [hsn, okAt_snoc]
                    have D : Hid (∀ {w' : World} {R' : Assn}, Sat (World.env W) w' (RecS EOp 43 (.slice (some ⟨gp, 0, none⟩) l'.length vc') l' * R') → ∀ i, i < 7 → w'.cell? ⟨gp, q * 7 + i, none⟩ = (opc l'[q])[i]?) := by
                      unfold Hid
                      intro w' R' h' i hi
                      obtain ⟨g2, e2, _, h2⟩ := rec_get h' (by decide) q hql
                      simp only [Option.some.injEq, Addr.mk.injEq, and_true] at e2
                      subst e2
                      exact h2 i hi
                    clear dq hsn
                    have hq7 : (q : Int) < l'.length := by omega
                    generalize l'[q] = oq at *
                    obtain ⟨kq, yq, vq, nwq⟩ := oq
                    simp only at hnb
                    obtain ⟨hb0, hb1⟩ := hnb
                    simp only [opc] at D
                    have hw9 : IntKind.i64.wrap (nwq + 1) = nwq + 1 := IntWalk.i64_in _ (by omega)
                    have hw10 : IntKind.i64.wrap (nwq + 1 + (1 + tt)) = nwq + 1 + (1 + tt) := IntWalk.i64_in _ (by omega)
                    have hw11 : IntKind.i64.wrap (nwq + 1 + tt) = nwq + 1 + tt := IntWalk.i64_in _ (by omega)
                    have d0 : wr.cell? ⟨gp, q * 7 + 1, none⟩ = some (.string yq.db) := D.out g8 1 (by decide)
                    have d1 : wr.cell? ⟨gp, q * 7 + 2, none⟩ = some (.string yq.ro) := D.out g8 2 (by decide)
                    have d2 : wr.cell? ⟨gp, q * 7 + 3, none⟩ = some (.int .i64 yq.fm) := D.out g8 3 (by decide)
                    have d3 : wr.cell? ⟨gp, q * 7 + 4, none⟩ = some (.string yq.nm) := D.out g8 4 (by decide)
                    have d4 : wr.cell? ⟨gp, q * 7 + 5, none⟩ = some (.string vq) := D.out g8 5 (by decide)
                    have d5 : wr.cell? ⟨gp, q * 7 + 6, none⟩ = some (.int .i64 nwq) := D.out g8 6 (by decide)
                    have c1 : wr.cell? ⟨og, 1, none⟩ = some (.string y.db) := g8.get3.cell 1
                    have c2 : wr.cell? ⟨og, 2, none⟩ = some (.string y.ro) := g8.get3.cell 2
                    have c3 : wr.cell? ⟨og, 3, none⟩ = some (.int .i64 y.fm) := g8.get3.cell 3
                    have c4 : wr.cell? ⟨og, 4, none⟩ = some (.string y.nm) := g8.get3.cell 4
                    have c6 : wr.cell? ⟨og, 6, none⟩ = some (.int .i64 now) := g8.get3.cell 6
                    by_cases hy : yq = y
                    · obtain rfl : y = yq := hy.symm
                      have hab := fun w => kyeq_run y y w
                      rw [decide_eq_true (rfl : y = y)] at hab
                      unfold kyV at hab
                      rw [if_pos rfl] at HS
                      go_wp2_with fail
                      go_quiet (fail)
                      replace g8 := g8.drewN nq
                      generalize wr.drewN nq = w9 at *
                      clear d0 d1 d2 d3 d4 d5 c1 c2 c3 c4 c6
                      have d0 : w9.cell? ⟨gp, q * 7 + 1, none⟩ = some (.string y.db) := D.out g8 1 (by decide)
                      have d1 : w9.cell? ⟨gp, q * 7 + 2, none⟩ = some (.string y.ro) := D.out g8 2 (by decide)
                      have d2 : w9.cell? ⟨gp, q * 7 + 3, none⟩ = some (.int .i64 y.fm) := D.out g8 3 (by decide)
                      have d3 : w9.cell? ⟨gp, q * 7 + 4, none⟩ = some (.string y.nm) := D.out g8 4 (by decide)
                      have d4 : w9.cell? ⟨gp, q * 7 + 5, none⟩ = some (.string vq) := D.out g8 5 (by decide)
                      have d5 : w9.cell? ⟨gp, q * 7 + 6, none⟩ = some (.int .i64 nwq) := D.out g8 6 (by decide)
                      have c1 : w9.cell? ⟨og, 1, none⟩ = some (.string y.db) := g8.get3.cell 1
                      have c2 : w9.cell? ⟨og, 2, none⟩ = some (.string y.ro) := g8.get3.cell 2
                      have c3 : w9.cell? ⟨og, 3, none⟩ = some (.int .i64 y.fm) := g8.get3.cell 3
                      have c4 : w9.cell? ⟨og, 4, none⟩ = some (.string y.nm) := g8.get3.cell 4
                      have c6 : w9.cell? ⟨og, 6, none⟩ = some (.int .i64 now) := g8.get3.cell 6
                      cases is
                      · go_wp2_with fail
                        go_quiet (fail)
                        replace g8 := g8.drewN nq
                        go_wp2_with fail
                        go_roundw
                        case rel => exact ⟨q + 1, by omega, by go_num, by rw [HS.out]; rfl, g8⟩
                        case measure => simp [intOf]; omega
                      · by_cases hv : vq = v
                        · obtain rfl : v = vq := hv.symm
                          have hvb : (v.toList == v.toList) = true := by simp
                          have hvd : decide (v = v) = true := decide_eq_true rfl
                          rw [hvd] at HS
                          by_cases hn : now < nwq + 1 + tt
                          · have hnd : decide (now < nwq + (1 + tt)) = true := decide_eq_true (by omega)
                            rw [hnd] at HS
                            clear hvd
                            go_wp2_with fail
                            go_quiet (fail)
                            replace g8 := g8.drewN nq
                            go_wp2_with fail
                            go_roundw
                            case rel =>
                              refine ⟨_, _, _, _, _, _, _, _, _, _, _, _, _, _, _, _, _, _, _, _, _, _, _, _, _, _, _, _, _, _, _, _, _, _, _, _, _, _, _, _, _, ?_, rfl⟩
                              exact ⟨q + 1, by omega, by go_num, by rw [HS.out]; rfl, g8⟩
                            case measure => simp [intOf]; omega
                          · have hnd : decide (now < nwq + (1 + tt)) = false := decide_eq_false (by omega)
                            rw [hnd] at HS
                            clear hvd
                            go_wp2_with fail
                            go_quiet (fail)
                            replace g8 := g8.drewN nq
                            go_wp2_with fail
                            go_roundw
                            case rel =>
                              refine ⟨_, _, _, _, _, _, _, _, _, _, _, _, _, _, _, _, _, _, _, _, _, _, _, _, _, _, _, _, _, _, _, _, _, _, _, _, _, _, _, _, _, ?_, rfl⟩
                              exact ⟨q + 1, by omega, by go_num, by rw [HS.out, decide_eq_false (Int.not_lt.2 hn)]; rfl, g8⟩
                            case measure => simp [intOf]; omega
                        · have hvb : (vq.toList == v.toList) = false := by rw [tl_beq]; exact decide_eq_false hv
                          have hvd := decide_eq_false hv
                          rw [hvd] at HS
                          clear hv hvd
                          go_wp2_with fail
                          go_quiet (fail)
                          replace g8 := g8.drewN nq
                          go_wp2_with fail
                          go_roundw
                          case rel => exact ⟨q + 1, by omega, by go_num, by rw [HS.out]; rfl, g8⟩
                          case measure => simp [intOf]; omega
                    · have hab := fun w => kyeq_run yq y w
                      rw [decide_eq_false hy] at hab
                      unfold kyV at hab
                      rw [if_neg hy] at HS
                      have HY2 := Lib.hid hy
                      clear hy
                      go_wp2_with fail
                      go_quiet (fail)
                      replace g8 := g8.drewN nq
                      go_wp2_with fail
                      go_roundw
                      case rel => exact ⟨q + 1, by omega, by go_num, by rw [HS.out], g8⟩
                      case measure => simp [intOf]; omega
                  · have hqe : q = l'.length := by omega
                    subst hqe
                    rw [List.take_length, HF.out]
                    go_wp2_with fail
                    go_meet
                    case rel => exact g8
              · have k1' : (kd == 1) = false := by simpa using k1
                go_wp2_with fail
                go_meet
                case rel => exact h6
            case rest =>
              clear c0 c1 c2 c3 c4 c5 c6 h6
              go_wp2_with fail
              refine (cbytes_good _ wc _ b (j + 1) (40 + a1) 20 40 (1 + tt) (puO l') hcut.swap).mono ?_
              rintro e w8 ⟨zz, rfl, hz, g9⟩
              have hz' : ¬ 40 + a1 < zz := by omega
              go_wp2_with fail
              go_roundw
              case rel => exact ⟨j + 1, l', by omega, by omega, by go_num, by omega, HN, g9.swap.drop3⟩
              case measure => simp [intOf]; omega
        · have hvl' : (500 : Int) < vv.size := by omega
          go_wp2_with (go_at_call 8; (with_reducible refine (SH.out w4 _ h3).mono ?_); rintro e w5 ⟨rfl, h5⟩; have c5 : w5.cell? ⟨og, 5, none⟩ = some (.string vv) := h5.get3.cell 5)
          go_roundw
          case rel => exact ⟨j + 1, l, by omega, by omega, by go_num, by omega, HN, cg_more2 h5.drop3⟩
          case measure => simp [intOf]; omega
      · rw [decide_eq_false hsh] at SH
        go_wp2_with (go_at_call 8; (with_reducible refine (SH.out w4 _ h3).mono ?_); rintro e w5 ⟨rfl, h5⟩; have c5 : w5.cell? ⟨og, 5, none⟩ = some (.string vv) := h5.get3.cell 5)
        go_roundw
        case rel => exact ⟨j + 1, l, by omega, by omega, by go_num, by omega, HN, cg_more2 h5.drop3⟩
        case measure => simp [intOf]; omega
    · have hlt' : ¬ (j : Int) < len ∨ ((j : Int) < len ∧ ¬ (j : Int) < 50) := by omega
      clear hlt
      rcases hlt' with hq | ⟨hq, hq2⟩
      all_goals
        go_wp2_with fail
        refine (known_any _ _ _ hr.drop.drop).mono ?_
        rintro e w2 ⟨rfl, h2⟩
        go_wp2_with fail
        go_ret
        exact ⟨rfl, h2.below⟩

end Go.Proofs.Ytlilogcojeoelaa
