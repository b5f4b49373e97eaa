/- The law FillAll, walked: when all may have changed nothing that was kept is told any more. -/
import Derived.Test.YtbeidnddahglbaaFillM
namespace Go.Proofs.Ytbeidnddahglbaa
set_option linter.all false
open Go Go.RowKit

section
variable (k : Env) (w : World) (R : Assn) (b n nv : Nat) (V : VS) (A : Ky → Prop)
theorem fa_new (h : Sat k w R) :
    Calls Try.prog 7 #[.int .i64 4000, .int .i64 1000, .int .i64 1000, .int .i64 99] w fun e w' => ∃ b, e = .returned (.tuple #[pq b, .int .i64 0]) ∧ Sat k w' (FA b 0 0 VS.new (fun _ => False) * R) :=
  (fnew_any k w R 4000 1000 1000 99 (by omega) (by omega) (by omega) (by omega) (by omega) (by omega) (by omega) (by omega) h).mono fun e w' ⟨b, p, q⟩ => ⟨b, p, fa_close q ⟨⟨_, Good.nil _ _ _ _⟩, ⟨rfl, rfl, rfl, rfl⟩, by simp, fun z => by simp [mget], fun z s hz => by cases hz⟩⟩
theorem fa_start (h : Sat k w (FA b n nv V A * R)) :
    Calls Try.prog 10 #[pq b, .slice none 0 0] w fun e w' => ∃ s : StM, e = .returned s.v ∧ s.ep = V.ep ∧ s.names = [] ∧ s.nums = [] ∧ Sat k w' (stampS s * (FA b n nv V A * R)) := by
  obtain ⟨c, S, h1, h2⟩ := fa_open h
  exact (fstart_any k w R b n nv c V S none 0 [] (rd_nil _ _ _) (by simp) h2).mono fun e w' ⟨s, p1, p2, p3, p4, q⟩ => ⟨s, p1, p2, p3, p4, (fa_close q.swap h1).swap⟩
theorem fa_all (hn : nv < 1000000000) (h : Sat k w (FA b n nv V A * R)) :
    Calls Try.prog 15 #[pq b] w fun e w' => e = .returned (.tuple #[]) ∧ Sat k w' (FA b n (nv + 1) V.all A * R) := by
  obtain ⟨c, S, h1, h2⟩ := fa_open h
  exact (fall_any k w R b n nv c V S hn h2).mono fun e w' ⟨p, q⟩ => ⟨p, fa_close q h1⟩
theorem fa_mono {B : Ky → Prop} {k : Env} {w : World} {R : Assn} {b n nv : Nat} {V : VS} {A : Ky → Prop} (h : Sat k w (FA b n nv V A * R)) (hm : ∀ z, A z → B z) : Sat k w (FA b n nv V B * R) := by
  obtain ⟨c, S, h1, h2⟩ := fa_open h
  exact fa_close h2 (h1.mono hm)
end

set_option maxRecDepth 100000 in
set_option maxHeartbeats 16000000 in
theorem walkFillAll (W : World) (a : Option Addr) (len cap : Nat) (xs : List (List Value)) (z : IsRecs W a len cap 4 okKyc xs) :
    Calls Try.prog 5 #[.slice a len cap] W fun e w' => e = .returned (.bool true) ∧ Below W.heap.size W w' := by
  go_enter Try.func5, Try.ntmps5
  go_wp2_with fail
  refine (fa_new _ W (whole W) (Sat.whole W)).mono ?_
  rintro e w1 ⟨b, rfl, h1⟩
  by_cases h12 : len ≤ 12
  · have h12' : ¬ (12 : Int) < len := by omega
    go_wp2_with fail
    go_loopw [5] (fun i wr => ∃ j : Nat, j ≤ len ∧ i = .int .i64 j ∧ Sat (World.env W) wr (FA b j 0 VS.new (fun y => ∃ q, q < j ∧ xs[q]? = some (kyc y)) * whole W)) (fun i _ => len - (intOf i).toNat)
    case atStart => exact ⟨0, Nat.zero_le _, rfl, fa_mono h1 (fun _ h => h.elim)⟩
    case round =>
      clear h1
      obtain ⟨j, hj, rfl, hr⟩ := hrel
      by_cases hlt : j < len
      · have hlt' : (j : Int) < len := by omega
        obtain ⟨g, o, cs, rfl, hxj, _, ⟨y, rfl, hok⟩, hcs⟩ := rec_at z (by decide) j hlt
        obtain ⟨hg, c0⟩ := whole_at hr.drop (hcs 0 (by decide))
        obtain ⟨_, c1⟩ := whole_at hr.drop (hcs 1 (by decide))
        obtain ⟨_, c2⟩ := whole_at hr.drop (hcs 2 (by decide))
        obtain ⟨_, c3⟩ := whole_at hr.drop (hcs 3 (by decide))
        simp only [Nat.add_zero] at c0
        have HCS : Hid (∀ w' : World, Sat (World.env W) w' (whole W) → w'.cell? ⟨g, o + j * 4, none⟩ = some (.string y.db) ∧ w'.cell? ⟨g, o + j * 4 + 1, none⟩ = some (.string y.ro) ∧ w'.cell? ⟨g, o + j * 4 + 2, none⟩ = some (.int .i64 y.fm) ∧ w'.cell? ⟨g, o + j * 4 + 3, none⟩ = some (.string y.nm)) :=
          fun w' h' => ⟨(whole_at h' (hcs 0 (by decide))).2, (whole_at h' (hcs 1 (by decide))).2, (whole_at h' (hcs 2 (by decide))).2, (whole_at h' (hcs 3 (by decide))).2⟩
        clear c0 c1 c2 c3 hcs
        obtain ⟨c0, c1, c2, c3⟩ := HCS.out wr hr.drop
        have HXJ := Lib.hid hxj
        clear hxj
        obtain ⟨s0, s1, s2, _⟩ := hok
        have hw1 : IntKind.i64.wrap ((y.db.size : Int) + y.ro.size) = y.db.size + y.ro.size := IntWalk.i64_in _ (by omega)
        have hw2 : IntKind.i64.wrap ((y.db.size : Int) + y.ro.size + y.nm.size) = y.db.size + y.ro.size + y.nm.size := IntWalk.i64_in _ (by omega)
        go_upto_region 7 with fail
        go_quiet (fail)
        replace hr := hr.drewN nq
        generalize wr.drewN nq = w2 at *
        clear c0 c1 c2 c3
        by_cases hsz : y.db.size + y.ro.size + y.nm.size ≤ 60
        · have hsz' : ¬ (60 : Int) < y.db.size + y.ro.size + y.nm.size := by omega
          go_upto_region 9 with fail
          obtain ⟨c0, c1, c2, c3⟩ := HCS.out w2 hr.drop
          have CS := Lib.hid (fa_start _ w2.drew _ b j 0 VS.new _ hr.drew)
          go_region_held3 (fun w' => w'.cell? ⟨g, o + j * 4, none⟩ = some (.string y.db) ∧ w'.cell? ⟨g, o + j * 4 + 1, none⟩ = some (.string y.ro) ∧ w'.cell? ⟨g, o + j * 4 + 2, none⟩ = some (.int .i64 y.fm) ∧ w'.cell? ⟨g, o + j * 4 + 3, none⟩ = some (.string y.nm))
            (first | exact ⟨c0, c1, c2, c3⟩ | exact HCS.out _ h3.drop.drop | exact HCS.out _ h4.drop.drop | fail)
            (first | (go_at_call 10; (with_reducible refine CS.out.mono ?_); rintro e w3 ⟨⟨ep, sa, ac, names, si, ic, nums⟩, rfl, p1, p2, p3, h3⟩; simp only at p1 p2 p3; simp only [StM.v]; have CFI := Lib.hid (fa_fill _ w3 _ b j 0 _ y ep sa si ac ic names nums p1 p2 p3 hsz (by omega) h3.swap); unfold kyV at CFI; clear p1 p2 p3) | (go_at_call 9; (with_reducible refine CFI.out.mono ?_); rintro e w4 ⟨tb, er, rfl, h4⟩) | fail)
          go_wp2_with fail
          go_roundw
          case rel =>
            refine ⟨j + 1, by omega, by go_num, fa_mono h4.swap.drop ?_⟩
            rintro y' (⟨q, hq, hx⟩ | rfl)
            · exact ⟨q, by omega, hx⟩
            · exact ⟨j, by omega, HXJ.out⟩
          case measure => simp [intOf]; omega
        · have hsz' : (60 : Int) < y.db.size + y.ro.size + y.nm.size := by omega
          go_wp2_with fail
          refine (known15_any _ _ _ hr.drop).mono ?_
          rintro e w5 ⟨rfl, h5⟩
          go_wp2_with fail
          go_ret
          exact ⟨rfl, h5.below⟩
      · have hjl : j = len := by omega
        subst hjl
        go_wp2_with fail
        refine (fa_all _ wr _ b _ 0 VS.new _ (by omega) hr).mono ?_
        rintro e w2 ⟨rfl, h2⟩
        clear hr
        go_wp2_with fail
        go_loopw [6] (fun i wr => ∃ q : Nat, q ≤ j ∧ i = .int .i64 q ∧ Sat (World.env W) wr (FA b j (0 + 1) VS.new.all (fun y => ∃ u, u < j ∧ q ≤ u ∧ xs[u]? = some (kyc y)) * whole W)) (fun i _ => j - (intOf i).toNat)
        case atStart => exact ⟨0, Nat.zero_le _, rfl, fa_mono h2 (fun y ⟨q, h1, h2⟩ => ⟨q, h1, Nat.zero_le _, h2⟩)⟩
        case round =>
          clear h2
          obtain ⟨q, hq, rfl, hr⟩ := hrel
          by_cases hlt2 : q < j
          · have hlt' : (q : Int) < j := by omega
            obtain ⟨g, o, cs, rfl, hxj, _, ⟨y, rfl, hok⟩, hcs⟩ := rec_at z (by decide) q hlt2
            obtain ⟨hg, c0⟩ := whole_at hr.drop (hcs 0 (by decide))
            obtain ⟨_, c1⟩ := whole_at hr.drop (hcs 1 (by decide))
            obtain ⟨_, c2⟩ := whole_at hr.drop (hcs 2 (by decide))
            obtain ⟨_, c3⟩ := whole_at hr.drop (hcs 3 (by decide))
            simp only [Nat.add_zero] at c0
            have d0 : wr.cell? ⟨g, o + q * 4, none⟩ = some (.string y.db) := c0
            have d1 : wr.cell? ⟨g, o + q * 4 + 1, none⟩ = some (.string y.ro) := c1
            have d2 : wr.cell? ⟨g, o + q * 4 + 2, none⟩ = some (.int .i64 y.fm) := c2
            have d3 : wr.cell? ⟨g, o + q * 4 + 3, none⟩ = some (.string y.nm) := c3
            have HXJ := Lib.hid hxj
            clear hxj hcs c0 c1 c2 c3
            go_wp2_with fail
            refine (fa_look _ wr _ b j (0 + 1) _ y (by omega) hr).mono ?_
            rintro e w3 ⟨rfl, h3⟩
            go_wp2_with fail
            go_roundw
            case rel =>
              refine ⟨q + 1, by omega, by go_num, fa_mono h3 ?_⟩
              rintro y' ⟨⟨u, hu1, hu2, hu3⟩, hne⟩
              refine ⟨u, hu1, ?_, hu3⟩
              rcases Nat.lt_or_ge q u with hqu | hqu
              · omega
              · have : u = q := by omega
                subst this
                rw [HXJ.out] at hu3
                simp only [Option.some.injEq, kyc, List.cons.injEq, Value.string.injEq, Value.int.injEq, and_true, true_and] at hu3
                exact absurd (by obtain ⟨h1, h2, h3, h4⟩ := hu3; cases y; cases y'; simp_all) hne
            case measure => simp [intOf]; omega
          · have hql : q = j := by omega
            subst hql
            go_wp2_with fail
            refine (fa_size _ wr _ b _ _ _ (fun y ⟨u, h1, h2, _⟩ => by omega) _ hr).mono ?_
            rintro e w3 ⟨rfl, h3⟩
            go_wp2_with fail
            refine (known15_any _ _ _ h3.drop).mono ?_
            rintro e w5 ⟨rfl, h5⟩
            go_wp2_with fail
            go_ret
            exact ⟨rfl, h5.below⟩
  · have h12' : (12 : Int) < len := by omega
    go_wp2_with fail
    refine (known15_any _ _ _ h1.drop).mono ?_
    rintro e w5 ⟨rfl, h5⟩
    go_wp2_with fail
    go_ret
    exact ⟨rfl, h5.below⟩

end Go.Proofs.Ytbeidnddahglbaa
