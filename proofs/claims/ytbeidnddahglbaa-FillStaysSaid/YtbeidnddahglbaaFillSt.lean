/- The law FillStays, walked: an answer that is kept stays, whatever other tables change. -/
import Derived.Test.YtbeidnddahglbaaFillS0
import Derived.Test.YtbeidnddahglbaaStrsW
namespace Go.Proofs.Ytbeidnddahglbaa
set_option linter.all false
open Go Go.RowKit

theorem fo_start1 (k : Env) (w : World) (X : Assn) (b n nv g : Nat) (al kp mo ttl : Int) (y : Ky) (V : VS) (o : Option Kept) (x : ByteArray) (h : Sat k w (FO b n nv al kp mo ttl y V o * (Strs (.slice (some ⟨g, 0, none⟩) 1 1) [x] * X))) :
    Calls Try.prog 10 #[pq b, .slice (some ⟨g, 0, none⟩) 1 1] w fun e w' => ∃ s : StM, e = .returned s.v ∧ s.ep = V.ep ∧ s.names = [x] ∧ s.nums = [V.N x] ∧ Sat k w' (stampS s * (FO b n nv al kp mo ttl y V o * (Strs (.slice (some ⟨g, 0, none⟩) 1 1) [x] * X))) :=
  fo_start k w _ b n nv al kp mo ttl y V o (some ⟨g, 0, none⟩) 1 [x] (rd_own_any (l := [x]) h.swap X) (by simp) h

set_option maxRecDepth 100000 in
set_option maxHeartbeats 16000000 in
theorem walkFillStays (W : World) (a : Option Addr) (len cap : Nat) (xs : List (List Value)) (z : IsRecs W a len cap 1 okStr xs) (a1 : Int) (w1 : (Lit.int .u8 a1).wf = true) (a2 : Int) (w2 : (Lit.int .u8 a2).wf = true) :
    Calls Try.prog 4 #[.slice a len cap, .int .u8 a1, .int .u8 a2] W fun e w' => e = .returned (.bool true) ∧ Below W.heap.size W w' := by
  obtain ⟨p0, p1⟩ := bounds_u8 w1
  obtain ⟨q0, q1⟩ := bounds_u8 w2
  clear w1 w2
  obtain ⟨l, hll, hlb, hlr⟩ := strs_in z
  have hcap : len ≤ cap ∧ cap ≤ maxLen := by
    rcases z with ⟨_, rfl, rfl, _⟩ | ⟨_, _, h1, h2, _⟩
    · simp [maxLen]
    · exact ⟨h1, h2⟩
  clear z
  have HLR := Lib.hid hlr
  clear hlr
  go_enter Try.func4, Try.ntmps4
  go_wp2_with fail
  refine (fo_new _ W (whole W) 1000 100 100 1000 kk (by omega) (by omega) (by omega) (by omega) (by omega) (by omega) (by omega) (by omega) (Sat.whole W)).mono ?_
  rintro e w3 ⟨b, rfl, h1⟩
  by_cases h12 : len ≤ 12
  · have h12' : ¬ (12 : Int) < len := by omega
    have h2 := h1.alloc (.cells #[.string ⟨#[100]⟩, .string ⟨#[]⟩, .int .i64 0, .string ⟨#[107, 101, 112, 116]⟩] 30)
    go_upto_region 5 with fail
    generalize w3.alloc (.cells #[.string ⟨#[100]⟩, .string ⟨#[]⟩, .int .i64 0, .string ⟨#[107, 101, 112, 116]⟩] 30) = w4 at *
    generalize w3.heap.size = o9 at *
    clear h1
    obtain ⟨g6, hg6⟩ : ∃ g, w4.heap.size = g := ⟨_, rfl⟩
    have h3 := strs_lit1 (⟨#[107, 101, 112, 116]⟩ : ByteArray) h2 g6 hg6
    have CS := Lib.hid (fo_start1 _ ((w4.alloc (.cells #[.string ⟨#[107, 101, 112, 116]⟩] 9)).drew) _ b 0 0 g6 1000 100 100 1000 kk VS.new none bkept (Sat.drew h3.get3))
    have d0 : w4.cell? ⟨o9, 0, none⟩ = some (.string ⟨#[100]⟩) := h2.cell 0
    have d1 : w4.cell? ⟨o9, 1, none⟩ = some (.string ⟨#[]⟩) := h2.cell 1
    have d2 : w4.cell? ⟨o9, 2, none⟩ = some (.int .i64 0) := h2.cell 2
    have d3 : w4.cell? ⟨o9, 3, none⟩ = some (.string ⟨#[107, 101, 112, 116]⟩) := h2.cell 3
    go_region_held3 (fun w' => w'.cell? ⟨o9, 0, none⟩ = some (.string ⟨#[100]⟩) ∧ w'.cell? ⟨o9, 1, none⟩ = some (.string ⟨#[]⟩) ∧ w'.cell? ⟨o9, 2, none⟩ = some (.int .i64 0) ∧ w'.cell? ⟨o9, 3, none⟩ = some (.string ⟨#[107, 101, 112, 116]⟩))
      (first | exact ⟨d0, d1, d2, d3⟩ | exact ⟨(h3.swap.cell 0).trans rfl, (h3.swap.cell 1).trans rfl, (h3.swap.cell 2).trans rfl, (h3.swap.cell 3).trans rfl⟩ | exact ⟨(h5.get4.cell 0).trans rfl, (h5.get4.cell 1).trans rfl, (h5.get4.cell 2).trans rfl, (h5.get4.cell 3).trans rfl⟩ | exact ⟨(h6.get4.cell 0).trans rfl, (h6.get4.cell 1).trans rfl, (h6.get4.cell 2).trans rfl, (h6.get4.cell 3).trans rfl⟩ | fail)
      (first | (go_at_call 10; (with_reducible refine CS.out.mono ?_); rintro e w5 ⟨⟨ep, sa, ac, names, si, ic, nums⟩, rfl, p1, p2, p3, h5⟩; simp only at p1 p2 p3; simp only [StM.v]; have hrd := fun X => stampS_rd h5 X; have PP := Lib.hid (And.intro p1 (And.intro p2 p3)); have CFI := Lib.hid (fo_fill_ok _ w5 _ b 0 0 1000 100 100 1000 kk VS.new none bv 1 ep sa si ac ic names nums (hrd _).1 (hrd _).2 (by rw [p2]; simp) (by rw [p3]; simp) ⟨p1, by rw [p3, p2]; rfl⟩ (busy_new _) kk_right kk_tiny (by decide) (by omega) (by omega) (by rw [kk_v]; decide) (by omega) (by omega) (by omega) (by omega) h5.swap); unfold kyV at CFI; clear p1 p2 p3) | (go_at_call 9; (with_reducible refine CFI.out.mono ?_); rintro e w6 ⟨rfl, h6⟩) | fail)
    have h7 := fs_of_fo PP.out.1 PP.out.2.1 PP.out.2.2 h6
    clear h2 h3 d0 d1 d2 d3 h5 h6 hrd CFI CS PP
    go_wp2_with fail
    go_loopw [10] (fun i wr => ∃ j nv : Nat, j ≤ len ∧ nv ≤ 2 * j ∧ i = .int .i64 j ∧ Sat (World.env W) wr (FS b (j + 1) nv false * (blk o9 (.cells #[.string ⟨#[100]⟩, .string ⟨#[]⟩, .int .i64 0, .string ⟨#[107, 101, 112, 116]⟩] 30 (0, 0)) * whole W))) (fun i _ => len - (intOf i).toNat)
    case atStart => exact ⟨0, 0, Nat.zero_le _, Nat.zero_le _, rfl, h7.swap.drop.swap.drop⟩
    case round =>
      clear h7
      obtain ⟨j, nv, hj, hnv, rfl, hr⟩ := hrel
      by_cases hlt : j < len
      · have hlt' : (j : Int) < len := by omega
        have hcap' : (j : Int) + 1 ≤ cap := by omega
        obtain ⟨g, o, ha, hc⟩ := HLR.out
        have hjl : j < l.length := by omega
        have ha2 := ha (by intro e; rw [e] at hjl; cases hjl)
        subst ha2
        have HC : Hid (∀ w' : World, Sat (World.env W) w' (whole W) → w'.cell? ⟨g, o + j, none⟩ = some (.string l[j])) := fun w' h' => whole_cell h' (hc j hjl)
        clear ha hc
        have hsz := hlb l[j] (List.getElem_mem hjl)
        generalize l[j] = x at *
        have c0 := HC.out wr hr.drop.drop
        have hlit : bkept.toList = [107, 101, 112, 116] := by decide +kernel
        have hcmp : (x.toList == [107, 101, 112, 116]) = decide (x = bkept) := by rw [← hlit]; exact tl_beq _ _
        have hcm2 : x.toList = [107, 101, 112, 116] ↔ x = bkept := by
          have := hcmp
          by_cases e : x = bkept
          · rw [e, hlit]; simp
          · rw [decide_eq_false e] at this
            exact ⟨fun q => by rw [q] at this; simp at this, fun q => absurd q e⟩
        clear hlit
        by_cases hx : x = bkept
        · rw [decide_eq_true hx] at hcmp
          replace hcm2 := hcm2.2 hx
          have HX := Lib.hid hx
          clear hx
          go_wp2_with fail
          refine (known15_any _ _ _ hr.drop.drop).mono ?_
          rintro e w5 ⟨rfl, h5⟩
          go_wp2_with fail
          go_ret
          exact ⟨rfl, h5.below⟩
        · rw [decide_eq_false hx] at hcmp
          replace hcm2 : ¬ x.toList = [107, 101, 112, 116] := fun q => hx (hcm2.1 q)
          have HX := Lib.hid hx
          clear hx
          by_cases h60 : x.size ≤ 60
          · have h60' : ¬ (60 : Int) < x.size := by omega
            have HRD : Hid (∀ X : Assn, (∀ w', Sat (World.env W) w' X → Sat (World.env W) w' (whole W)) → Rd (World.env W) X (some ⟨g, o + j, none⟩) [x]) := by
              intro X hX
              refine ⟨g, o + j, fun _ => rfl, fun w' h' i hi => ?_⟩
              have : i = 0 := by simpa using hi
              subst this
              exact HC.out w' (hX w' h')
            go_wp2_with fail
            refine (fs_write _ wr _ b (j + 1) nv false _ (some ⟨g, o + j, none⟩) _ x HX.out (HRD.out _ fun w' h' => h'.drop) (by omega) hr).mono ?_
            rintro e w5 ⟨rfl, h5⟩
            clear hr c0
            go_upto_region 12 with fail
            have c0 := HC.out w5 h5.drop.drop
            have CS := Lib.hid (fs_start _ w5.drew _ b _ _ _ h5.drew)
            go_region_held3 (fun w' => w'.cell? ⟨g, o + j, none⟩ = some (.string x))
              (first | exact c0 | exact HC.out _ h6.drop.drop.drop | exact HC.out _ h7.drop.drop.drop | fail)
              (first | (go_at_call 10; (with_reducible refine CS.out.mono ?_); rintro e w6 ⟨⟨ep, sa, ac, names, si, ic, nums⟩, rfl, p1, p2, p3, h6⟩; simp only at p1 p2 p3; simp only [StM.v]; have CFI := Lib.hid (fs_fill _ w6 _ b _ _ x ep sa si ac ic names nums p1 p2 p3 h60 (by omega) h6.swap); clear p1 p2 p3) | (go_at_call 9; (with_reducible refine CFI.out.mono ?_); rintro e w7 ⟨tb, er, rfl, h7⟩) | fail)
            replace h7 := h7.swap.drop
            clear CS CFI h5 h6 c0
            have d0 : w7.cell? ⟨o9, 0, none⟩ = some (.string ⟨#[100]⟩) := h7.swap.cell 0
            have d1 : w7.cell? ⟨o9, 1, none⟩ = some (.string ⟨#[]⟩) := h7.swap.cell 1
            have d2 : w7.cell? ⟨o9, 2, none⟩ = some (.int .i64 0) := h7.swap.cell 2
            have d3 : w7.cell? ⟨o9, 3, none⟩ = some (.string ⟨#[107, 101, 112, 116]⟩) := h7.swap.cell 3
            have hw : IntKind.i64.wrap (1 + a1) = 1 + a1 := IntWalk.i64_in _ (by omega)
            go_wp2_with fail
            refine (fs_look _ w7 _ b _ _ _ _ (by omega) h7).mono ?_
            rintro e w8 ⟨rfl, h8⟩
            go_wp2_with fail
            go_roundw
            case rel => exact ⟨j + 1, nv + 2, by omega, by omega, by go_num, h8⟩
            case measure => simp [intOf]; omega
          · have h60' : (60 : Int) < x.size := by omega
            go_wp2_with fail
            refine (known15_any _ _ _ hr.drop.drop).mono ?_
            rintro e w5 ⟨rfl, h5⟩
            go_wp2_with fail
            go_ret
            exact ⟨rfl, h5.below⟩
      · have hjl : j = len := by omega
        subst hjl
        go_wp2_with fail
        refine (known15_any _ _ _ hr.drop.drop).mono ?_
        rintro e w5 ⟨rfl, h5⟩
        go_wp2_with fail
        go_ret
        exact ⟨rfl, h5.below⟩
  · have h12' : (12 : Int) < len := by omega
    go_wp2_with fail
    refine (known15_any _ _ _ h1.drop).mono ?_
    rintro e w5 ⟨rfl, h5⟩
    go_wp2_with fail
    go_ret
    exact ⟨rfl, h5.below⟩

end Go.Proofs.Ytbeidnddahglbaa
