/- The law LinePlays, walked. -/
import Derived.Test.YtmiekmgicfnooaaLineK
import Derived.Test.YtmiekmgicfnooaaLineRef
import Derived.Test.YtmiekmgicfnooaaRw
import Derived.OpenShut
import Derived.Deep.Strs
import Derived.Deep.RegionHeld3
namespace Go.Proofs.Ytmiekmgicfnooaa
open Go Go.RowKit

def okOp (cs : List Value) : Prop := ∃ a b c : Int, cs = [.int .i64 a, .int .i64 b, .int .i64 c] ∧ (Lit.int .i64 a).wf = true ∧ (Lit.int .i64 b).wf = true ∧ (Lit.int .i64 c).wf = true

theorem openOp {H : Type} {enc : TypeId × Value → H} {W : World} {a : Option Addr} {len cap : Nat} {d : DataW H} {p : List MemPlace} {held : Bool}
    (h : DataW.Trod enc Try.prog W 0 (fun _ => true) held 42 (.slice a len cap) d p) : ∃ xs, IsRecs W a len cap 3 okOp xs := by
  refine isRecs_open Try.underlying42 (by kernel_rfl) (fun fuel cs x hx => ?_) h
  obtain ⟨y0, y1, y2, n, _, hl, h0, h1, h2⟩ := Deep.trod_struct3 Try.underlying47 hx
  obtain ⟨a, e0, _, w0⟩ := DataW.trod_int Try.underlying3 h0
  obtain ⟨b, e1, _, w1⟩ := DataW.trod_int Try.underlying3 h1
  obtain ⟨c, e2, _, w2⟩ := DataW.trod_int Try.underlying3 h2
  have hc : Try.prog.cellsOf 47 = 3 := by kernel_rfl
  have hi : Try.prog.cellsOf 3 = 1 := by kernel_rfl
  rw [hc] at hl
  simp only [hi] at e0 e1 e2
  match cs, hl with
  | [c0, c1, c2], _ =>
    simp at e0 e1 e2
    exact ⟨a, b, c, by rw [e0, e1, e2], w0, w1, w2⟩

theorem leave_decide (sp : List Sp) (id : Int) (hn : nod sp) : decide ((restF id sp).length < sp.length) = decide (plc id sp 0 ≠ -1) ∧ restF id sp = leaveL id sp := by
  have e : restF id sp = leaveL id sp := by rw [leaveL_eq, leaveR_filter _ _ hn]; rfl
  refine ⟨?_, e⟩
  rw [e]
  by_cases h : plc id sp 0 = -1
  · rw [leaveL, if_pos h]; simp [h]
  · have := leave_len sp id h
    have hp : 0 < sp.length := by rcases plc_range id sp 0 with h' | h' <;> omega
    have h1 : (leaveL id sp).length < sp.length := by omega
    simp [h, h1]

theorem ld_empty (l : List Int) (h : l = []) : l.length = 0 := by simp [h]

set_option maxRecDepth 100000 in
set_option maxHeartbeats 16000000 in
theorem walkLinePlays (W : World) (most : Int) (_w : (Lit.int .i64 most).wf = true) (a : Option Addr) (len cap : Nat) (xs : List (List Value)) (z : IsRecs W a len cap 3 okOp xs) :
    Calls Try.prog 6 #[.int .i64 most, .slice a len cap] W fun e w' => e = .returned (.bool true) ∧ Below W.heap.size W w' := by
  by_cases hm : 1 ≤ most ∧ most ≤ 10000
  · obtain ⟨hm1, hm2⟩ := hm
    go_enter Try.func6, Try.ntmps6
    go_wp2_with fail
    refine (new_any _ _ _ most hm1 hm2 (Sat.whole W)).mono ?_
    rintro e w1 ⟨b, rfl, h1⟩
    go_wp2_with fail
    refine (rnew_any _ _ _ most hm1 hm2 h1).mono ?_
    rintro e w2 ⟨c, rfl, h2⟩
    go_wp2_with fail
    go_loopw [5, 9, 10, 11, 12, 13, 14, 15] (fun lv i _ _ _ _ _ _ wr => ∃ (j b : Nat) (sp : List Sp), j ≤ len ∧ j ≤ 60 ∧ lv = .pointer (some ⟨b, 0, none⟩) ∧ i = .int .i64 j ∧ nod sp ∧ Sat (World.env W) wr (LineR b sp most * (RefR c sp most * whole W))) (fun _ i _ _ _ _ _ _ _ => 60 - (intOf i).toNat)
    case atStart => exact ⟨0, b, [], Nat.zero_le _, Nat.zero_le _, rfl, rfl, by simp [nod], h2.swap⟩
    case round =>
      obtain ⟨j, b, sp, hj, hj2, rfl, rfl, hn, hr⟩ := hrel
      by_cases hlt : j < len ∧ j < 60
      · obtain ⟨hlt, hlt2⟩ := hlt
        obtain ⟨g, o, cs, rfl, _, _, ⟨kd, id, at', rfl, _, _, _⟩, hcs⟩ := rec_at z (by decide) j hlt
        obtain ⟨hg, q0⟩ := whole_at hr.drop.drop (hcs 0 (by decide))
        obtain ⟨_, q1⟩ := whole_at hr.drop.drop (hcs 1 (by decide))
        obtain ⟨_, q2⟩ := whole_at hr.drop.drop (hcs 2 (by decide))
        simp only [Nat.add_zero] at q0
        clear hcs
        by_cases k0 : kd = 0
        · subst k0
          go_wp2_with fail
          have h3 := hr.alloc (.cells #[.int .i64 0, .int .i64 id, .int .i64 at'] 47)
          generalize wr.alloc (Obj.cells #[Value.int IntKind.i64 0, Value.int IntKind.i64 id, Value.int IntKind.i64 at'] 47) = w0 at *
          generalize wr.heap.size = og at *
          have a1 : w0.cell? ⟨og, 1, none⟩ = some (.int .i64 id) := h3.cell 1
          have a2 : w0.cell? ⟨og, 2, none⟩ = some (.int .i64 at') := h3.cell 2
          clear hr hg q0 q1 q2
          go_region_held3 (fun w' => w'.cell? ⟨og, 1, none⟩ = some (.int .i64 id) ∧ w'.cell? ⟨og, 2, none⟩ = some (.int .i64 at')) (first | exact ⟨a1, a2⟩ | exact ⟨(h4.drop.cell 1).trans rfl, (h4.drop.cell 2).trans rfl⟩ | exact ⟨(h5.drop.drop.cell 1).trans rfl, (h5.drop.drop.cell 2).trans rfl⟩ | fail) (first | (go_at_call 10; refine (join_any _ _ _ b sp most id at' h3.drew.swap).mono ?_; rintro e w3 ⟨rfl, h4⟩) | (go_at_call 18; refine (rjoin_any _ _ _ c sp most id at' h4.get3).mono ?_; rintro e w4 ⟨rfl, h5⟩))
          go_wp2_with fail
          have h6 := h5.swap.swap2
          have u1 : _ := h6.drop.cell 1
          have u1 : w4.cell? ⟨og, 1, none⟩ = some (.int .i64 id) := u1
          go_region_held3 (fun w' => w'.cell? ⟨og, 1, none⟩ = some (.int .i64 id)) (first | exact u1 | exact (g1.drop.cell 1).trans rfl | exact (g2.drop.drop.cell 1).trans rfl | exact (g3.drop.drop.drop.cell 1).trans rfl | exact (g4.drop.drop.drop.drop.cell 1).trans rfl | exact (g5.drop.drop.drop.drop.cell 1).trans rfl | fail) (first | (go_at_call 11; refine (place_any _ _ _ b _ most id h6.drew).mono ?_; rintro e x1 ⟨rfl, g1⟩) | (go_at_call 23; refine (rplace_any _ _ _ c _ most id g1.get3).mono ?_; rintro e x2 ⟨rfl, g2⟩) | (go_at_call 15; refine (all_any _ _ _ b _ most g2.swap).mono ?_; rintro e x3 ⟨v3, rfl, g3⟩) | (go_at_call 24; refine (rall_any _ _ _ c _ most g3.get3).mono ?_; rintro e x4 ⟨v4, rfl, g4⟩) | (go_at_call 12; refine (ints_eq _ _ _ _ _ _ _ g4.get3).mono ?_; rintro e x5 ⟨rfl, g5⟩))
          go_wp2_with fail
          go_roundw
          case rel => exact ⟨j + 1, b, joinL sp most id at', by omega, by omega, rfl, by go_num, nod_join _ _ _ _ hn, g5.drop.drop.swap.get3.drop⟩
          case measure => simp [intOf]; omega
        by_cases k1 : kd = 1
        · subst k1
          clear k0
          cases sp with
          | nil =>
            go_wp2_with fail
            have h3 := hr.alloc (.cells #[.int .i64 1, .int .i64 id, .int .i64 at'] 47)
            generalize wr.alloc (Obj.cells #[Value.int IntKind.i64 1, Value.int IntKind.i64 id, Value.int IntKind.i64 at'] 47) = w0 at *
            generalize wr.heap.size = og at *
            have a1 : w0.cell? ⟨og, 1, none⟩ = some (.int .i64 id) := h3.cell 1
            have a2 : w0.cell? ⟨og, 2, none⟩ = some (.int .i64 at') := h3.cell 2
            clear hr hg q0 q1 q2
            refine (first_nobody _ _ _ b most h3.swap).mono ?_
            rintro e w3 ⟨rfl, h4⟩
            go_wp2_with fail
            refine (rfirst_nobody _ _ _ c most h4.get3).mono ?_
            rintro e w4 ⟨rfl, h5⟩
            go_wp2_with fail
            have h6 := h5.swap.swap2
            have u1 : _ := h6.drop.cell 1
            have u1 : w4.cell? ⟨og, 1, none⟩ = some (.int .i64 id) := u1
            go_region_held3 (fun w' => w'.cell? ⟨og, 1, none⟩ = some (.int .i64 id)) (first | exact u1 | exact (g1.drop.cell 1).trans rfl | exact (g2.drop.drop.cell 1).trans rfl | exact (g3.drop.drop.drop.cell 1).trans rfl | exact (g4.drop.drop.drop.drop.cell 1).trans rfl | exact (g5.drop.drop.drop.drop.cell 1).trans rfl | fail) (first | (go_at_call 11; refine (place_any _ _ _ b _ most id h6.drew).mono ?_; rintro e x1 ⟨rfl, g1⟩) | (go_at_call 23; refine (rplace_any _ _ _ c _ most id g1.get3).mono ?_; rintro e x2 ⟨rfl, g2⟩) | (go_at_call 15; refine (all_any _ _ _ b _ most g2.swap).mono ?_; rintro e x3 ⟨v3, rfl, g3⟩) | (go_at_call 24; refine (rall_any _ _ _ c _ most g3.get3).mono ?_; rintro e x4 ⟨v4, rfl, g4⟩) | (go_at_call 12; refine (ints_eq _ _ _ _ _ _ _ g4.get3).mono ?_; rintro e x5 ⟨rfl, g5⟩))
            go_wp2_with fail
            go_roundw
            case rel => exact ⟨j + 1, b, [], by omega, by omega, rfl, by go_num, hn, g5.drop.drop.swap.get3.drop⟩
            case measure => simp [intOf]; omega
          | cons s sp =>
            have HR : Hid (restF s.1 (s :: sp) = sp) := by unfold Hid; rw [(leave_decide _ _ hn).2, leaveL_eq, leaveR, if_pos rfl]
            have hn' : nod sp := by unfold nod at *; rw [List.map_cons, List.nodup_cons] at hn; exact hn.2
            go_wp2_with fail
            have h3 := hr.alloc (.cells #[.int .i64 1, .int .i64 id, .int .i64 at'] 47)
            generalize wr.alloc (Obj.cells #[Value.int IntKind.i64 1, Value.int IntKind.i64 id, Value.int IntKind.i64 at'] 47) = w0 at *
            generalize wr.heap.size = og at *
            have a1 : w0.cell? ⟨og, 1, none⟩ = some (.int .i64 id) := h3.cell 1
            have a2 : w0.cell? ⟨og, 2, none⟩ = some (.int .i64 at') := h3.cell 2
            clear hr hg q0 q1 q2
            refine (first_any _ _ _ b s sp most h3.swap).mono ?_
            rintro e w3 ⟨rfl, h4⟩
            go_wp2_with fail
            refine (rfirst_any _ _ _ c s sp most h4.get3).mono ?_
            rintro e w4 ⟨rfl, h5⟩
            rw [HR.out] at h5
            go_wp2_with fail
            have h6 := h5.swap.swap2
            have u1 : _ := h6.drop.cell 1
            have u1 : w4.cell? ⟨og, 1, none⟩ = some (.int .i64 id) := u1
            go_region_held3 (fun w' => w'.cell? ⟨og, 1, none⟩ = some (.int .i64 id)) (first | exact u1 | exact (g1.drop.cell 1).trans rfl | exact (g2.drop.drop.cell 1).trans rfl | exact (g3.drop.drop.drop.cell 1).trans rfl | exact (g4.drop.drop.drop.drop.cell 1).trans rfl | exact (g5.drop.drop.drop.drop.cell 1).trans rfl | fail) (first | (go_at_call 11; refine (place_any _ _ _ b _ most id h6.drew).mono ?_; rintro e x1 ⟨rfl, g1⟩) | (go_at_call 23; refine (rplace_any _ _ _ c _ most id g1.get3).mono ?_; rintro e x2 ⟨rfl, g2⟩) | (go_at_call 15; refine (all_any _ _ _ b _ most g2.swap).mono ?_; rintro e x3 ⟨v3, rfl, g3⟩) | (go_at_call 24; refine (rall_any _ _ _ c _ most g3.get3).mono ?_; rintro e x4 ⟨v4, rfl, g4⟩) | (go_at_call 12; refine (ints_eq _ _ _ _ _ _ _ g4.get3).mono ?_; rintro e x5 ⟨rfl, g5⟩))
            go_wp2_with fail
            go_roundw
            case rel => exact ⟨j + 1, b, sp, by omega, by omega, rfl, by go_num, hn', g5.drop.drop.swap.get3.drop⟩
            case measure => simp [intOf]; omega
        by_cases k2 : kd = 2
        · subst k2
          clear k0 k1
          obtain ⟨e1, e2⟩ := leave_decide sp id hn
          have E1 := Lib.hid e1
          have E2 := Lib.hid e2
          clear e1 e2
          go_wp2_with fail
          have h3 := hr.alloc (.cells #[.int .i64 2, .int .i64 id, .int .i64 at'] 47)
          generalize wr.alloc (Obj.cells #[Value.int IntKind.i64 2, Value.int IntKind.i64 id, Value.int IntKind.i64 at'] 47) = w0 at *
          generalize wr.heap.size = og at *
          have a1 : w0.cell? ⟨og, 1, none⟩ = some (.int .i64 id) := h3.cell 1
          have a2 : w0.cell? ⟨og, 2, none⟩ = some (.int .i64 at') := h3.cell 2
          clear hr hg q0 q1 q2
          go_region_held3 (fun w' => w'.cell? ⟨og, 1, none⟩ = some (.int .i64 id)) (first | exact a1 | exact (h4.drop.cell 1).trans rfl | exact (h5.drop.drop.cell 1).trans rfl | fail) (first | (go_at_call 16; refine (leave_any _ _ _ b sp most id h3.drew.swap).mono ?_; rintro e w3 ⟨rfl, h4⟩) | (go_at_call 20; refine (rleave_any _ _ _ c sp most id h4.get3).mono ?_; rintro e w4 ⟨rfl, h5⟩; rw [E1.out]))
          rw [E2.out] at h5
          go_wp2_with fail
          have h6 := h5.swap.swap2
          have u1 : _ := h6.drop.cell 1
          have u1 : w4.cell? ⟨og, 1, none⟩ = some (.int .i64 id) := u1
          go_region_held3 (fun w' => w'.cell? ⟨og, 1, none⟩ = some (.int .i64 id)) (first | exact u1 | exact (g1.drop.cell 1).trans rfl | exact (g2.drop.drop.cell 1).trans rfl | exact (g3.drop.drop.drop.cell 1).trans rfl | exact (g4.drop.drop.drop.drop.cell 1).trans rfl | exact (g5.drop.drop.drop.drop.cell 1).trans rfl | fail) (first | (go_at_call 11; refine (place_any _ _ _ b _ most id h6.drew).mono ?_; rintro e x1 ⟨rfl, g1⟩) | (go_at_call 23; refine (rplace_any _ _ _ c _ most id g1.get3).mono ?_; rintro e x2 ⟨rfl, g2⟩) | (go_at_call 15; refine (all_any _ _ _ b _ most g2.swap).mono ?_; rintro e x3 ⟨v3, rfl, g3⟩) | (go_at_call 24; refine (rall_any _ _ _ c _ most g3.get3).mono ?_; rintro e x4 ⟨v4, rfl, g4⟩) | (go_at_call 12; refine (ints_eq _ _ _ _ _ _ _ g4.get3).mono ?_; rintro e x5 ⟨rfl, g5⟩))
          go_wp2_with fail
          go_roundw
          case rel => exact ⟨j + 1, b, leaveL id sp, by omega, by omega, rfl, by go_num, nod_leave _ _ hn, g5.drop.drop.swap.get3.drop⟩
          case measure => simp [intOf]; omega
        by_cases k3 : kd = 3
        · subst k3
          clear k0 k1 k2
          go_wp2_with fail
          have h3 := hr.alloc (.cells #[.int .i64 3, .int .i64 id, .int .i64 at'] 47)
          generalize wr.alloc (Obj.cells #[Value.int IntKind.i64 3, Value.int IntKind.i64 id, Value.int IntKind.i64 at'] 47) = w0 at *
          generalize wr.heap.size = og at *
          have a1 : w0.cell? ⟨og, 1, none⟩ = some (.int .i64 id) := h3.cell 1
          have a2 : w0.cell? ⟨og, 2, none⟩ = some (.int .i64 at') := h3.cell 2
          clear hr hg q0 q1 q2
          go_region_held3 (fun w' => w'.cell? ⟨og, 2, none⟩ = some (.int .i64 at')) (first | exact a2 | exact (h4.drop.drop.cell 2).trans rfl | exact (h5.drop.drop.drop.drop.cell 2).trans rfl | exact (h6.drop.drop.drop.drop.cell 2).trans rfl | fail) (first | (go_at_call 13; refine (late_any _ _ _ b sp most at' h3.drew.swap).mono ?_; rintro e w3 ⟨v1, rfl, h4⟩) | (go_at_call 21; refine (rlate_any _ _ _ c sp most at' h4.get4).mono ?_; rintro e w4 ⟨v2, rfl, h5⟩) | (go_at_call 12; refine (ints_eq _ _ _ _ _ _ _ h5.get3).mono ?_; rintro e w5 ⟨rfl, h6⟩))
          go_wp2_with fail
          have h7 := h6.drop.drop.swap.swap2
          have u1 : _ := h7.drop.cell 1
          have u1 : w5.cell? ⟨og, 1, none⟩ = some (.int .i64 id) := u1
          go_region_held3 (fun w' => w'.cell? ⟨og, 1, none⟩ = some (.int .i64 id)) (first | exact u1 | exact (g1.drop.cell 1).trans rfl | exact (g2.drop.drop.cell 1).trans rfl | exact (g3.drop.drop.drop.cell 1).trans rfl | exact (g4.drop.drop.drop.drop.cell 1).trans rfl | exact (g5.drop.drop.drop.drop.cell 1).trans rfl | fail) (first | (go_at_call 11; refine (place_any _ _ _ b _ most id h7.drew).mono ?_; rintro e x1 ⟨rfl, g1⟩) | (go_at_call 23; refine (rplace_any _ _ _ c _ most id g1.get3).mono ?_; rintro e x2 ⟨rfl, g2⟩) | (go_at_call 15; refine (all_any _ _ _ b _ most g2.swap).mono ?_; rintro e x3 ⟨v3, rfl, g3⟩) | (go_at_call 24; refine (rall_any _ _ _ c _ most g3.get3).mono ?_; rintro e x4 ⟨v4, rfl, g4⟩) | (go_at_call 12; refine (ints_eq _ _ _ _ _ _ _ g4.get3).mono ?_; rintro e x5 ⟨rfl, g5⟩))
          go_wp2_with fail
          go_roundw
          case rel => exact ⟨j + 1, b, stayF at' sp, by omega, by omega, rfl, by go_num, nod_filter _ _ hn, g5.drop.drop.swap.get3.drop⟩
          case measure => simp [intOf]; omega
        have b0 : (kd == 0) = false := by simpa using k0
        have b1 : (kd == 1) = false := by simpa using k1
        have b2 : (kd == 2) = false := by simpa using k2
        have b3 : (kd == 3) = false := by simpa using k3
        clear k0 k1 k2 k3
        go_wp2_with fail
        have h3 := hr.alloc (.cells #[.int .i64 kd, .int .i64 id, .int .i64 at'] 47)
        generalize wr.alloc (Obj.cells #[Value.int IntKind.i64 kd, Value.int IntKind.i64 id, Value.int IntKind.i64 at'] 47) = w0 at *
        generalize wr.heap.size = og at *
        have a1 : w0.cell? ⟨og, 1, none⟩ = some (.int .i64 id) := h3.cell 1
        have a2 : w0.cell? ⟨og, 2, none⟩ = some (.int .i64 at') := h3.cell 2
        clear hr hg q0 q1 q2
        refine (copy_any _ _ _ b sp most h3.swap).mono ?_
        rintro e w3 ⟨b', rfl, h4⟩
        have a3 : w3.cell? ⟨og, 1, none⟩ = some (.int .i64 id) := h4.drop.drop.cell 1
        go_wp2_with fail
        refine (join_any _ _ _ b sp most id 1 h4.swap).mono ?_
        rintro e w4 ⟨rfl, h5⟩
        go_wp2_with fail
        have hend : ∀ (sq : List Sp) (w5 : World), Sat (World.env W) w5 (LineR b sq most * (LineR b' sp most * (blk og (.cells #[.int .i64 kd, .int .i64 id, .int .i64 at'] 47 (0, 0)) * (RefR c sp most * whole W)))) → True := fun _ _ _ => trivial
        clear hend
        cases hs : joinL sp most id 1 with
        | nil =>
          rw [hs] at h5
          clear hs
          refine (first_nobody _ _ _ b most h5).mono ?_
          rintro e w5 ⟨rfl, h6⟩
          go_wp2_with fail
          refine (late_any _ _ _ b _ most _ h6).mono ?_
          rintro e w6 ⟨v, rfl, h7⟩
          go_wp2_with fail
          have h8 := h7.drop.drop
          have u1 : _ := h8.drop.cell 1
          have u1 : w6.cell? ⟨og, 1, none⟩ = some (.int .i64 id) := u1
          go_region_held3 (fun w' => w'.cell? ⟨og, 1, none⟩ = some (.int .i64 id)) (first | exact u1 | exact (g1.drop.cell 1).trans rfl | exact (g2.drop.drop.cell 1).trans rfl | exact (g3.drop.drop.drop.cell 1).trans rfl | exact (g4.drop.drop.drop.drop.cell 1).trans rfl | exact (g5.drop.drop.drop.drop.cell 1).trans rfl | fail) (first | (go_at_call 11; refine (place_any _ _ _ b' _ most id h8.drew).mono ?_; rintro e x1 ⟨rfl, g1⟩) | (go_at_call 23; refine (rplace_any _ _ _ c _ most id g1.get3).mono ?_; rintro e x2 ⟨rfl, g2⟩) | (go_at_call 15; refine (all_any _ _ _ b' _ most g2.swap).mono ?_; rintro e x3 ⟨v3, rfl, g3⟩) | (go_at_call 24; refine (rall_any _ _ _ c _ most g3.get3).mono ?_; rintro e x4 ⟨v4, rfl, g4⟩) | (go_at_call 12; refine (ints_eq _ _ _ _ _ _ _ g4.get3).mono ?_; rintro e x5 ⟨rfl, g5⟩))
          go_wp2_with fail
          go_roundw
          case rel => exact ⟨j + 1, b', sp, by omega, by omega, rfl, by go_num, hn, g5.drop.drop.swap.get3.drop⟩
          case measure => simp [intOf]; omega
        | cons s sq =>
          rw [hs] at h5
          clear hs
          refine (first_any _ _ _ b s sq most h5).mono ?_
          rintro e w5 ⟨rfl, h6⟩
          go_wp2_with fail
          refine (late_any _ _ _ b _ most _ h6).mono ?_
          rintro e w6 ⟨v, rfl, h7⟩
          go_wp2_with fail
          have h8 := h7.drop.drop
          have u1 : _ := h8.drop.cell 1
          have u1 : w6.cell? ⟨og, 1, none⟩ = some (.int .i64 id) := u1
          go_region_held3 (fun w' => w'.cell? ⟨og, 1, none⟩ = some (.int .i64 id)) (first | exact u1 | exact (g1.drop.cell 1).trans rfl | exact (g2.drop.drop.cell 1).trans rfl | exact (g3.drop.drop.drop.cell 1).trans rfl | exact (g4.drop.drop.drop.drop.cell 1).trans rfl | exact (g5.drop.drop.drop.drop.cell 1).trans rfl | fail) (first | (go_at_call 11; refine (place_any _ _ _ b' _ most id h8.drew).mono ?_; rintro e x1 ⟨rfl, g1⟩) | (go_at_call 23; refine (rplace_any _ _ _ c _ most id g1.get3).mono ?_; rintro e x2 ⟨rfl, g2⟩) | (go_at_call 15; refine (all_any _ _ _ b' _ most g2.swap).mono ?_; rintro e x3 ⟨v3, rfl, g3⟩) | (go_at_call 24; refine (rall_any _ _ _ c _ most g3.get3).mono ?_; rintro e x4 ⟨v4, rfl, g4⟩) | (go_at_call 12; refine (ints_eq _ _ _ _ _ _ _ g4.get3).mono ?_; rintro e x5 ⟨rfl, g5⟩))
          go_wp2_with fail
          go_roundw
          case rel => exact ⟨j + 1, b', sp, by omega, by omega, rfl, by go_num, hn, g5.drop.drop.swap.get3.drop⟩
          case measure => simp [intOf]; omega
      · have hlt' : ¬ (j : Int) < len ∨ ((j : Int) < len ∧ ¬ (j : Int) < 60) := by omega
        clear hlt
        rcases hlt' with hq | ⟨hq, hq2⟩
        all_goals
          go_wp2_with fail
          refine (known_any _ _ _ hr.drop.drop).mono ?_
          rintro e w6 ⟨rfl, h6⟩
          go_wp2_with fail
          go_ret
          exact ⟨rfl, h6.below⟩
  · have hm' : most < 1 ∨ 10000 < most := by omega
    go_enter Try.func6, Try.ntmps6
    go_wp2_with fail
    refine (new_bad _ most hm').mono ?_
    rintro e w1 ⟨rfl, rfl⟩
    go_wp2_with fail
    refine (rnew_bad _ _ _ most hm' (Sat.whole W)).mono ?_
    rintro e w2 ⟨c, rfl, h2⟩
    go_wp2_with fail
    go_loopw [5, 9] (fun l i wr => l = .pointer none ∧ i = .int .i64 0 ∧ Sat (World.env W) wr (whole W)) (fun _ _ _ => 0)
    case atStart => exact ⟨rfl, rfl, h2⟩
    case round =>
      obtain ⟨rfl, rfl, hr⟩ := hrel
      by_cases hl : (0 : Int) < len
      all_goals
        go_wp2_with fail
        refine (known_any _ _ _ hr).mono ?_
        rintro e w6 ⟨rfl, h6⟩
        go_wp2_with fail
        go_ret
        exact ⟨rfl, h6.below⟩

end Go.Proofs.Ytmiekmgicfnooaa
