/- Package fill: the fixed calls of the laws. -/
import Derived.Test.YtbeidnddahglbaaFillJ
namespace Go.Proofs.Ytbeidnddahglbaa
set_option linter.all false
open Go Go.RowKit

abbrev kq : Ky := ⟨⟨#[]⟩, ⟨#[]⟩, 0, ⟨#[113]⟩⟩
abbrev tt : ByteArray := ⟨#[116]⟩
abbrev bv : ByteArray := ⟨#[118]⟩
abbrev bw : ByteArray := ⟨#[119]⟩
theorem kq_right : rightK kq = true := by decide +kernel
theorem kq_tiny : tiny kq := by unfold tiny; decide
theorem kq_v : sizeK kq bv = 23 := by decide +kernel
theorem kq_w : sizeK kq bw = 23 := by decide +kernel
theorem busy_new (l : List ByteArray) : ¬ busyV VS.new l := by
  rintro ⟨s, _, c, hc⟩; cases hc
def V1 : VS := (VS.new.dirty 1 [tt]).bump [tt]
def V2 : VS := (V1.bump [tt]).clean 1
theorem busy_1 : busyV V1 [tt] := ⟨tt, by simp, 1, by decide +kernel⟩
theorem busy_2 (l : List ByteArray) : ¬ busyV V2 l := by
  rintro ⟨s, _, c, hc⟩
  have hc : ((false || (decide (c = 1) && memB s [tt])) && decide (c ≠ 1)) = true := hc
  by_cases h : c = 1 <;> simp [h] at hc
theorem stale_1 : ¬ freshV V1 0 [tt] ([tt].map VS.new.N) := by
  rintro ⟨_, h⟩
  exact absurd h (by decide +kernel)
theorem stale_all {V : VS} {ep : Int} {names : List ByteArray} {nums : List Int} (h : ep = V.ep) : ¬ freshV V.all ep names nums := by
  rintro ⟨h1, _⟩
  have h1 : ep = V.ep + 1 := h1
  omega

section
variable (k : Env) (w : World) (X : Assn) (b n nv g : Nat) (V : VS) (o : Option Kept)
abbrev KZ (b n nv : Nat) (V : VS) (o : Option Kept) : Assn := FO b n nv 200 60 60 30 kq V o
theorem kstart (h : Sat k w (KZ b n nv V o * (Strs (.slice (some ⟨g, 0, none⟩) 1 1) [tt] * X))) :
    Calls Try.prog 10 #[pq b, .slice (some ⟨g, 0, none⟩) 1 1] w fun e w' => ∃ s : StM, e = .returned s.v ∧ s.ep = V.ep ∧ s.names = [tt] ∧ s.nums = [tt].map V.N ∧ Sat k w' (stampS s * (KZ b n nv V o * (Strs (.slice (some ⟨g, 0, none⟩) 1 1) [tt] * X))) :=
  fo_start k w _ b n nv 200 60 60 30 kq V o (some ⟨g, 0, none⟩) 1 [tt] (rd_own_any (l := [tt]) h.swap X) (by decide) h
theorem kwrite (hn : nv ≤ 1000) (h : Sat k w (KZ b n nv V o * (Strs (.slice (some ⟨g, 0, none⟩) 1 1) [tt] * X))) :
    Calls Try.prog 12 #[pq b, .int .i64 1, .slice (some ⟨g, 0, none⟩) 1 1] w fun e w' => e = .returned (.tuple #[]) ∧ Sat k w' (KZ b n (nv + 2) ((V.dirty 1 [tt]).bump [tt]) o * (Strs (.slice (some ⟨g, 0, none⟩) 1 1) [tt] * X)) :=
  fo_write k w _ b n nv 200 60 60 30 kq V o 1 (some ⟨g, 0, none⟩) 1 [tt] (rd_own_any (l := [tt]) h.swap X) (by simp; omega) h
theorem kcommit (hn : nv ≤ 1000) (h : Sat k w (KZ b n nv V o * (Strs (.slice (some ⟨g, 0, none⟩) 1 1) [tt] * X))) :
    Calls Try.prog 14 #[pq b, .int .i64 1, .slice (some ⟨g, 0, none⟩) 1 1] w fun e w' => e = .returned (.tuple #[]) ∧ Sat k w' (KZ b n (nv + 1) ((V.bump [tt]).clean 1) o * (Strs (.slice (some ⟨g, 0, none⟩) 1 1) [tt] * X)) :=
  fo_commit k w _ b n nv 200 60 60 30 kq V o 1 (some ⟨g, 0, none⟩) 1 [tt] (rd_own_any (l := [tt]) h.swap X) (by simp; omega) h
/-- Fill with a stamp that is held. -/
theorem kfill_ok (v : ByteArray) (now ep : Int) (a i : Option Addr) (ac ic : Nat) (names : List ByteArray) (nums : List Int) (p1 : ep = V.ep) (p2 : names = [tt]) (p3 : nums = [tt].map V.N) (hb : ¬ busyV V [tt]) (hv : v = bv ∨ v = bw) (hnow : now = 1 ∨ now = 2) (hn : n ≤ 1000)
    (h : Sat k w (stampS ⟨ep, a, ac, names, i, ic, nums⟩ * (KZ b n nv V o * X))) :
    Calls Try.prog 9 #[pq b, .agg #[.string ⟨#[]⟩, .string ⟨#[]⟩, .int .i64 0, .string ⟨#[113]⟩], .string v, .agg #[.int .i64 ep, .slice a names.length ac, .slice i nums.length ic], .int .i64 now] w fun e w' => e = .returned (.tuple #[.bool true, .int .i64 0]) ∧ Sat k w' (KZ b (n + 1) nv V (some ⟨v, now + 30, ep, names, nums⟩) * X) := by
  have hrd := fun Y => stampS_rd h Y
  have hs : sizeK kq v = 23 := by rcases hv with rfl | rfl; exact kq_v; exact kq_w
  have hv2 : v.size ≤ 1000000000 := by rcases hv with rfl | rfl <;> decide
  exact (fo_fill_ok k w _ b n nv 200 60 60 30 kq V o v now ep a i ac ic names nums (hrd _).1 (hrd _).2 (by rw [p2]; decide) (by rw [p3]; simp) ⟨p1, by rw [p3, p2]⟩ (by rw [p2]; exact hb) kq_right kq_tiny hv2 (by omega) (by omega) (by rw [hs]; decide) (by omega) (by omega) (by omega) (by omega) h.swap).mono fun e w' ⟨p, q⟩ => ⟨p, q.swap.drop⟩
theorem kfill_no (v : ByteArray) (now ep : Int) (a i : Option Addr) (ac ic : Nat) (names : List ByteArray) (nums : List Int) (p2 : names.length ≤ 1000) (p3 : nums.length ≤ 1000) (hno : ¬ freshV V ep names nums ∨ busyV V names)
    (h : Sat k w (stampS ⟨ep, a, ac, names, i, ic, nums⟩ * (KZ b n nv V o * X))) :
    Calls Try.prog 9 #[pq b, .agg #[.string ⟨#[]⟩, .string ⟨#[]⟩, .int .i64 0, .string ⟨#[113]⟩], .string v, .agg #[.int .i64 ep, .slice a names.length ac, .slice i nums.length ic], .int .i64 now] w fun e w' => e = .returned (.tuple #[.bool false, .int .i64 0]) ∧ Sat k w' (KZ b n nv V o * X) := by
  have hrd := fun Y => stampS_rd h Y
  exact (fo_fill_no k w _ b n nv 200 60 60 30 kq V o v now ep a i ac ic names nums (hrd _).1 (hrd _).2 (by omega) (by omega) hno h.swap).mono fun e w' ⟨p, q⟩ => ⟨p, q.swap.drop⟩
theorem klook_got (q : Kept) (hf : freshV V q.ep q.names q.nums) (hb : ¬ busyV V q.names) (hv : q.v = bv ∨ q.v = bw) (hle : ¬ q.till ≤ 2) (h : Sat k w (KZ b n nv V (some q) * X)) :
    Calls Try.prog 11 #[pq b, .agg #[.string ⟨#[]⟩, .string ⟨#[]⟩, .int .i64 0, .string ⟨#[113]⟩], .int .i64 2] w fun e w' => e = .returned (.tuple #[.string q.v, .bool true]) ∧ Sat k w' (KZ b n nv V (some q) * X) := by
  have hs : sizeK kq q.v = 23 := by rcases hv with h | h <;> rw [h]; exact kq_v; exact kq_w
  exact fo_look_got k w X b n nv 200 60 60 30 kq V 2 q hf hb kq_right kq_tiny (by rw [hs]; decide) hle h
theorem klook_stale (q : Kept) (hf : ¬ freshV V q.ep q.names q.nums) (hn : n ≤ 1000) (h : Sat k w (KZ b n nv V (some q) * X)) :
    Calls Try.prog 11 #[pq b, .agg #[.string ⟨#[]⟩, .string ⟨#[]⟩, .int .i64 0, .string ⟨#[113]⟩], .int .i64 2] w fun e w' => e = .returned (.tuple #[.string ⟨#[]⟩, .bool false]) ∧ Sat k w' (KZ b n nv V none * X) :=
  fo_look_stale k w X b n nv 200 60 60 30 kq V 2 q hf kq_right kq_tiny (by omega) h
end

set_option maxRecDepth 100000 in
set_option maxHeartbeats 4000000 in
theorem known15_any (k : Env) (w : World) (R : Assn) (h : Sat k w R) :
    Calls Try.prog 16 #[] w fun e w' => e = .returned (.bool true) ∧ Sat k w' R := by
  go_enter Try.func16, Try.ntmps16
  go_wp2_with fail
  refine (fo_new k w R 200 60 60 30 kq (by omega) (by omega) (by omega) (by omega) (by omega) (by omega) (by omega) (by omega) h).mono ?_
  rintro e w1 ⟨b, rfl, h1⟩
  go_wp2_with fail
  refine (fnew_ttl0 k w1 _ 200 60 60 0 (by omega) (by omega) (by omega) (by omega) (by omega) (by omega) (by omega) h1).mono ?_
  rintro e w2 ⟨rfl, h2⟩
  have h3 := strs_lit [tt] (by decide) (h2.alloc (.cells #[.string ⟨#[]⟩, .string ⟨#[]⟩, .int .i64 0, .string ⟨#[113]⟩] 30)) _ rfl
  rw [show (w2.alloc (.cells #[.string ⟨#[]⟩, .string ⟨#[]⟩, .int .i64 0, .string ⟨#[113]⟩] 30)).heap.size = w2.heap.size + 1 from by simp] at h3
  go_upto_region 7 with fail
  have h4 : Sat k ((w2.alloc (.cells #[.string ⟨#[]⟩, .string ⟨#[]⟩, .int .i64 0, .string ⟨#[113]⟩] 30)).alloc (.cells #[.string ⟨#[116]⟩] 9)) _ := h3.get3
  clear h3 h2 h1
  generalize (w2.alloc (.cells #[.string ⟨#[]⟩, .string ⟨#[]⟩, .int .i64 0, .string ⟨#[113]⟩] 30)).alloc (.cells #[.string ⟨#[116]⟩] 9) = w3 at *
  generalize w2.heap.size = o5 at *
  generalize o5 + 1 = g6 at *
  go_upto_region 7 with fail
  have d0 : w3.cell? ⟨o5, 0, none⟩ = some (.string ⟨#[]⟩) := h4.get3.cell 0
  have d1 : w3.cell? ⟨o5, 1, none⟩ = some (.string ⟨#[]⟩) := h4.get3.cell 1
  have d2 : w3.cell? ⟨o5, 2, none⟩ = some (.int .i64 0) := h4.get3.cell 2
  have d3 : w3.cell? ⟨o5, 3, none⟩ = some (.string ⟨#[113]⟩) := h4.get3.cell 3
  have CS := Lib.hid (kstart k w3.drew _ b _ _ g6 _ _ h4.drew)
  go_region_held3 (fun w' => w'.cell? ⟨o5, 0, none⟩ = some (.string ⟨#[]⟩) ∧ w'.cell? ⟨o5, 1, none⟩ = some (.string ⟨#[]⟩) ∧ w'.cell? ⟨o5, 2, none⟩ = some (.int .i64 0) ∧ w'.cell? ⟨o5, 3, none⟩ = some (.string ⟨#[113]⟩))
    (first | exact ⟨d0, d1, d2, d3⟩ | exact ⟨(gh5.get4.cell 0).trans rfl, (gh5.get4.cell 1).trans rfl, (gh5.get4.cell 2).trans rfl, (gh5.get4.cell 3).trans rfl⟩ | exact ⟨(h5.get3.cell 0).trans rfl, (h5.get3.cell 1).trans rfl, (h5.get3.cell 2).trans rfl, (h5.get3.cell 3).trans rfl⟩ | fail)
    (first | (go_at_call 10; (with_reducible refine CS.out.mono ?_); rintro e w4a ⟨⟨ep, sa, ac, names, si, ic, nums⟩, rfl, p1, p2, p3, gh5⟩; simp only at p1 p2 p3; simp only [StM.v]; have PP := Lib.hid (And.intro p1 (And.intro p2 p3)); clear p1 p2 p3; have CFI := Lib.hid (kfill_ok k w4a _ b 0 0 VS.new none bv 1 ep sa si ac ic names nums PP.out.1 PP.out.2.1 PP.out.2.2 (busy_new _) (.inl rfl) (.inl rfl) (by omega) gh5)) | (go_at_call 9; (with_reducible refine CFI.out.mono ?_); rintro e w4 ⟨rfl, h5⟩) | fail)
  clear d0 d1 d2 d3 CS CFI gh5 h4
  have HF := Lib.hid (fresh_now (V := VS.new) (s := ⟨ep, sa, ac, names, si, ic, nums⟩) (l := [tt]) PP.out.1 PP.out.2.1 PP.out.2.2)
  have d0 : w4.cell? ⟨o5, 0, none⟩ = some (.string ⟨#[]⟩) := h5.get3.cell 0
  have d1 : w4.cell? ⟨o5, 1, none⟩ = some (.string ⟨#[]⟩) := h5.get3.cell 1
  have d2 : w4.cell? ⟨o5, 2, none⟩ = some (.int .i64 0) := h5.get3.cell 2
  have d3 : w4.cell? ⟨o5, 3, none⟩ = some (.string ⟨#[113]⟩) := h5.get3.cell 3
  go_wp2_with fail
  refine (klook_got k w4 _ b _ _ _ _ HF.out (by rw [PP.out.2.1]; exact busy_new _) (.inl rfl) (by show ¬ (1 + 30 : Int) ≤ 2; decide) h5).mono ?_
  rintro e w5 ⟨rfl, h6⟩
  clear d0 d1 d2 d3
  go_wp2_with fail
  refine (kstart k w5 _ b _ _ g6 _ _ h6).mono ?_
  rintro e w6 ⟨⟨ep2, sa2, ac2, names2, si2, ic2, nums2⟩, rfl, p1, p2, p3, h7⟩
  simp only at p1 p2 p3
  simp only [StM.v]
  have PP2 := Lib.hid (And.intro p1 (And.intro p2 p3))
  clear p1 p2 p3
  have h8 := h7.alloc (.cells #[.int .i64 ep2, .slice sa2 names2.length ac2, .slice si2 nums2.length ic2] 32)
  go_upto_region 10 with fail
  generalize w6.alloc (.cells #[.int .i64 ep2, .slice sa2 names2.length ac2, .slice si2 nums2.length ic2] 32) = w7 at *
  generalize w6.heap.size = o11 at *
  clear h7 h6 h5
  have h9 := h8.get3
  go_wp2_with fail
  refine (kwrite k w7 _ b _ _ g6 _ _ (by omega) (h9.of_eq (show _ = KZ b (0 + 1) 0 VS.new (some ⟨bv, 1 + 30, ep, names, nums⟩) * (Strs (.slice (some ⟨g6, 0, none⟩) 1 1) [tt] * (blk o11 (.cells #[.int .i64 ep2, .slice sa2 names2.length ac2, .slice si2 nums2.length ic2] 32 (0, 0)) * (stampS ⟨ep2, sa2, ac2, names2, si2, ic2, nums2⟩ * (blk o5 (.cells #[.string ⟨#[]⟩, .string ⟨#[]⟩, .int .i64 0, .string ⟨#[113]⟩] 30 (0, 0)) * R)))) by ac_rfl))).mono ?_
  rintro e w8 ⟨rfl, h10⟩
  have d0 : w8.cell? ⟨o5, 0, none⟩ = some (.string ⟨#[]⟩) := h10.get5.cell 0
  have d1 : w8.cell? ⟨o5, 1, none⟩ = some (.string ⟨#[]⟩) := h10.get5.cell 1
  have d2 : w8.cell? ⟨o5, 2, none⟩ = some (.int .i64 0) := h10.get5.cell 2
  have d3 : w8.cell? ⟨o5, 3, none⟩ = some (.string ⟨#[113]⟩) := h10.get5.cell 3
  go_wp2_with fail
  refine (klook_stale k w8 _ b _ _ _ ⟨bv, 1 + 30, ep, names, nums⟩ (by rw [PP.out.1, PP.out.2.1, PP.out.2.2]; exact stale_1) (by omega) h10).mono ?_
  rintro e w9 ⟨rfl, h11⟩
  clear d0 d1 d2 d3 h10 h8 h9
  have d0 : w9.cell? ⟨o5, 0, none⟩ = some (.string ⟨#[]⟩) := h11.get5.cell 0
  have d1 : w9.cell? ⟨o5, 1, none⟩ = some (.string ⟨#[]⟩) := h11.get5.cell 1
  have d2 : w9.cell? ⟨o5, 2, none⟩ = some (.int .i64 0) := h11.get5.cell 2
  have d3 : w9.cell? ⟨o5, 3, none⟩ = some (.string ⟨#[113]⟩) := h11.get5.cell 3
  have s0 : w9.cell? ⟨o11, 0, none⟩ = some (.int .i64 ep2) := h11.get3.cell 0
  have s1 : w9.cell? ⟨o11, 1, none⟩ = some (.slice sa2 names2.length ac2) := h11.get3.cell 1
  have s2 : w9.cell? ⟨o11, 2, none⟩ = some (.slice si2 nums2.length ic2) := h11.get3.cell 2
  go_wp2_with fail
  refine (kfill_no k w9 (Strs (.slice (some ⟨g6, 0, none⟩) 1 1) [tt] * (blk o11 (.cells #[.int .i64 ep2, .slice sa2 names2.length ac2, .slice si2 nums2.length ic2] 32 (0, 0)) * (blk o5 (.cells #[.string ⟨#[]⟩, .string ⟨#[]⟩, .int .i64 0, .string ⟨#[113]⟩] 30 (0, 0)) * R))) b _ _ _ none bw 2 ep2 sa2 si2 ac2 ic2 names2 nums2 (by rw [PP2.out.2.1]; decide) (by rw [PP2.out.2.2]; simp) (.inl (by rw [PP2.out.1, PP2.out.2.1, PP2.out.2.2]; exact stale_1)) (h11.of_eq (by ac_rfl))).mono ?_
  rintro e w10 ⟨rfl, h12⟩
  replace h12 := h12.get3.drop
  clear d0 d1 d2 d3 s0 s1 s2 h11
  go_upto_region 13 with fail
  have d0 : w10.cell? ⟨o5, 0, none⟩ = some (.string ⟨#[]⟩) := h12.get3.cell 0
  have d1 : w10.cell? ⟨o5, 1, none⟩ = some (.string ⟨#[]⟩) := h12.get3.cell 1
  have d2 : w10.cell? ⟨o5, 2, none⟩ = some (.int .i64 0) := h12.get3.cell 2
  have d3 : w10.cell? ⟨o5, 3, none⟩ = some (.string ⟨#[113]⟩) := h12.get3.cell 3
  have CS := Lib.hid (kstart k w10.drew _ b _ _ g6 _ _ h12.drew)
  go_region_held3 (fun w' => w'.cell? ⟨o5, 0, none⟩ = some (.string ⟨#[]⟩) ∧ w'.cell? ⟨o5, 1, none⟩ = some (.string ⟨#[]⟩) ∧ w'.cell? ⟨o5, 2, none⟩ = some (.int .i64 0) ∧ w'.cell? ⟨o5, 3, none⟩ = some (.string ⟨#[113]⟩))
    (first | exact ⟨d0, d1, d2, d3⟩ | exact ⟨(gh13.get4.cell 0).trans rfl, (gh13.get4.cell 1).trans rfl, (gh13.get4.cell 2).trans rfl, (gh13.get4.cell 3).trans rfl⟩ | exact ⟨(h13.get3.cell 0).trans rfl, (h13.get3.cell 1).trans rfl, (h13.get3.cell 2).trans rfl, (h13.get3.cell 3).trans rfl⟩ | fail)
    (first | (go_at_call 10; (with_reducible refine CS.out.mono ?_); rintro e w11a ⟨⟨ep3, sa3, ac3, names3, si3, ic3, nums3⟩, rfl, p1, p2, p3, gh13⟩; simp only at p1 p2 p3; simp only [StM.v]; have PP3 := Lib.hid (And.intro p1 (And.intro p2 p3)); clear p1 p2 p3; have CFI := Lib.hid (kfill_no k w11a _ b _ _ _ none bw 2 ep3 sa3 si3 ac3 ic3 names3 nums3 (by rw [PP3.out.2.1]; decide) (by rw [PP3.out.2.2]; simp) (.inr (by rw [PP3.out.2.1]; exact busy_1)) gh13)) | (go_at_call 9; (with_reducible refine CFI.out.mono ?_); rintro e w11 ⟨rfl, h13⟩) | fail)
  clear d0 d1 d2 d3 CS CFI gh13 h12
  go_wp2_with fail
  refine (kcommit k w11 _ b _ _ g6 _ _ (by omega) h13).mono ?_
  rintro e w12 ⟨rfl, h14⟩
  clear h13
  go_upto_region 15 with fail
  have d0 : w12.cell? ⟨o5, 0, none⟩ = some (.string ⟨#[]⟩) := h14.get3.cell 0
  have d1 : w12.cell? ⟨o5, 1, none⟩ = some (.string ⟨#[]⟩) := h14.get3.cell 1
  have d2 : w12.cell? ⟨o5, 2, none⟩ = some (.int .i64 0) := h14.get3.cell 2
  have d3 : w12.cell? ⟨o5, 3, none⟩ = some (.string ⟨#[113]⟩) := h14.get3.cell 3
  have CS := Lib.hid (kstart k w12.drew _ b _ _ g6 _ _ h14.drew)
  go_region_held3 (fun w' => w'.cell? ⟨o5, 0, none⟩ = some (.string ⟨#[]⟩) ∧ w'.cell? ⟨o5, 1, none⟩ = some (.string ⟨#[]⟩) ∧ w'.cell? ⟨o5, 2, none⟩ = some (.int .i64 0) ∧ w'.cell? ⟨o5, 3, none⟩ = some (.string ⟨#[113]⟩))
    (first | exact ⟨d0, d1, d2, d3⟩ | exact ⟨(gh15.get4.cell 0).trans rfl, (gh15.get4.cell 1).trans rfl, (gh15.get4.cell 2).trans rfl, (gh15.get4.cell 3).trans rfl⟩ | exact ⟨(h15.get3.cell 0).trans rfl, (h15.get3.cell 1).trans rfl, (h15.get3.cell 2).trans rfl, (h15.get3.cell 3).trans rfl⟩ | fail)
    (first | (go_at_call 10; (with_reducible refine CS.out.mono ?_); rintro e w13a ⟨⟨ep4, sa4, ac4, names4, si4, ic4, nums4⟩, rfl, p1, p2, p3, gh15⟩; simp only at p1 p2 p3; simp only [StM.v]; have PP4 := Lib.hid (And.intro p1 (And.intro p2 p3)); clear p1 p2 p3; have CFI := Lib.hid (kfill_ok k w13a _ b _ _ V2 none bw 2 ep4 sa4 si4 ac4 ic4 names4 nums4 PP4.out.1 PP4.out.2.1 PP4.out.2.2 (busy_2 _) (.inr rfl) (.inr rfl) (by omega) gh15)) | (go_at_call 9; (with_reducible refine CFI.out.mono ?_); rintro e w13 ⟨rfl, h15⟩) | fail)
  clear d0 d1 d2 d3 CS CFI gh15 h14
  have HF4 := Lib.hid (fresh_now (V := V2) (s := ⟨ep4, sa4, ac4, names4, si4, ic4, nums4⟩) (l := [tt]) PP4.out.1 PP4.out.2.1 PP4.out.2.2)
  have d0 : w13.cell? ⟨o5, 0, none⟩ = some (.string ⟨#[]⟩) := h15.get3.cell 0
  have d1 : w13.cell? ⟨o5, 1, none⟩ = some (.string ⟨#[]⟩) := h15.get3.cell 1
  have d2 : w13.cell? ⟨o5, 2, none⟩ = some (.int .i64 0) := h15.get3.cell 2
  have d3 : w13.cell? ⟨o5, 3, none⟩ = some (.string ⟨#[113]⟩) := h15.get3.cell 3
  go_wp2_with fail
  refine (klook_got k w13 _ b _ _ _ _ HF4.out (busy_2 _) (.inr rfl) (by show ¬ (2 + 30 : Int) ≤ 2; decide) h15).mono ?_
  rintro e w14 ⟨rfl, h16⟩
  clear d0 d1 d2 d3 h15
  go_wp2_with fail
  refine (fo_size k w14 _ b _ _ 200 60 60 30 kq V2 _ kq_right kq_tiny h16).mono ?_
  rintro e w15 ⟨rfl, h17⟩
  clear h16
  go_wp2_with fail
  refine (fo_all k w15 _ b _ _ 200 60 60 30 kq V2 _ (by omega) h17).mono ?_
  rintro e w16 ⟨rfl, h18⟩
  clear h17
  have d0 : w16.cell? ⟨o5, 0, none⟩ = some (.string ⟨#[]⟩) := h18.get3.cell 0
  have d1 : w16.cell? ⟨o5, 1, none⟩ = some (.string ⟨#[]⟩) := h18.get3.cell 1
  have d2 : w16.cell? ⟨o5, 2, none⟩ = some (.int .i64 0) := h18.get3.cell 2
  have d3 : w16.cell? ⟨o5, 3, none⟩ = some (.string ⟨#[113]⟩) := h18.get3.cell 3
  go_wp2_with fail
  refine (klook_stale k w16 _ b _ _ _ ⟨bw, 2 + 30, ep4, names4, nums4⟩ (stale_all PP4.out.1) (by omega) h18).mono ?_
  rintro e w17 ⟨rfl, h19⟩
  clear d0 d1 d2 d3 h18
  rw [kq_w]
  go_wp2_with fail
  go_ret
  exact ⟨rfl, h19.drop.drop.drop⟩

end Go.Proofs.Ytbeidnddahglbaa
