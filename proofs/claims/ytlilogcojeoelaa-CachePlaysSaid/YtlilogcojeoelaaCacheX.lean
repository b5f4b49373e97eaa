/- Package cache: the fixed calls of the laws. -/
import Derived.Test.YtlilogcojeoelaaCacheD
import Derived.Test.YtlilogcojeoelaaCacheE
namespace Go.Proofs.Ytlilogcojeoelaa
set_option linter.all false
open Go Go.RowKit

set_option maxHeartbeats 1000000 in
theorem cnew_ttl (k : Env) (w : World) (R : Assn) (al kp mo ttl : Int) (h1 : 1 ≤ al) (h2 : al ≤ 1073741824) (h3 : 0 ≤ kp) (h4 : kp ≤ al) (h5 : 1 ≤ mo) (h6 : mo ≤ al) (t1 : ttl < 1) (h : Sat k w R) :
    Calls Try.prog 17 #[.int .i64 al, .int .i64 kp, .int .i64 mo, .int .i64 ttl] w fun e w' => e = .returned (.tuple #[.pointer none, .int .i64 1]) ∧ Sat k w' R := by
  have C1 := Lib.hid (new_any k w R al kp mo h1 h2 h3 h4 h5 h6 h)
  clear h1 h2 h3 h4 h5 h6
  go_enter Try.func17, Try.ntmps17
  go_wp2_with (first | (go_at_call 45; (with_reducible refine C1.out.mono ?_); rintro e w1 ⟨s, rfl, g1⟩))
  go_ret2
  exact ⟨rfl, g1.drop⟩

abbrev kd : Ky := ⟨⟨#[100]⟩, ⟨#[114]⟩, 0, ⟨#[113]⟩⟩
abbrev kd1 : Ky := ⟨⟨#[100]⟩, ⟨#[114]⟩, 1, ⟨#[113]⟩⟩
abbrev tkd : ByteArray := ⟨#[100, 0, 114, 0, 0, 0, 113, 0]⟩
abbrev sv : ByteArray := ⟨#[118]⟩
theorem tkd_eq : textK kd = tkd := by decide +kernel
theorem kd_right : rightK kd = true := by decide +kernel
theorem kd_size : sizeK kd sv = 25 := by decide +kernel
theorem kd_tiny : tiny kd := by unfold tiny; decide
theorem kd1_tiny : tiny kd1 := by unfold tiny; decide

abbrev c0 : CS := ⟨100, 60, 60, 3, [], [], [], []⟩
abbrev c1 : CS := ⟨100, 60, 60, 3, [(tkd, 25)], [], [(tkd, 8)], [(kd, sv)]⟩
abbrev c2 : CS := ⟨100, 60, 60, 3, [], [(tkd, 25)], [(tkd, 8)], [(kd, sv)]⟩
abbrev c3 : CS := ⟨100, 60, 60, 3, [], [], [], []⟩
theorem c1_eq : cdrops [] (cputS c0 kd sv 5) = c1 := by
  have h : roomR 100 tkd 25 [] [] = ([], [], []) := by decide +kernel
  have h2 : qset tkd (5 + 3) [] = [(tkd, 8)] := by decide +kernel
  simp only [cdrops, List.foldl_nil, cputS, tkd_eq, kd_size, h, h2]
  rfl
theorem c1_gone : cgone c0 kd sv = ([] : List Ky).map textK := by
  unfold cgone
  rw [tkd_eq, kd_size]
  decide +kernel
theorem c2_eq : ctouch c1 kd 25 = c2 := by
  have h : touchR 60 tkd 25 [(tkd, 25)] [] = ([], [(tkd, 25)], []) := by decide +kernel
  simp only [ctouch, tkd_eq, h]
theorem c3_eq : cdrop c2 kd = c3 := by
  have h1 : dropV tkd [(tkd, 25)] = [] := by decide +kernel
  have h2 : qdrop tkd [(tkd, 8)] = [] := by decide +kernel
  have h3 : mdel kd [(kd, sv)] = [] := by decide +kernel
  have h4 : dropV tkd [] = [] := rfl
  simp only [cdrop, tkd_eq, h1, h2, h3, h4]

set_option maxRecDepth 100000 in
set_option maxHeartbeats 4000000 in
theorem known_any (k : Env) (w : World) (R : Assn) (h : Sat k w R) :
    Calls Try.prog 9 #[] w fun e w' => e = .returned (.bool true) ∧ Sat k w' R := by
  have heq : ∀ w : World, (binOp .eql 23 (.agg #[.string ⟨#[100]⟩, .string ⟨#[114]⟩, .int .i64 0, .string ⟨#[113]⟩]) (.agg #[.string ⟨#[100]⟩, .string ⟨#[114]⟩, .int .i64 0, .string ⟨#[113]⟩])).run Try.prog w = .ok (.bool true) w := fun _ => by kernel_rfl
  go_enter Try.func9, Try.ntmps9
  go_wp2_with fail
  refine (cnew_any k w R 100 60 60 3 (by omega) (by omega) (by omega) (by omega) (by omega) (by omega) (by omega) (by omega) h).mono ?_
  rintro e w1 ⟨b, rfl, h1⟩
  go_wp2_with fail
  refine (cnew_ttl k w1 _ 100 60 60 0 (by omega) (by omega) (by omega) (by omega) (by omega) (by omega) (by omega) h1).mono ?_
  rintro e w2 ⟨rfl, h2⟩
  go_upto_region 6 with fail
  have h3 := (h2.alloc (.cells #[.string ⟨#[100]⟩, .string ⟨#[114]⟩, .int .i64 0, .string ⟨#[113]⟩] 23)).swap
  generalize w2.alloc (.cells #[.string ⟨#[100]⟩, .string ⟨#[114]⟩, .int .i64 0, .string ⟨#[113]⟩] 23) = w3 at *
  generalize w2.heap.size = o at *
  have d0 : w3.cell? ⟨o, 0, none⟩ = some (.string ⟨#[100]⟩) := h3.swap.cell 0
  have d1 : w3.cell? ⟨o, 1, none⟩ = some (.string ⟨#[114]⟩) := h3.swap.cell 1
  have d2 : w3.cell? ⟨o, 2, none⟩ = some (.int .i64 0) := h3.swap.cell 2
  have d3 : w3.cell? ⟨o, 3, none⟩ = some (.string ⟨#[113]⟩) := h3.swap.cell 3
  go_wp2_with fail
  refine (cput_ok k w3 _ b 0 c0 kd sv 5 [] kd_right kd_tiny (by decide) (by omega) (by omega) (by rw [kd_size]; decide) (by decide) (by decide) (by omega) c1_gone (by simp) (by simp) h3).mono ?_
  rintro e w4 ⟨v4, rfl, h4⟩
  rw [c1_eq] at h4
  obtain ⟨va, vc, rfl⟩ := rec_val h4
  replace h4 := h4.drop
  clear d0 d1 d2 d3
  have d0 : w4.cell? ⟨o, 0, none⟩ = some (.string ⟨#[100]⟩) := h4.swap.cell 0
  have d1 : w4.cell? ⟨o, 1, none⟩ = some (.string ⟨#[114]⟩) := h4.swap.cell 1
  have d2 : w4.cell? ⟨o, 2, none⟩ = some (.int .i64 0) := h4.swap.cell 2
  have d3 : w4.cell? ⟨o, 3, none⟩ = some (.string ⟨#[113]⟩) := h4.swap.cell 3
  go_wp2_with fail
  refine (cget_some k w4 _ b 1 c1 kd 7 8 25 sv kd_right kd_tiny (by decide +kernel) (by rw [tkd_eq]; decide +kernel) (by omega) (by rw [tkd_eq]; decide +kernel) h4).mono ?_
  rintro e w5 ⟨rfl, h5⟩
  rw [c2_eq] at h5
  go_wp2_with fail
  refine (cget_none k w5 _ b 1 c2 kd1 7 (by decide +kernel) h5).mono ?_
  rintro e w6 ⟨rfl, h6⟩
  go_wp2_with fail
  refine (cbytes_any k w6 _ b 1 c2 (by decide +kernel) h6).mono ?_
  rintro e w7 ⟨rfl, h7⟩
  rw [show sumV c2.K + sumV c2.T = 25 from by decide +kernel]
  clear d0 d1 d2 d3
  have d0 : w7.cell? ⟨o, 0, none⟩ = some (.string ⟨#[100]⟩) := h7.swap.cell 0
  have d1 : w7.cell? ⟨o, 1, none⟩ = some (.string ⟨#[114]⟩) := h7.swap.cell 1
  have d2 : w7.cell? ⟨o, 2, none⟩ = some (.int .i64 0) := h7.swap.cell 2
  have d3 : w7.cell? ⟨o, 3, none⟩ = some (.string ⟨#[113]⟩) := h7.swap.cell 3
  go_wp2_with fail
  refine (cget_late k w7 _ b 1 c2 kd 8 8 sv kd_right kd_tiny (by omega) (by decide +kernel) (by rw [tkd_eq]; decide +kernel) (by omega) h7).mono ?_
  rintro e w8 ⟨rfl, h8⟩
  rw [c3_eq] at h8
  clear d0 d1 d2 d3
  have d0 : w8.cell? ⟨o, 0, none⟩ = some (.string ⟨#[100]⟩) := h8.swap.cell 0
  have d1 : w8.cell? ⟨o, 1, none⟩ = some (.string ⟨#[114]⟩) := h8.swap.cell 1
  have d2 : w8.cell? ⟨o, 2, none⟩ = some (.int .i64 0) := h8.swap.cell 2
  have d3 : w8.cell? ⟨o, 3, none⟩ = some (.string ⟨#[113]⟩) := h8.swap.cell 3
  go_wp2_with fail
  refine (text_any k w8 _ kd kd_tiny h8).mono ?_
  rintro e w9 ⟨rfl, h9⟩
  rw [tkd_eq]
  go_wp2_with fail
  have hpt := parse_text k w9 _ kd kd_tiny kd_right h9
  rw [tkd_eq] at hpt
  refine hpt.mono ?_
  rintro e w10 ⟨rfl, h10⟩
  unfold kyV
  go_upto_region 12 with fail
  have h11 := (h10.alloc (.cells #[.string ⟨#[100]⟩, .string ⟨#[114]⟩, .int .i64 0, .string ⟨#[113]⟩] 23)).swap
  generalize w10.alloc (.cells #[.string ⟨#[100]⟩, .string ⟨#[114]⟩, .int .i64 0, .string ⟨#[113]⟩] 23) = w11 at *
  generalize w10.heap.size = o2 at *
  clear d0 d1 d2 d3
  go_wp2_with fail
  refine (cbytes_any k w11 _ b 1 c3 (by decide +kernel) h11).mono ?_
  rintro e w12 ⟨rfl, h12⟩
  rw [show sumV c3.K + sumV c3.T = 0 from by decide +kernel]
  have d0 : w12.cell? ⟨o, 0, none⟩ = some (.string ⟨#[100]⟩) := h12.get3.cell 0
  have d1 : w12.cell? ⟨o, 1, none⟩ = some (.string ⟨#[114]⟩) := h12.get3.cell 1
  have d2 : w12.cell? ⟨o, 2, none⟩ = some (.int .i64 0) := h12.get3.cell 2
  have d3 : w12.cell? ⟨o, 3, none⟩ = some (.string ⟨#[113]⟩) := h12.get3.cell 3
  have e0 : w12.cell? ⟨o2, 0, none⟩ = some (.string ⟨#[100]⟩) := h12.swap.cell 0
  have e1 : w12.cell? ⟨o2, 1, none⟩ = some (.string ⟨#[114]⟩) := h12.swap.cell 1
  have e2 : w12.cell? ⟨o2, 2, none⟩ = some (.int .i64 0) := h12.swap.cell 2
  have e3 : w12.cell? ⟨o2, 3, none⟩ = some (.string ⟨#[113]⟩) := h12.swap.cell 3
  go_wp2_with fail
  refine (text_any k w12 _ kd kd_tiny h12).mono ?_
  rintro e w13 ⟨rfl, h13⟩
  rw [tkd_eq]
  clear d0 d1 d2 d3 e0 e1 e2 e3
  have d0 : w13.cell? ⟨o, 0, none⟩ = some (.string ⟨#[100]⟩) := h13.get3.cell 0
  have d1 : w13.cell? ⟨o, 1, none⟩ = some (.string ⟨#[114]⟩) := h13.get3.cell 1
  have d2 : w13.cell? ⟨o, 2, none⟩ = some (.int .i64 0) := h13.get3.cell 2
  have d3 : w13.cell? ⟨o, 3, none⟩ = some (.string ⟨#[113]⟩) := h13.get3.cell 3
  go_wp2_with fail
  refine (size_any k w13 _ kd sv kd_tiny (by decide) h13).mono ?_
  rintro e w14 ⟨rfl, h14⟩
  rw [kd_size]
  go_wp2_with fail
  go_ret
  exact ⟨rfl, h14.drop.drop.drop⟩

end Go.Proofs.Ytlilogcojeoelaa
