/- The law PoolNil, walked. -/
import Derived.Test.YticponkpgaofnaaPoolX
import Derived.Test.YticponkpgaofnaaRw
namespace Go.Proofs.Yticponkpgaofnaa
set_option linter.all false
open Go Go.RowKit

set_option maxRecDepth 100000 in
set_option maxHeartbeats 4000000 in
theorem walkPoolNil (W : World) (a : ByteArray) (_w : a.size ≤ 140737488351232) (x : Int) (_v : (Lit.int .i64 x).wf = true) :
    Calls Try.prog 6 #[.string a, .int .i64 x] W fun e w' => e = .returned (.bool true) ∧ Below W.heap.size W w' := by
  have hz := (Sat.whole W).alloc (.cells cellsZ 52)
  have hv1 := nopool_nil (World.env W) (blk W.heap.size (.cells cellsZ 52) * whole W)
  have hv2 := nopool_zero (World.env W) (whole W) W.heap.size
  have H1 := Lib.hid hv1
  have H2 := Lib.hid hv2
  clear hv1 hv2
  go_enter Try.func6, Try.ntmps6
  go_wp2_with fail
  refine (ask_no _ _ _ _ H1.out hz a x 0).mono ?_
  rintro e w1 ⟨rfl, h1⟩
  unfold loanV
  go_wp2_with fail
  refine (ask_no _ _ _ _ H2.out (h1.alloc' _) a x 0).mono ?_
  rintro e w2 ⟨rfl, h2⟩
  unfold loanV
  go_wp2_with fail
  refine (give_no _ _ _ _ H1.out (h2.alloc' _) x 0).mono ?_
  rintro e w3 ⟨rfl, h3⟩
  unfold loanV
  go_wp2_with fail
  refine (holds_no _ _ _ _ H2.out (h3.alloc' _) x).mono ?_
  rintro e w4 ⟨rfl, h4⟩
  go_wp2_with fail
  refine (lost_no _ _ _ _ H1.out h4 x 0).mono ?_
  rintro e w5 ⟨rfl, h5⟩
  unfold loanV
  go_wp2_with fail
  have h6 := (h5.alloc (.cells #[.int .i64 0, .int .i64 0, .bool false] 30)).swap
  generalize w5.alloc (.cells #[.int .i64 0, .int .i64 0, .bool false] 30) = w6 at *
  generalize w5.heap.size = ol at *
  have H3 := Lib.hid (nopool_zero (World.env W) (blk ol (.cells #[.int .i64 0, .int .i64 0, .bool false] 30) * whole W) W.heap.size)
  have H4 := Lib.hid (nopool_nil (World.env W) (blk W.heap.size (.cells cellsZ 52) * (blk ol (.cells #[.int .i64 0, .int .i64 0, .bool false] 30) * whole W)))
  refine (leave_no _ _ _ _ H3.out h6 x 0).mono ?_
  rintro e w7 ⟨rfl, h7⟩
  unfold loanV
  go_wp2_with fail
  refine (count_no _ _ _ _ H4.out (h7.alloc' _) a).mono ?_
  rintro e w8 ⟨rfl, h8⟩
  have l0 : w8.cell? ⟨ol, 0, none⟩ = some (.int .i64 0) := h8.swap.cell 0
  have l1 : w8.cell? ⟨ol, 1, none⟩ = some (.int .i64 0) := h8.swap.cell 1
  have l2 : w8.cell? ⟨ol, 2, none⟩ = some (.bool false) := h8.swap.cell 2
  go_wp2_with fail
  refine (pin_no _ _ _ _ H4.out h8 x).mono ?_
  rintro e w9 ⟨rfl, h9⟩
  go_wp2_with fail
  refine (late_no _ _ _ _ H4.out h9 9).mono ?_
  rintro e w10 ⟨rfl, h10⟩
  go_wp2_with fail
  refine (reap_no _ _ _ _ H3.out h10 9).mono ?_
  rintro e w11 ⟨rfl, h11⟩
  go_wp2_with fail
  refine (copy_no _ _ _ _ H4.out h11).mono ?_
  rintro e w12 ⟨rfl, h12⟩
  go_wp2_with fail
  refine (copy_no _ _ _ _ H3.out h12).mono ?_
  rintro e w13 ⟨rfl, h13⟩
  go_wp2_with fail
  refine (known_any _ _ _ h13.drop.drop).mono ?_
  rintro e w14 ⟨rfl, h14⟩
  go_wp2_with fail
  go_ret
  exact ⟨rfl, h14.below⟩

end Go.Proofs.Yticponkpgaofnaa
