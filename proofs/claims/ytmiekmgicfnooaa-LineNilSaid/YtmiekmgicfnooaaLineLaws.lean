/- The laws of package line, walked. -/
import Derived.Test.YtmiekmgicfnooaaLineK
import Derived.Test.YtmiekmgicfnooaaRw
namespace Go.Proofs.Ytmiekmgicfnooaa
open Go Go.RowKit

set_option maxHeartbeats 2000000 in
theorem walkLineNil (W : World) (id : Int) (_w : (Lit.int .i64 id).wf = true) :
    Calls Try.prog 7 #[.int .i64 id] W fun e w' => e = .returned (.bool true) ∧ Below W.heap.size W w' := by
  have hz := (Sat.whole W).alloc (.cells #[.slice none 0 0, .int .i64 0] 52)
  have h1 : (W.alloc (.cells #[.slice none 0 0, .int .i64 0] 52)).cell? ⟨W.heap.size, 1, none⟩ = some (.int .i64 0) := (hz.cell 1).trans rfl
  go_enter Try.func7, Try.ntmps7
  go_wp2_with fail
  refine (first_nil _).mono ?_
  rintro e w' ⟨rfl, rfl⟩
  go_wp2_with fail
  refine (first_zero h1).mono ?_
  rintro e w' ⟨rfl, rfl⟩
  go_wp2_with fail
  refine (join_nil _ _ _).mono ?_
  rintro e w' ⟨rfl, rfl⟩
  go_wp2_with fail
  refine (join_zero _ _ h1).mono ?_
  rintro e w' ⟨rfl, rfl⟩
  go_wp2_with fail
  refine (leave_nil _ _).mono ?_
  rintro e w' ⟨rfl, rfl⟩
  go_wp2_with fail
  refine (leave_zero _ h1).mono ?_
  rintro e w' ⟨rfl, rfl⟩
  go_wp2_with fail
  refine (late_nil _ _).mono ?_
  rintro e w' ⟨rfl, rfl⟩
  go_wp2_with fail
  refine (place_nil _ _).mono ?_
  rintro e w' ⟨rfl, rfl⟩
  go_wp2_with fail
  refine (place_zero _ h1).mono ?_
  rintro e w' ⟨rfl, rfl⟩
  go_wp2_with fail
  refine (all_zero h1).mono ?_
  rintro e w' ⟨rfl, rfl⟩
  go_wp2_with fail
  refine (copy_nil _).mono ?_
  rintro e w' ⟨rfl, rfl⟩
  go_wp2_with fail
  refine (copy_zero h1).mono ?_
  rintro e w' ⟨rfl, rfl⟩
  go_wp2_with fail
  refine (known_any _ _ _ hz.drop).mono ?_
  rintro e w' ⟨rfl, h2⟩
  go_wp2_with fail
  go_ret
  exact ⟨rfl, h2.below⟩

end Go.Proofs.Ytmiekmgicfnooaa
