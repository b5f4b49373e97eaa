/- Package pool: pools that are not there. -/
import Derived.Test.YticponkpgaofnaaPoolK
import Derived.Test.YticponkpgaofnaaPoolO
namespace Go.Proofs.Yticponkpgaofnaa
set_option linter.all false
open Go Go.RowKit

/-- What is no pool. -/
def NoPool (k : Env) (R : Assn) (v : Value) : Prop := ∀ w, Sat k w R → Calls Try.prog 20 #[v] w fun e w' => e = .returned (.bool false) ∧ w = w'
theorem nopool_nil (k : Env) (R : Assn) : NoPool k R (.pointer none) := fun w _ => pthere_nil w
def cellsZ : Array Value := #[.int .i64 0, .int .i64 0, .int .i64 0, .int .i64 0, .int .i64 0, .map none, .slice none 0 0, .map none, .map none]
theorem nopool_zero (k : Env) (R : Assn) (b : Nat) : NoPool k (blk b (.cells cellsZ 52 (0, 0)) * R) (pt b) := fun w h => pthere_zero w b (h.cell 5)

section
variable (k : Env) (w : World) (R : Assn) (v : Value) (hv : NoPool k R v) (h : Sat k w R)
include hv h
set_option maxHeartbeats 1000000 in
theorem ask_no (s : ByteArray) (x now : Int) : Calls Try.prog 8 #[v, .string s, .int .i64 x, .int .i64 now] w fun e w' => e = .returned (.tuple #[loanV 0 0 false, .bool false, .int .i64 12]) ∧ Sat k w' R := by
  have h0 := h.alloc (.cells loan0.toArray 30)
  go_enter Try.func8, Try.ntmps8
  go_upto_region 1 with fail
  generalize w.alloc (.cells loan0.toArray 30) = w0 at *
  generalize w.heap.size = og at *
  have e0 : w0.cell? ⟨og, 0, none⟩ = some (.int .i64 0) := h0.cell 0
  have e1 : w0.cell? ⟨og, 1, none⟩ = some (.int .i64 0) := h0.cell 1
  have e2 : w0.cell? ⟨og, 2, none⟩ = some (.bool false) := h0.cell 2
  have f0 := h0.frozen
  go_wp2_with (go_at_call 20; refine (hv _ h0.drop).mono ?_; rintro e w' ⟨rfl, rfl⟩)
  refine bodyPost_ret (v := .tuple #[loanV 0 0 false, .bool false, .int .i64 12]) (by simp [results, Try.results8, go_sem, e0, e1, e2, loanV]) rfl ⟨rfl, ?_⟩
  exact (((h0.set 0 _).set 1 _).set 2 _).drop
set_option maxHeartbeats 1000000 in
theorem give_no (x now : Int) : Calls Try.prog 9 #[v, .int .i64 x, .int .i64 now] w fun e w' => e = .returned (.tuple #[loanV 0 0 false, .bool false]) ∧ Sat k w' R := by
  have h0 := h.alloc (.cells loan0.toArray 30)
  go_enter Try.func9, Try.ntmps9
  go_upto_region 1 with fail
  generalize w.alloc (.cells loan0.toArray 30) = w0 at *
  generalize w.heap.size = og at *
  have e0 : w0.cell? ⟨og, 0, none⟩ = some (.int .i64 0) := h0.cell 0
  have e1 : w0.cell? ⟨og, 1, none⟩ = some (.int .i64 0) := h0.cell 1
  have e2 : w0.cell? ⟨og, 2, none⟩ = some (.bool false) := h0.cell 2
  have f0 := h0.frozen
  go_wp2_with (go_at_call 20; refine (hv _ h0.drop).mono ?_; rintro e w' ⟨rfl, rfl⟩)
  refine bodyPost_ret (v := .tuple #[loanV 0 0 false, .bool false]) (by simp [results, Try.results9, go_sem, e0, e1, e2, loanV]) rfl ⟨rfl, ?_⟩
  exact (((h0.set 0 _).set 1 _).set 2 _).drop
set_option maxHeartbeats 1000000 in
theorem pin_no (x : Int) : Calls Try.prog 10 #[v, .int .i64 x] w fun e w' => e = .returned (.bool false) ∧ Sat k w' R := by
  go_enter Try.func10, Try.ntmps10
  go_wp2_with (go_at_call 20; refine (hv _ h).mono ?_; rintro e w' ⟨rfl, rfl⟩)
  go_ret
  exact ⟨rfl, h⟩
set_option maxHeartbeats 1000000 in
theorem lost_no (x now : Int) : Calls Try.prog 11 #[v, .int .i64 x, .int .i64 now] w fun e w' => e = .returned (.tuple #[.int .i64 (-1), loanV 0 0 false, .bool false]) ∧ Sat k w' R := by
  have h0 := h.alloc (.cells loan0.toArray 30)
  go_enter Try.func11, Try.ntmps11
  go_upto_region 1 with fail
  generalize w.alloc (.cells loan0.toArray 30) = w0 at *
  generalize w.heap.size = og at *
  have e0 : w0.cell? ⟨og, 0, none⟩ = some (.int .i64 0) := h0.cell 0
  have e1 : w0.cell? ⟨og, 1, none⟩ = some (.int .i64 0) := h0.cell 1
  have e2 : w0.cell? ⟨og, 2, none⟩ = some (.bool false) := h0.cell 2
  have f0 := h0.frozen
  go_wp2_with (go_at_call 20; refine (hv _ h0.drop).mono ?_; rintro e w' ⟨rfl, rfl⟩)
  refine bodyPost_ret (v := .tuple #[.int .i64 (-1), loanV 0 0 false, .bool false]) (by simp [results, Try.results11, go_sem, e0, e1, e2, loanV]) rfl ⟨rfl, ?_⟩
  exact (((h0.set 0 _).set 1 _).set 2 _).drop
set_option maxHeartbeats 1000000 in
theorem leave_no (x now : Int) : Calls Try.prog 12 #[v, .int .i64 x, .int .i64 now] w fun e w' => e = .returned (.tuple #[.int .i64 0, loanV 0 0 false, .bool false]) ∧ Sat k w' R := by
  have h0 := h.alloc (.cells loan0.toArray 30)
  go_enter Try.func12, Try.ntmps12
  go_upto_region 1 with fail
  generalize w.alloc (.cells loan0.toArray 30) = w0 at *
  generalize w.heap.size = og at *
  have e0 : w0.cell? ⟨og, 0, none⟩ = some (.int .i64 0) := h0.cell 0
  have e1 : w0.cell? ⟨og, 1, none⟩ = some (.int .i64 0) := h0.cell 1
  have e2 : w0.cell? ⟨og, 2, none⟩ = some (.bool false) := h0.cell 2
  have f0 := h0.frozen
  go_wp2_with (go_at_call 20; refine (hv _ h0.drop).mono ?_; rintro e w' ⟨rfl, rfl⟩)
  refine bodyPost_ret (v := .tuple #[.int .i64 0, loanV 0 0 false, .bool false]) (by simp [results, Try.results12, go_sem, e0, e1, e2, loanV]) rfl ⟨rfl, ?_⟩
  exact (((h0.set 0 _).set 1 _).set 2 _).drop
set_option maxHeartbeats 1000000 in
theorem late_no (now : Int) : Calls Try.prog 13 #[v, .int .i64 now] w fun e w' => e = .returned (.slice none 0 0) ∧ Sat k w' R := by
  go_enter Try.func13, Try.ntmps13
  go_wp2_with (go_at_call 20; refine (hv _ h).mono ?_; rintro e w' ⟨rfl, rfl⟩)
  go_ret
  exact ⟨rfl, h⟩
set_option maxHeartbeats 1000000 in
theorem reap_no (now : Int) : Calls Try.prog 14 #[v, .int .i64 now] w fun e w' => e = .returned (.slice none 0 0) ∧ Sat k w' R := by
  go_enter Try.func14, Try.ntmps14
  go_wp2_with (go_at_call 20; refine (hv _ h).mono ?_; rintro e w' ⟨rfl, rfl⟩)
  go_ret
  exact ⟨rfl, h⟩
set_option maxHeartbeats 1000000 in
theorem holds_no (x : Int) : Calls Try.prog 16 #[v, .int .i64 x] w fun e w' => e = .returned (.tuple #[.int .i64 0, .bool false]) ∧ Sat k w' R := by
  go_enter Try.func16, Try.ntmps16
  go_wp2_with (go_at_call 20; refine (hv _ h).mono ?_; rintro e w' ⟨rfl, rfl⟩)
  go_ret2
  exact ⟨rfl, h⟩
set_option maxHeartbeats 1000000 in
theorem count_no (s : ByteArray) : Calls Try.prog 15 #[v, .string s] w fun e w' => e = .returned (.tuple #[.int .i64 0, .int .i64 0, .int .i64 0]) ∧ Sat k w' R := by
  go_enter Try.func15, Try.ntmps15
  go_wp2_with (go_at_call 20; refine (hv _ h).mono ?_; rintro e w' ⟨rfl, rfl⟩)
  go_ret3
  exact ⟨rfl, h⟩
set_option maxHeartbeats 1000000 in
theorem copy_no  : Calls Try.prog 18 #[v] w fun e w' => e = .returned (.pointer none) ∧ Sat k w' R := by
  go_enter Try.func18, Try.ntmps18
  go_wp2_with (go_at_call 20; refine (hv _ h).mono ?_; rintro e w' ⟨rfl, rfl⟩)
  go_ret
  exact ⟨rfl, h⟩
end

end Go.Proofs.Yticponkpgaofnaa
