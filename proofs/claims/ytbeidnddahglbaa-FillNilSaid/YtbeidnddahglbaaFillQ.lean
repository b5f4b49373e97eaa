/- Package fill: ones that are not there; the law FillNil, walked. -/
import Derived.Test.YtbeidnddahglbaaFillK
import Derived.Test.YtbeidnddahglbaaCacheL
import Derived.Test.YtbeidnddahglbaaStrsW
namespace Go.Proofs.Ytbeidnddahglbaa
set_option linter.all false
open Go Go.RowKit

theorem fthere_nil (w : World) : Calls Try.prog 23 #[.pointer none] w fun e w' => e = .returned (.bool false) ∧ w = w' := by
  go_enter Try.func23, Try.ntmps23
  go_wp2
  go_ret
  exact ⟨rfl, rfl⟩
theorem fthere_zero (w : World) (b : Nat) (h : w.cell? ⟨b, 2, none⟩ = some (.map none)) :
    Calls Try.prog 23 #[pq b] w fun e w' => e = .returned (.bool false) ∧ w = w' := by
  have hm := fun (w : World) (r : Option Nat) => run_neq_map_nil (P := Try.prog) w 52 _ _ r mapSt
  go_enter Try.func23, Try.ntmps23
  go_wp2
  go_ret
  exact ⟨rfl, rfl⟩
/-- What is none. -/
def NoFi (k : Env) (R : Assn) (v : Value) : Prop := ∀ w, Sat k w R → Calls Try.prog 23 #[v] w fun e w' => e = .returned (.bool false) ∧ w = w'
theorem nofi_nil (k : Env) (R : Assn) : NoFi k R (.pointer none) := fun w _ => fthere_nil w
def cellsFZ : Array Value := #[.pointer none, .pointer none, .map none]
theorem nofi_zero (k : Env) (R : Assn) (b : Nat) : NoFi k (blk b (.cells cellsFZ 54 (0, 0)) * R) (pq b) := fun w h => fthere_zero w b (h.cell 2)
def stV : Value := .agg #[.int .i64 0, .slice none 0 0, .slice none 0 0]

section
variable (k : Env) (w : World) (R : Assn) (v : Value) (hv : NoFi k R v) (h : Sat k w R)
include hv h
set_option maxHeartbeats 1000000 in
theorem flook_no (y : Ky) (now : Int) : Calls Try.prog 11 #[v, kyV y, .int .i64 now] w fun e w' => e = .returned (.tuple #[.string ⟨#[]⟩, .bool false]) ∧ Sat k w' R := by
  have h0 := h.alloc (.cells #[.string y.db, .string y.ro, .int .i64 y.fm, .string y.nm] 30)
  unfold kyV
  go_enter Try.func11, Try.ntmps11
  go_upto_region 1 with fail
  generalize w.alloc (.cells #[.string y.db, .string y.ro, .int .i64 y.fm, .string y.nm] 30) = w0 at *
  generalize w.heap.size = og at *
  go_wp2_with (go_at_call 23; refine (hv _ h0.drop).mono ?_; rintro e w' ⟨rfl, rfl⟩)
  go_ret2
  exact ⟨rfl, h0.drop⟩
set_option maxHeartbeats 1000000 in
theorem fwrite_no (c : Int) (a : Value) : Calls Try.prog 12 #[v, .int .i64 c, a] w fun e w' => e = .returned (.tuple #[]) ∧ Sat k w' R := by
  go_enter Try.func12, Try.ntmps12
  go_wp2_with (go_at_call 23; refine (hv _ h).mono ?_; rintro e w' ⟨rfl, rfl⟩)
  go_end0
  exact ⟨rfl, h⟩
set_option maxHeartbeats 1000000 in
theorem fcommit_no (c : Int) (a : Value) : Calls Try.prog 14 #[v, .int .i64 c, a] w fun e w' => e = .returned (.tuple #[]) ∧ Sat k w' R := by
  go_enter Try.func14, Try.ntmps14
  go_wp2_with (go_at_call 23; refine (hv _ h).mono ?_; rintro e w' ⟨rfl, rfl⟩)
  go_end0
  exact ⟨rfl, h⟩
set_option maxHeartbeats 1000000 in
theorem fall_no  : Calls Try.prog 15 #[v] w fun e w' => e = .returned (.tuple #[]) ∧ Sat k w' R := by
  go_enter Try.func15, Try.ntmps15
  go_wp2_with (go_at_call 23; refine (hv _ h).mono ?_; rintro e w' ⟨rfl, rfl⟩)
  go_end0
  exact ⟨rfl, h⟩
set_option maxHeartbeats 1000000 in
theorem fsize_no  : Calls Try.prog 17 #[v] w fun e w' => e = .returned (.tuple #[.int .i64 0, .int .i64 0]) ∧ Sat k w' R := by
  go_enter Try.func17, Try.ntmps17
  go_wp2_with (go_at_call 23; refine (hv _ h).mono ?_; rintro e w' ⟨rfl, rfl⟩)
  go_ret2
  exact ⟨rfl, h⟩
set_option maxHeartbeats 1000000 in
theorem fflush_no  : Calls Try.prog 18 #[v] w fun e w' => e = .returned (.int .i64 0) ∧ Sat k w' R := by
  go_enter Try.func18, Try.ntmps18
  go_wp2_with (go_at_call 23; refine (hv _ h).mono ?_; rintro e w' ⟨rfl, rfl⟩)
  go_ret
  exact ⟨rfl, h⟩
set_option maxHeartbeats 1000000 in
theorem ftick_no (now : Int) : Calls Try.prog 19 #[v, .int .i64 now] w fun e w' => e = .returned (.int .i64 0) ∧ Sat k w' R := by
  go_enter Try.func19, Try.ntmps19
  go_wp2_with (go_at_call 23; refine (hv _ h).mono ?_; rintro e w' ⟨rfl, rfl⟩)
  go_ret
  exact ⟨rfl, h⟩
set_option maxHeartbeats 1000000 in
theorem fcopy_no  : Calls Try.prog 20 #[v] w fun e w' => e = .returned (.pointer none) ∧ Sat k w' R := by
  go_enter Try.func20, Try.ntmps20
  go_wp2_with (go_at_call 23; refine (hv _ h).mono ?_; rintro e w' ⟨rfl, rfl⟩)
  go_ret
  exact ⟨rfl, h⟩
set_option maxHeartbeats 1000000 in
theorem ffill_nov (y : Ky) (x : ByteArray) (now : Int) : Calls Try.prog 9 #[v, kyV y, .string x, .agg #[.int .i64 0, .slice none 0 0, .slice none 0 0], .int .i64 now] w fun e w' => e = .returned (.tuple #[.bool false, .int .i64 12]) ∧ Sat k w' R := by
  have h0 := (h.alloc (.cells #[.string y.db, .string y.ro, .int .i64 y.fm, .string y.nm] 30)).alloc (.cells #[.int .i64 0, .slice none 0 0, .slice none 0 0] 32)
  unfold kyV
  go_enter Try.func9, Try.ntmps9
  go_upto_region 1 with fail
  generalize (w.alloc (.cells #[.string y.db, .string y.ro, .int .i64 y.fm, .string y.nm] 30)).alloc (.cells #[.int .i64 0, .slice none 0 0, .slice none 0 0] 32) = w0 at *
  go_wp2_with (go_at_call 23; refine (hv _ h0.drop.drop).mono ?_; rintro e w' ⟨rfl, rfl⟩)
  go_ret2
  exact ⟨rfl, h0.drop.drop⟩
set_option maxHeartbeats 1000000 in
theorem fstart_no (a : Value) : Calls Try.prog 10 #[v, a] w fun e w' => e = .returned (.agg #[.int .i64 0, .slice none 0 0, .slice none 0 0]) ∧ Sat k w' R := by
  have h0 := h.alloc (.cells #[.int .i64 0, .slice none 0 0, .slice none 0 0] 32)
  go_enter Try.func10, Try.ntmps10
  go_upto_region 1 with fail
  generalize w.alloc (.cells #[.int .i64 0, .slice none 0 0, .slice none 0 0] 32) = w0 at *
  generalize w.heap.size = o4 at *
  have g0 : w0.cell? ⟨o4, 0, none⟩ = some (.int .i64 0) := h0.cell 0
  have g1 : w0.cell? ⟨o4, 1, none⟩ = some (.slice none 0 0) := h0.cell 1
  have g2 : w0.cell? ⟨o4, 2, none⟩ = some (.slice none 0 0) := h0.cell 2
  have f0 := h0.frozen 0
  have f1 := h0.frozen 1
  have f2 := h0.frozen 2
  go_wp2_with (go_at_call 23; refine (hv _ h0.drop).mono ?_; rintro e w' ⟨rfl, rfl⟩)
  have h5 := ((h0.set 0 (.int .i64 0)).set 1 (.slice none 0 0)).set 2 (.slice none 0 0)
  generalize ((w0.setCell ⟨o4, 0, none⟩ (.int .i64 0)).setCell ⟨o4, 1, none⟩ (.slice none 0 0)).setCell ⟨o4, 2, none⟩ (.slice none 0 0) = w9 at *
  clear g0 g1 g2 f0 f1 f2 h0
  have g0 : w9.cell? ⟨o4, 0, none⟩ = some (.int .i64 0) := h5.cell 0
  have g1 : w9.cell? ⟨o4, 1, none⟩ = some (.slice none 0 0) := h5.cell 1
  have g2 : w9.cell? ⟨o4, 2, none⟩ = some (.slice none 0 0) := h5.cell 2
  refine bodyPost_ret (v := .agg #[.int .i64 0, .slice none 0 0, .slice none 0 0]) (by simp [results, Try.results10, go_sem, g0, g1, g2]) rfl ?_
  exact ⟨rfl, h5.drop⟩
end

set_option maxRecDepth 100000 in
set_option maxHeartbeats 8000000 in
theorem walkFillNil (W : World) (y : Ky) (_w : okKy y) (a : Option Addr) (len cap : Nat) (xs : List (List Value)) (_z : IsRecs W a len cap 1 okStr xs) :
    Calls Try.prog 6 #[kyV y, .slice a len cap] W fun e w' => e = .returned (.bool true) ∧ Below W.heap.size W w' := by
  have hz := ((Sat.whole W).alloc (.cells (kyc y).toArray 30)).alloc (.cells cellsFZ 54)
  simp only [World.size_alloc, kyc, cellsFZ] at hz
  have hfd : ∀ w : World, (Instr.field 32 (.agg #[.int .i64 0, .slice none 0 0, .slice none 0 0]) 1).run Try.prog w = .ok (.slice none 0 0) w := fun _ => by kernel_rfl
  unfold kyV
  go_enter Try.func6, Try.ntmps6
  go_upto_region 3 with fail
  generalize ((W.alloc (.cells #[.string y.db, .string y.ro, .int .i64 y.fm, .string y.nm] 30)).alloc (.cells #[.pointer none, .pointer none, .map none] 54)) = w0 at *
  generalize W.heap.size + 1 = oz at *
  generalize W.heap.size = o at *
  have H1 := Lib.hid (nofi_nil (World.env W) (blk oz (.cells cellsFZ 54 (0, 0)) * (blk o (.cells #[.string y.db, .string y.ro, .int .i64 y.fm, .string y.nm] 30 (0, 0)) * whole W)))
  have H2 := Lib.hid (nofi_zero (World.env W) (blk o (.cells #[.string y.db, .string y.ro, .int .i64 y.fm, .string y.nm] 30 (0, 0)) * whole W) oz)
  replace hz : Sat (World.env W) w0 (blk oz (.cells cellsFZ 54 (0, 0)) * (blk o (.cells #[.string y.db, .string y.ro, .int .i64 y.fm, .string y.nm] 30 (0, 0)) * whole W)) := hz
  generalize hP : (blk oz (.cells cellsFZ 54 (0, 0)) * (blk o (.cells #[.string y.db, .string y.ro, .int .i64 y.fm, .string y.nm] 30 (0, 0)) * whole W)) = Pz at *
  have HD : Hid (∀ {w' : World}, Sat (World.env W) w' Pz → w'.cell? ⟨o, 0, none⟩ = some (.string y.db) ∧ w'.cell? ⟨o, 1, none⟩ = some (.string y.ro) ∧ w'.cell? ⟨o, 2, none⟩ = some (.int .i64 y.fm) ∧ w'.cell? ⟨o, 3, none⟩ = some (.string y.nm)) := by
    unfold Hid
    intro w' h'
    rw [← hP] at h'
    exact ⟨h'.swap.cell 0, h'.swap.cell 1, h'.swap.cell 2, h'.swap.cell 3⟩
  have HB : Hid (∀ {w' : World}, Sat (World.env W) w' Pz → Sat (World.env W) w' (whole W)) := by
    unfold Hid
    intro w' h'
    rw [← hP] at h'
    exact h'.drop.drop
  clear hP
  obtain ⟨d0, d1, d2, d3⟩ := HD.out hz
  go_wp2_with fail
  refine (ffill_nov _ w0 _ _ H1.out hz y ⟨#[]⟩ 0).mono ?_
  rintro e w1 ⟨rfl, g1⟩
  clear d0 d1 d2 d3
  obtain ⟨d0, d1, d2, d3⟩ := HD.out g1
  go_wp2_with fail
  refine (ffill_nov _ w1 _ _ H2.out g1 y ⟨#[]⟩ 0).mono ?_
  rintro e w2 ⟨rfl, g2⟩
  clear d0 d1 d2 d3
  obtain ⟨d0, d1, d2, d3⟩ := HD.out g2
  go_wp2_with fail
  refine (flook_no _ w2 _ _ H1.out g2 y 0).mono ?_
  rintro e w3 ⟨rfl, g3⟩
  clear d0 d1 d2 d3
  obtain ⟨d0, d1, d2, d3⟩ := HD.out g3
  go_wp2_with fail
  refine (flook_no _ w3 _ _ H2.out g3 y 0).mono ?_
  rintro e w4 ⟨rfl, g4⟩
  clear d0 d1 d2 d3
  go_wp2_with fail
  refine (fwrite_no _ w4 _ _ H1.out g4 1 _).mono ?_
  rintro e w5 ⟨rfl, g5⟩
  go_wp2_with fail
  refine (fcommit_no _ w5 _ _ H2.out g5 1 _).mono ?_
  rintro e w6 ⟨rfl, g6⟩
  go_wp2_with fail
  refine (fall_no _ w6 _ _ H1.out g6).mono ?_
  rintro e w7 ⟨rfl, g7⟩
  go_wp2_with fail
  refine (fall_no _ w7 _ _ H2.out g7).mono ?_
  rintro e w8 ⟨rfl, g8⟩
  go_wp2_with fail
  refine (fsize_no _ w8 _ _ H1.out g8).mono ?_
  rintro e w9 ⟨rfl, g9⟩
  go_wp2_with fail
  refine (fflush_no _ w9 _ _ H1.out g9).mono ?_
  rintro e w10 ⟨rfl, g10⟩
  go_wp2_with fail
  refine (fflush_no _ w10 _ _ H2.out g10).mono ?_
  rintro e w11 ⟨rfl, g11⟩
  go_wp2_with fail
  refine (ftick_no _ w11 _ _ H1.out g11 9).mono ?_
  rintro e w12 ⟨rfl, g12⟩
  go_wp2_with fail
  refine (ftick_no _ w12 _ _ H2.out g12 9).mono ?_
  rintro e w13 ⟨rfl, g13⟩
  go_wp2_with fail
  refine (fstart_no _ w13 _ _ H2.out g13 _).mono ?_
  rintro e w14 ⟨rfl, g14⟩
  go_wp2_with fail
  refine (fcopy_no _ w14 _ _ H1.out g14).mono ?_
  rintro e w15 ⟨rfl, g15⟩
  go_wp2_with fail
  refine (fcopy_no _ w15 _ _ H2.out g15).mono ?_
  rintro e w16 ⟨rfl, g16⟩
  go_wp2_with fail
  refine (known15_any _ _ _ (HB.out g16)).mono ?_
  rintro e w20 ⟨rfl, h20⟩
  go_wp2_with fail
  go_ret
  exact ⟨rfl, h20.below⟩

end Go.Proofs.Ytbeidnddahglbaa
