/- Package cache: caches that are not there. -/
import Derived.Test.YtlilogcojeoelaaCacheO
namespace Go.Proofs.Ytlilogcojeoelaa
set_option linter.all false
open Go Go.RowKit

/-- What is no cache. -/
def NoCa (k : Env) (R : Assn) (v : Value) : Prop := ∀ w, Sat k w R → Calls Try.prog 47 #[v] w fun e w' => e = .returned (.bool false) ∧ w = w'
theorem noca_nil (k : Env) (R : Assn) : NoCa k R (.pointer none) := fun w _ => cthere_nil w
def cellsCZ : Array Value := #[.pointer none, .pointer none, .map none, .int .i64 0]
theorem noca_zero (k : Env) (R : Assn) (b : Nat) : NoCa k (blk b (.cells cellsCZ 72 (0, 0)) * R) (pq b) := fun w h => cthere_zero w b (h.cell 2)

section
variable (k : Env) (w : World) (R : Assn) (v : Value) (hv : NoCa k R v) (h : Sat k w R)
include hv h
set_option maxHeartbeats 1000000 in
theorem cput_no (y : Ky) (x : ByteArray) (now : Int) : Calls Try.prog 18 #[v, kyV y, .string x, .int .i64 now] w fun e w' => e = .returned (.tuple #[.slice none 0 0, .int .i64 12]) ∧ Sat k w' R := by
  have h0 := h.alloc (.cells (kyc y).toArray 23)
  simp only [kyc] at h0
  unfold kyV
  go_enter Try.func18, Try.ntmps18
  go_upto_region 1 with fail
  generalize w.alloc (.cells #[.string y.db, .string y.ro, .int .i64 y.fm, .string y.nm] 23) = w0 at *
  generalize w.heap.size = og at *
  go_wp2_with (go_at_call 47; refine (hv _ h0.drop).mono ?_; rintro e w' ⟨rfl, rfl⟩)
  go_ret2
  exact ⟨rfl, h0.drop⟩
set_option maxHeartbeats 1000000 in
theorem cget_no (y : Ky) (now : Int) : Calls Try.prog 19 #[v, kyV y, .int .i64 now] w fun e w' => e = .returned (.tuple #[.string ⟨#[]⟩, .bool false]) ∧ Sat k w' R := by
  have h0 := h.alloc (.cells (kyc y).toArray 23)
  simp only [kyc] at h0
  unfold kyV
  go_enter Try.func19, Try.ntmps19
  go_upto_region 1 with fail
  generalize w.alloc (.cells #[.string y.db, .string y.ro, .int .i64 y.fm, .string y.nm] 23) = w0 at *
  generalize w.heap.size = og at *
  go_wp2_with (go_at_call 47; refine (hv _ h0.drop).mono ?_; rintro e w' ⟨rfl, rfl⟩)
  go_ret2
  exact ⟨rfl, h0.drop⟩
set_option maxHeartbeats 1000000 in
theorem cdrop_no (y : Ky) : Calls Try.prog 25 #[v, kyV y] w fun e w' => e = .returned (.bool false) ∧ Sat k w' R := by
  have h0 := h.alloc (.cells (kyc y).toArray 23)
  simp only [kyc] at h0
  unfold kyV
  go_enter Try.func25, Try.ntmps25
  go_upto_region 1 with fail
  generalize w.alloc (.cells #[.string y.db, .string y.ro, .int .i64 y.fm, .string y.nm] 23) = w0 at *
  generalize w.heap.size = og at *
  go_wp2_with (go_at_call 47; refine (hv _ h0.drop).mono ?_; rintro e w' ⟨rfl, rfl⟩)
  go_ret
  exact ⟨rfl, h0.drop⟩
set_option maxHeartbeats 1000000 in
theorem ctick_no (now : Int) : Calls Try.prog 27 #[v, .int .i64 now] w fun e w' => e = .returned (.slice none 0 0) ∧ Sat k w' R := by
  go_enter Try.func27, Try.ntmps27
  go_wp2_with (go_at_call 47; refine (hv _ h).mono ?_; rintro e w' ⟨rfl, rfl⟩)
  go_ret
  exact ⟨rfl, h⟩
set_option maxHeartbeats 1000000 in
theorem ckeys_no  : Calls Try.prog 32 #[v] w fun e w' => e = .returned (.slice none 0 0) ∧ Sat k w' R := by
  go_enter Try.func32, Try.ntmps32
  go_wp2_with (go_at_call 47; refine (hv _ h).mono ?_; rintro e w' ⟨rfl, rfl⟩)
  go_ret
  exact ⟨rfl, h⟩
set_option maxHeartbeats 1000000 in
theorem cbytes_no  : Calls Try.prog 20 #[v] w fun e w' => e = .returned (.int .i64 0) ∧ Sat k w' R := by
  go_enter Try.func20, Try.ntmps20
  go_wp2_with (go_at_call 47; refine (hv _ h).mono ?_; rintro e w' ⟨rfl, rfl⟩)
  go_ret
  exact ⟨rfl, h⟩
set_option maxHeartbeats 1000000 in
theorem ccopy_no  : Calls Try.prog 31 #[v] w fun e w' => e = .returned (.pointer none) ∧ Sat k w' R := by
  go_enter Try.func31, Try.ntmps31
  go_wp2_with (go_at_call 47; refine (hv _ h).mono ?_; rintro e w' ⟨rfl, rfl⟩)
  go_ret
  exact ⟨rfl, h⟩
set_option maxHeartbeats 1000000 in
theorem cflush_no : Calls Try.prog 29 #[v] w fun e w' => e = .returned (.int .i64 0) ∧ Sat k w' R := by
  go_enter Try.func29, Try.ntmps29
  go_wp2_with (go_at_call 32; refine (ckeys_no k w R v hv h).mono ?_; rintro e w1 ⟨rfl, h1⟩)
  go_loopw [5, 10] (fun _ i wr => i = .int .i64 0 ∧ w1 = wr) (fun _ _ _ => 0)
  case atStart => exact ⟨rfl, rfl⟩
  case round =>
    obtain ⟨rfl, rfl⟩ := hrel
    go_wp2_with fail
    go_ret
    exact ⟨rfl, h1⟩
end

set_option maxRecDepth 100000 in
set_option maxHeartbeats 8000000 in
theorem walkCacheNil (W : World) (y : Ky) (_w : okKy y) :
    Calls Try.prog 7 #[kyV y] W fun e w' => e = .returned (.bool true) ∧ Below W.heap.size W w' := by
  have hz := ((Sat.whole W).alloc (.cells (kyc y).toArray 23)).alloc (.cells cellsCZ 72)
  simp only [World.size_alloc, kyc, cellsCZ] at hz
  unfold kyV
  go_enter Try.func7, Try.ntmps7
  go_upto_region 3 with fail
  replace hz := hz
  generalize ((W.alloc (.cells #[.string y.db, .string y.ro, .int .i64 y.fm, .string y.nm] 23)).alloc (.cells #[.pointer none, .pointer none, .map none, .int .i64 0] 72)) = w0 at *
  generalize W.heap.size + 1 = oz at *
  generalize W.heap.size = o at *
  have H1 := Lib.hid (noca_nil (World.env W) (blk oz (.cells cellsCZ 72 (0, 0)) * (blk o (.cells #[.string y.db, .string y.ro, .int .i64 y.fm, .string y.nm] 23 (0, 0)) * whole W)))
  have H2 := Lib.hid (noca_zero (World.env W) (blk o (.cells #[.string y.db, .string y.ro, .int .i64 y.fm, .string y.nm] 23 (0, 0)) * whole W) oz)
  replace hz : Sat (World.env W) w0 (blk oz (.cells cellsCZ 72 (0, 0)) * (blk o (.cells #[.string y.db, .string y.ro, .int .i64 y.fm, .string y.nm] 23 (0, 0)) * whole W)) := hz
  generalize hP : (blk oz (.cells cellsCZ 72 (0, 0)) * (blk o (.cells #[.string y.db, .string y.ro, .int .i64 y.fm, .string y.nm] 23 (0, 0)) * whole W)) = Pz at *
  have HD : Hid (∀ {w' : World}, Sat (World.env W) w' Pz → w'.cell? ⟨o, 0, none⟩ = some (.string y.db) ∧ w'.cell? ⟨o, 1, none⟩ = some (.string y.ro) ∧ w'.cell? ⟨o, 2, none⟩ = some (.int .i64 y.fm) ∧ w'.cell? ⟨o, 3, none⟩ = some (.string y.nm)) := by
    unfold Hid
    intro w' h'
    rw [← hP] at h'
    exact ⟨h'.swap.cell 0, h'.swap.cell 1, h'.swap.cell 2, h'.swap.cell 3⟩
  have HB : Hid (∀ {w' : World}, Sat (World.env W) w' Pz → Sat (World.env W) w' (whole W)) := by
    unfold Hid
    intro w' h'
    rw [← hP] at h'
    exact h'.drop.drop
  clear hP
  obtain ⟨d0, d1, d2, d3⟩ := HD.out hz
  go_wp2_with fail
  refine (cput_no _ w0 _ _ H1.out hz y ⟨#[]⟩ 0).mono ?_
  rintro e w1 ⟨rfl, g1⟩
  clear d0 d1 d2 d3
  obtain ⟨d0, d1, d2, d3⟩ := HD.out g1
  go_wp2_with fail
  refine (cput_no _ w1 _ _ H2.out g1 y ⟨#[]⟩ 0).mono ?_
  rintro e w2 ⟨rfl, g2⟩
  clear d0 d1 d2 d3
  obtain ⟨d0, d1, d2, d3⟩ := HD.out g2
  go_wp2_with fail
  refine (cget_no _ w2 _ _ H1.out g2 y 0).mono ?_
  rintro e w3 ⟨rfl, g3⟩
  clear d0 d1 d2 d3
  obtain ⟨d0, d1, d2, d3⟩ := HD.out g3
  go_wp2_with fail
  refine (cget_no _ w3 _ _ H2.out g3 y 0).mono ?_
  rintro e w4 ⟨rfl, g4⟩
  clear d0 d1 d2 d3
  obtain ⟨d0, d1, d2, d3⟩ := HD.out g4
  go_wp2_with fail
  refine (cdrop_no _ w4 _ _ H1.out g4 y).mono ?_
  rintro e w5 ⟨rfl, g5⟩
  clear d0 d1 d2 d3
  obtain ⟨d0, d1, d2, d3⟩ := HD.out g5
  go_wp2_with fail
  refine (cdrop_no _ w5 _ _ H2.out g5 y).mono ?_
  rintro e w6 ⟨rfl, g6⟩
  clear d0 d1 d2 d3
  go_wp2_with fail
  refine (ctick_no _ w6 _ _ H1.out g6 9).mono ?_
  rintro e w7 ⟨rfl, g7⟩
  go_wp2_with fail
  refine (ctick_no _ w7 _ _ H2.out g7 9).mono ?_
  rintro e w8 ⟨rfl, g8⟩
  go_wp2_with fail
  refine (cflush_no _ w8 _ _ H1.out g8).mono ?_
  rintro e w9 ⟨rfl, g9⟩
  go_wp2_with fail
  refine (cflush_no _ w9 _ _ H2.out g9).mono ?_
  rintro e w10 ⟨rfl, g10⟩
  go_wp2_with fail
  refine (ckeys_no _ w10 _ _ H1.out g10).mono ?_
  rintro e w11 ⟨rfl, g11⟩
  go_wp2_with fail
  refine (cbytes_no _ w11 _ _ H2.out g11).mono ?_
  rintro e w12 ⟨rfl, g12⟩
  go_wp2_with fail
  refine (ccopy_no _ w12 _ _ H1.out g12).mono ?_
  rintro e w13 ⟨rfl, g13⟩
  go_wp2_with fail
  refine (ccopy_no _ w13 _ _ H2.out g13).mono ?_
  rintro e w14 ⟨rfl, g14⟩
  go_wp2_with fail
  refine (known_any _ _ _ (HB.out g14)).mono ?_
  rintro e w20 ⟨rfl, h20⟩
  go_wp2_with fail
  go_ret
  exact ⟨rfl, h20.below⟩

end Go.Proofs.Ytlilogcojeoelaa
