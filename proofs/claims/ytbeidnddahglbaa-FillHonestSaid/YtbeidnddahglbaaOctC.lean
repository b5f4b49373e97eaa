/- Contracts of package octet: a number of two bytes, 0 or 1, that is got. -/
import Derived.Test.YtbeidnddahglbaaOctB
import Derived.Test.YtbeidnddahglbaaMA
import Derived.Deep.DeepCutAuto
namespace Go.Proofs.Ytbeidnddahglbaa
set_option linter.all false
open Go Go.RowKit

set_option maxHeartbeats 1000000 in
theorem obytes_ok (k : Env) (w : World) (R : Assn) (s x : ByteArray) (a : Nat) (ha : a + 2 ≤ s.size) (hs : s.size ≤ 1000000000) (hx : s.extract a (a + 2) = x) (h : Sat k w R) :
    Calls Try.prog 91 #[.string s, .int .i64 a, .int .i64 2] w fun e w' => e = .returned (.agg #[.string x, .int .i64 ((a : Int) + 2), .int .i64 0]) ∧ Sat k w' R := by
  have h1 := h.alloc (.cells #[.string ⟨#[]⟩, .int .i64 0, .int .i64 0] 154)
  have ha' : (a : Int) + 2 ≤ s.size := by omega
  have ha1 : ¬ (a : Int) < 0 := by omega
  have ha2 : ¬ (s.size : Int) < a := by omega
  have ha3 : ¬ (s.size : Int) - a < 2 := by omega
  have HX := Lib.hid hx
  clear hx h
  go_enter Try.func91, Try.ntmps91
  go_upto_region 1 with fail
  generalize w.alloc (.cells #[.string ⟨#[]⟩, .int .i64 0, .int .i64 0] 154) = w1 at *
  generalize w.heap.size = o at *
  have d0 : w1.cell? ⟨o, 0, none⟩ = some (.string ⟨#[]⟩) := h1.cell 0
  have d1 : w1.cell? ⟨o, 1, none⟩ = some (.int .i64 0) := h1.cell 1
  have d2 : w1.cell? ⟨o, 2, none⟩ = some (.int .i64 0) := h1.cell 2
  have df := h1.frozen
  go_wp2_with fail
  refine bodyPost_ret (v := .agg #[.string x, .int .i64 ((a : Int) + 2), .int .i64 0]) (by simp [results, Try.results91, go_sem, d0, d1, d2]; exact HX.out) rfl ?_
  exact ⟨rfl, (((h1.set 0 _).set 1 _).set 2 _).drop⟩

def bitI (f : Bool) : Int := if f then 1 else 0
def bitB (f : Bool) : UInt8 := if f then 1 else 0

set_option maxRecDepth 100000 in
set_option maxHeartbeats 4000000 in
theorem onum_zero (k : Env) (w : World) (R : Assn) (s : ByteArray) (a : Nat) (ha : a + 2 ≤ s.size) (hs : s.size ≤ 1000000000) (hx : s.extract a (a + 2) = ⟨#[0, 0]⟩) (h : Sat k w R) :
    Calls Try.prog 89 #[.string s, .int .i64 a, .int .i64 2] w fun e w' => e = .returned (.tuple #[.int .i64 0, .int .i64 ((a : Int) + 2), .int .i64 0]) ∧ Sat k w' R := by
  have hh := Lib.hid (obytes_ok k w R s _ a ha hs hx h)
  clear hx
  go_enter Try.func89, Try.ntmps89
  go_upto_region 2 with (go_at_call 91; refine hh.out.mono ?_; rintro e w1 ⟨rfl, h1⟩)
  have h2 := h1.alloc (.cells #[.string ⟨#[0, 0]⟩, .int .i64 ((a : Int) + 2), .int .i64 0] 154)
  generalize w1.alloc (.cells #[.string ⟨#[0, 0]⟩, .int .i64 ((a : Int) + 2), .int .i64 0] 154) = w2 at *
  generalize w1.heap.size = o at *
  have d0 : w2.cell? ⟨o, 0, none⟩ = some (.string ⟨#[0, 0]⟩) := h2.cell 0
  have d1 : w2.cell? ⟨o, 1, none⟩ = some (.int .i64 ((a : Int) + 2)) := h2.cell 1
  have d2 : w2.cell? ⟨o, 2, none⟩ = some (.int .i64 0) := h2.cell 2
  have hz : (((a : Int) + 2) == 0) = false := by simp; omega
  clear hh h1 h
  go_wp2_with fail
  go_loopw [10, 11, 30] (fun n _ i wr => wr = w2 ∧ ((i = .int .i64 0 ∧ n = .int .i64 0) ∨ (i = .int .i64 1 ∧ n = .int .i64 0) ∨ (i = .int .i64 2 ∧ n = .int .i64 0))) (fun _ _ i _ => 2 - (intOf i).toNat)
  case atStart => exact ⟨rfl, .inl ⟨rfl, congrArg (Value.int .i64) (by decide +kernel)⟩⟩
  case round =>
    obtain ⟨rfl, hc⟩ := hrel
    rcases hc with ⟨rfl, rfl⟩ | ⟨rfl, rfl⟩ | ⟨rfl, rfl⟩
    · go_wp2_with fail
      go_roundw
      case rel => exact ⟨trivial, .inr (.inl ⟨rfl, congrArg (Value.int .i64) (by decide +kernel)⟩)⟩
      case measure => simp [intOf]
    · go_wp2_with fail
      go_roundw
      case rel => exact ⟨trivial, .inr (.inr ⟨rfl, congrArg (Value.int .i64) (by decide +kernel)⟩)⟩
      case measure => simp [intOf]
    · go_wp2_with fail
      go_quiet (fail)
      go_wp2_with fail
      go_ret3
      exact ⟨rfl, (h2.drewN _).drop⟩

set_option maxRecDepth 100000 in
set_option maxHeartbeats 4000000 in
theorem onum_one (k : Env) (w : World) (R : Assn) (s : ByteArray) (a : Nat) (ha : a + 2 ≤ s.size) (hs : s.size ≤ 1000000000) (hx : s.extract a (a + 2) = ⟨#[0, 1]⟩) (h : Sat k w R) :
    Calls Try.prog 89 #[.string s, .int .i64 a, .int .i64 2] w fun e w' => e = .returned (.tuple #[.int .i64 1, .int .i64 ((a : Int) + 2), .int .i64 0]) ∧ Sat k w' R := by
  have hh := Lib.hid (obytes_ok k w R s _ a ha hs hx h)
  clear hx
  go_enter Try.func89, Try.ntmps89
  go_upto_region 2 with (go_at_call 91; refine hh.out.mono ?_; rintro e w1 ⟨rfl, h1⟩)
  have h2 := h1.alloc (.cells #[.string ⟨#[0, 1]⟩, .int .i64 ((a : Int) + 2), .int .i64 0] 154)
  generalize w1.alloc (.cells #[.string ⟨#[0, 1]⟩, .int .i64 ((a : Int) + 2), .int .i64 0] 154) = w2 at *
  generalize w1.heap.size = o at *
  have d0 : w2.cell? ⟨o, 0, none⟩ = some (.string ⟨#[0, 1]⟩) := h2.cell 0
  have d1 : w2.cell? ⟨o, 1, none⟩ = some (.int .i64 ((a : Int) + 2)) := h2.cell 1
  have d2 : w2.cell? ⟨o, 2, none⟩ = some (.int .i64 0) := h2.cell 2
  have hz : (((a : Int) + 2) == 0) = false := by simp; omega
  clear hh h1 h
  go_wp2_with fail
  go_loopw [10, 11, 30] (fun n _ i wr => wr = w2 ∧ ((i = .int .i64 0 ∧ n = .int .i64 0) ∨ (i = .int .i64 1 ∧ n = .int .i64 0) ∨ (i = .int .i64 2 ∧ n = .int .i64 1))) (fun _ _ i _ => 2 - (intOf i).toNat)
  case atStart => exact ⟨rfl, .inl ⟨rfl, congrArg (Value.int .i64) (by decide +kernel)⟩⟩
  case round =>
    obtain ⟨rfl, hc⟩ := hrel
    rcases hc with ⟨rfl, rfl⟩ | ⟨rfl, rfl⟩ | ⟨rfl, rfl⟩
    · go_wp2_with fail
      go_roundw
      case rel => exact ⟨trivial, .inr (.inl ⟨rfl, congrArg (Value.int .i64) (by decide +kernel)⟩)⟩
      case measure => simp [intOf]
    · go_wp2_with fail
      go_roundw
      case rel => exact ⟨trivial, .inr (.inr ⟨rfl, congrArg (Value.int .i64) (by decide +kernel)⟩)⟩
      case measure => simp [intOf]
    · go_wp2_with fail
      go_quiet (fail)
      go_wp2_with fail
      go_ret3
      exact ⟨rfl, (h2.drewN _).drop⟩

theorem oget16_small (k : Env) (w : World) (R : Assn) (s : ByteArray) (a : Nat) (n : Int) (hn : n = 0 ∨ n = 1) (ha : a + 2 ≤ s.size) (hs : s.size ≤ 1000000000) (hx : s.extract a (a + 2) = bin2 n) (h : Sat k w R) :
    Calls Try.prog 81 #[.string s, .int .i64 a] w fun e w' => e = .returned (.tuple #[.int .i64 n, .int .i64 ((a : Int) + 2), .int .i64 0]) ∧ Sat k w' R := by
  have hh : Hid (Calls Try.prog 89 #[.string s, .int .i64 a, .int .i64 2] w fun e w' => e = .returned (.tuple #[.int .i64 n, .int .i64 ((a : Int) + 2), .int .i64 0]) ∧ Sat k w' R) := by
    unfold Hid
    rcases hn with rfl | rfl
    · exact onum_zero k w R s a ha hs hx h
    · exact onum_one k w R s a ha hs hx h
  clear hx
  go_enter Try.func81, Try.ntmps81
  go_wp2_with (go_at_call 89; refine hh.out.mono ?_; rintro e w1 ⟨rfl, h1⟩)
  go_ret3
  exact ⟨rfl, h1⟩

end Go.Proofs.Ytbeidnddahglbaa
