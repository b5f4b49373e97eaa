/- Contracts of package octet: any number of two bytes that is got. -/
import Derived.Test.YtlilogcojeoelaaKeyR
namespace Go.Proofs.Ytlilogcojeoelaa
set_option linter.all false
open Go Go.RowKit

set_option maxHeartbeats 1000000 in
theorem obytes_bad (k : Env) (w : World) (R : Assn) (s : ByteArray) (a : Int) (hs : s.size ≤ 1000000000) (hb : a < 0 ∨ (s.size : Int) < a + 2) (h : Sat k w R) :
    Calls Try.prog 90 #[.string s, .int .i64 a, .int .i64 2] w fun e w' => e = .returned (.agg #[.string ⟨#[]⟩, .int .i64 0, .int .i64 (g16 s a).2.2]) ∧ Sat k w' R := by
  have h1 := h.alloc (.cells #[.string ⟨#[]⟩, .int .i64 0, .int .i64 0] 148)
  have hcase : (g16 s a).2.2 = 1 ∧ a < 0 ∨ (g16 s a).2.2 = 1 ∧ ¬ a < 0 ∧ (s.size : Int) < a ∨ (g16 s a).2.2 = 3 ∧ ¬ a < 0 ∧ ¬ (s.size : Int) < a ∧ (s.size : Int) - a < 2 := by
    unfold g16
    by_cases q1 : a < 0
    · left; exact ⟨by rw [if_pos (.inl q1)], q1⟩
    by_cases q2 : (s.size : Int) < a
    · right; left; exact ⟨by rw [if_pos (.inr q2)], q1, q2⟩
    right; right
    exact ⟨by rw [if_neg (by omega), if_pos (by omega)], q1, q2, by omega⟩
  generalize (g16 s a).2.2 = er at *
  clear h hb
  rcases hcase with ⟨rfl, q1⟩ | ⟨rfl, q1, q2⟩ | ⟨rfl, q1, q2, q3⟩
  all_goals
    go_enter Try.func90, Try.ntmps90
    go_upto_region 1 with fail
    generalize w.alloc (.cells #[.string ⟨#[]⟩, .int .i64 0, .int .i64 0] 148) = w1 at *
    generalize w.heap.size = o at *
    have d0 : w1.cell? ⟨o, 0, none⟩ = some (.string ⟨#[]⟩) := h1.cell 0
    have d1 : w1.cell? ⟨o, 1, none⟩ = some (.int .i64 0) := h1.cell 1
    have d2 : w1.cell? ⟨o, 2, none⟩ = some (.int .i64 0) := h1.cell 2
    have df := h1.frozen
    go_wp2_with fail
    refine bodyPost_ret (v := .agg #[.string ⟨#[]⟩, .int .i64 0, .int .i64 _]) (by simp [results, Try.results90, go_sem, d0, d1, d2]; first | rfl | exact ⟨rfl, rfl⟩) rfl ?_
    exact ⟨rfl, (((h1.set 0 _).set 1 _).set 2 _).drop⟩


theorem or_mulB (a b : Nat) (h : a < 256) : (b * 256) ||| a = b * 256 + a := by
  rw [show b * 256 = b <<< 8 from (Nat.shiftLeft_eq b 8).symm, ← Nat.shiftLeft_add_eq_or_of_lt (i := 8) h]
theorem or_byte (x : Int) (b : Nat) (h1 : -128 ≤ x) (h2 : x ≤ 127) (hb : b < 256) : bits BinOp.or IntKind.i64 (x * 256) b = x * 256 + b := by
  have e1 : (BitVec.ofInt 64 (x * 256)).toNat = (x % 72057594037927936).toNat * 256 := by
    rw [BitVec.toNat_ofInt]
    have : ((2 ^ 64 : Nat) : Int) = 18446744073709551616 := by decide
    rw [this]; omega
  have e2 : (BitVec.ofInt 64 (b : Int)).toNat = b := by
    rw [BitVec.toNat_ofInt]
    have : ((2 ^ 64 : Nat) : Int) = 18446744073709551616 := by decide
    rw [this]; omega
  have e3 : bits BinOp.or IntKind.i64 (x * 256) b = IntKind.i64.wrap (((BitVec.ofInt 64 (x * 256) ||| BitVec.ofInt 64 (b : Int)).toNat : Nat) : Int) := rfl
  rw [e3, BitVec.toNat_or, e1, e2, or_mulB b _ hb, IntKind.wrap_i64]
  omega

def num0 (a : UInt8) : Int := if 128 ≤ a.toNat then -1 else 0
def num1 (a : UInt8) : Int := if 128 ≤ a.toNat then (a.toNat : Int) - 256 else a.toNat

theorem num_at0 (c : UInt8) : wrap64 (-wrap64 ((c.toNat : Int) / 128)) = num0 c := by
  have := c.toNat_lt
  unfold wrap64 num0
  split <;> omega
theorem num_at1 (c : UInt8) : bits BinOp.or IntKind.i64 (wrap64 (num0 c * 256)) (wrap64 c.toNat) = num1 c := by
  have := c.toNat_lt
  have q1 : wrap64 (num0 c * 256) = num0 c * 256 := by unfold wrap64 num0; split <;> omega
  have q2 : wrap64 (c.toNat : Int) = c.toNat := by unfold wrap64; omega
  rw [q1, q2, or_byte _ _ (by unfold num0; split <;> omega) (by unfold num0; split <;> omega) (by omega)]
  unfold num0 num1
  split <;> omega
theorem num_at2 (c d : UInt8) : bits BinOp.or IntKind.i64 (wrap64 (num1 c * 256)) (wrap64 d.toNat) = num2 c d := by
  have := c.toNat_lt
  have := d.toNat_lt
  have q1 : wrap64 (num1 c * 256) = num1 c * 256 := by unfold wrap64 num1; split <;> omega
  have q2 : wrap64 (d.toNat : Int) = d.toNat := by unfold wrap64; omega
  rw [q1, q2, or_byte _ _ (by unfold num1; split <;> omega) (by unfold num1; split <;> omega) (by omega)]
  unfold num1 num2
  split <;> omega

set_option maxRecDepth 100000 in
set_option maxHeartbeats 4000000 in
theorem onum_ok (k : Env) (w : World) (R : Assn) (s x : ByteArray) (c0 c1 : UInt8) (q0 : x.size = 2) (q1 : x[0]'(by omega) = c0) (q2 : x[1]'(by omega) = c1) (a : Nat) (ha : a + 2 ≤ s.size) (hs : s.size ≤ 1000000000) (hx : s.extract a (a + 2) = x) (h : Sat k w R) :
    Calls Try.prog 69 #[.string s, .int .i64 a, .int .i64 2] w fun e w' => e = .returned (.tuple #[.int .i64 (num2 c0 c1), .int .i64 ((a : Int) + 2), .int .i64 0]) ∧ Sat k w' R := by
  have hh := Lib.hid (obytes_ok k w R s _ a ha hs hx h)
  clear hx
  go_enter Try.func69, Try.ntmps69
  go_upto_region 2 with (go_at_call 90; refine hh.out.mono ?_; rintro e w1 ⟨rfl, h1⟩)
  have h2 := h1.alloc (.cells #[.string x, .int .i64 ((a : Int) + 2), .int .i64 0] 148)
  generalize w1.alloc (.cells #[.string x, .int .i64 ((a : Int) + 2), .int .i64 0] 148) = w2 at *
  generalize w1.heap.size = o at *
  have d0 : w2.cell? ⟨o, 0, none⟩ = some (.string x) := h2.cell 0
  have d1 : w2.cell? ⟨o, 1, none⟩ = some (.int .i64 ((a : Int) + 2)) := h2.cell 1
  have d2 : w2.cell? ⟨o, 2, none⟩ = some (.int .i64 0) := h2.cell 2
  have hz : (((a : Int) + 2) == 0) = false := by simp; omega
  clear hh h1 h
  go_wp2_with fail
  go_loopw [10, 11, 30] (fun n _ i wr => wr = w2 ∧ ((i = .int .i64 0 ∧ n = .int .i64 (num0 c0)) ∨ (i = .int .i64 1 ∧ n = .int .i64 (num1 c0)) ∨ (i = .int .i64 2 ∧ n = .int .i64 (num2 c0 c1)))) (fun _ _ i _ => 2 - (intOf i).toNat)
  case atStart => exact ⟨rfl, .inl ⟨rfl, congrArg (Value.int .i64) (num_at0 c0)⟩⟩
  case round =>
    obtain ⟨rfl, hc⟩ := hrel
    rcases hc with ⟨rfl, rfl⟩ | ⟨rfl, rfl⟩ | ⟨rfl, rfl⟩
    · go_wp2_with fail
      go_roundw
      case rel => exact ⟨trivial, .inr (.inl ⟨rfl, congrArg (Value.int .i64) (num_at1 c0)⟩)⟩
      case measure => simp [intOf]
    · go_wp2_with fail
      go_roundw
      case rel => exact ⟨trivial, .inr (.inr ⟨rfl, congrArg (Value.int .i64) (num_at2 c0 c1)⟩)⟩
      case measure => simp [intOf]
    · go_wp2_with fail
      go_quiet (fail)
      go_wp2_with fail
      go_ret3
      exact ⟨rfl, (h2.drewN _).drop⟩

set_option maxRecDepth 100000 in
set_option maxHeartbeats 4000000 in
theorem onum_bad (k : Env) (w : World) (R : Assn) (s : ByteArray) (a : Int) (hs : s.size ≤ 1000000000) (hb : a < 0 ∨ (s.size : Int) < a + 2) (h : Sat k w R) :
    Calls Try.prog 69 #[.string s, .int .i64 a, .int .i64 2] w fun e w' => e = .returned (g16V (g16 s a)) ∧ Sat k w' R := by
  obtain ⟨e1, _⟩ := g16_bad hb
  have hh := Lib.hid (obytes_bad k w R s a hs hb h)
  rw [e1]
  generalize (g16 s a).2.2 = er at *
  clear e1 hb h
  go_enter Try.func69, Try.ntmps69
  go_upto_region 2 with (go_at_call 90; refine hh.out.mono ?_; rintro e w1 ⟨rfl, h1⟩)
  have h2 := h1.alloc (.cells #[.string ⟨#[]⟩, .int .i64 0, .int .i64 er] 148)
  generalize w1.alloc (.cells #[.string ⟨#[]⟩, .int .i64 0, .int .i64 er] 148) = w2 at *
  generalize w1.heap.size = o at *
  have d0 : w2.cell? ⟨o, 0, none⟩ = some (.string ⟨#[]⟩) := h2.cell 0
  have d1 : w2.cell? ⟨o, 1, none⟩ = some (.int .i64 0) := h2.cell 1
  have d2 : w2.cell? ⟨o, 2, none⟩ = some (.int .i64 er) := h2.cell 2
  clear hh h1
  go_wp2_with fail
  go_quiet (fail)
  go_wp2_with fail
  go_ret3
  exact ⟨rfl, (h2.drewN _).drop⟩

theorem oget16_any (k : Env) (w : World) (R : Assn) (s : ByteArray) (a : Int) (hs : s.size ≤ 1000000000) (h : Sat k w R) :
    Calls Try.prog 36 #[.string s, .int .i64 a] w fun e w' => e = .returned (g16V (g16 s a)) ∧ Sat k w' R := by
  have hh : Hid (Calls Try.prog 69 #[.string s, .int .i64 a, .int .i64 2] w fun e w' => e = .returned (g16V (g16 s a)) ∧ Sat k w' R) := by
    unfold Hid
    by_cases hb : a < 0 ∨ (s.size : Int) < a + 2
    · exact onum_bad k w R s a hs hb h
    · obtain ⟨n, rfl⟩ : ∃ n : Nat, a = n := ⟨a.toNat, by omega⟩
      have hn : n + 2 ≤ s.size := by omega
      obtain ⟨c0, c1, hc⟩ := two_bytes hn
      rw [g16_ok hn hc]
      exact onum_ok k w R s _ c0 c1 rfl rfl rfl n hn hs hc h
  generalize g16 s a = p at *
  obtain ⟨n, b, c⟩ := p
  simp only [g16V] at *
  go_enter Try.func36, Try.ntmps36
  go_wp2_with (go_at_call 69; refine hh.out.mono ?_; rintro e w1 ⟨rfl, h1⟩)
  go_ret3
  exact ⟨rfl, h1⟩

end Go.Proofs.Ytlilogcojeoelaa
