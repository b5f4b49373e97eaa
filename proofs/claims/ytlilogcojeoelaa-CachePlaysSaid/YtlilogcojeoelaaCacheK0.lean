/- The law CacheKeys: plain facts. -/
import Derived.Test.YtlilogcojeoelaaKeyQ
import Derived.Test.YtlilogcojeoelaaMD
namespace Go.Proofs.Ytlilogcojeoelaa
set_option linter.all false
open Go Go.RowKit

theorem rkyV_eq (a b : Ky) (w : World) : (Op.equal 28 (kyV a) (kyV b)).run Try.prog w = .ok (decide (a = b)) w := by
  obtain ⟨d, r, f, n⟩ := a
  obtain ⟨d', r', f', n'⟩ := b
  have h0 : Try.prog.underlying 9 = some .string := Try.underlying9
  have h1 : Try.prog.underlying 3 = some (.int .i64) := Try.underlying3
  have hs : Try.prog.underlying 28 = some (.struct (Try.prog.fieldsOf 28)) := by kernel_rfl
  simp only [Op.equal, kyV]
  rw [show Op.maxDepth = 9999 + 1 from rfl, run_equalIn_agg w 9999 28 _ _ hs (by kernel_rfl)]
  simp [Program.fieldsOf, Try.underlying28, Op.eqFields, go_sem, h0, h1]
  simp only [tl_iff]
  by_cases c0 : d = d' <;> by_cases c1 : r = r' <;> by_cases c2 : f = f' <;> by_cases c3 : n = n' <;> simp [c0, c1, c2, c3]
theorem rkyneq_run (a : Ky) (w : World) : (binOp .neq 28 (kyV a) (kyV a)).run Try.prog w = .ok (.bool false) w := by
  have h := rkyV_eq a a w
  unfold Op.equal at h
  unfold kyV at *
  rw [run_neq_struct]
  rw [show (10000 : Nat) = Op.maxDepth from rfl, h]
  simp [Result.andThen]
theorem kyeq_self (a : Ky) (w : World) : (binOp .eql 23 (kyV a) (kyV a)).run Try.prog w = .ok (.bool true) w := by
  have h := kyV_eq a a w
  unfold Op.equal at h
  unfold kyV at *
  rw [run_eql_struct]
  rw [show (10000 : Nat) = Op.maxDepth from rfl, h]
  simp [Result.andThen]

theorem textK_short {y : Ky} (h : y.db.size + y.ro.size + y.nm.size ≤ 500) : (textK y).size ≤ 510 := by
  unfold textK
  split
  · have hz0 : zb.size = 1 := rfl
    have hz1 : (bin2 y.fm).size = 2 := rfl
    simp only [ByteArray.size_append]; omega
  · show (0 : Nat) ≤ _; omega
theorem isP_empty : isP ⟨#[]⟩ = false := by
  rw [isP_eq]
  have : (p1 ⟨#[]⟩).2.2 = 3 := by decide +kernel
  rw [this]; rfl
theorem textK_ne {y : Ky} (h : rightK y = true) : textK y ≠ ⟨#[]⟩ := by
  intro q
  have := congrArg ByteArray.size q
  unfold textK at this
  rw [if_pos h] at this
  simp only [ByteArray.size_append] at this
  have hz0 : zb.size = 1 := rfl
  have h0 : (⟨#[]⟩ : ByteArray).size = 0 := rfl
  omega
theorem resP_tiny {s : ByteArray} (h : s.size ≤ 300000) : tiny (resP s) := by
  unfold resP
  split
  · exact keyP_tiny h
  · unfold tiny zeroK; decide
theorem resP_text {s : ByteArray} (h : isP s = true) : textK (resP s) = s := by
  unfold resP
  rw [if_pos h]
  simp only [isP, Bool.and_eq_true, decide_eq_true_eq] at h
  exact h.2
theorem noB : (⟨#[]⟩ : ByteArray).toList = [] := by first | rfl | decide | (rw [ByteArray.toList_eq]) | simp
/-- What the text of a key gives. -/
theorem back_facts (x : Ky) : (isP (textK x) = true ∧ resP (textK x) = x ∧ ¬ (textK x).toList = []) ∨ (isP (textK x) = false ∧ (textK x).toList = []) := by
  cases h : rightK x with
  | true =>
    left
    obtain ⟨a, b⟩ := isP_text h
    exact ⟨a, by unfold resP; rw [if_pos a, b], fun q => textK_ne h ((tl_iff _ _).1 (q.trans noB.symm))⟩
  | false =>
    right
    have e : textK x = ⟨#[]⟩ := by unfold textK; rw [h]; rfl
    rw [e]
    exact ⟨isP_empty, noB⟩

end Go.Proofs.Ytlilogcojeoelaa
