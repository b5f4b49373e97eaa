/- Keys of a cache as a map's keys. -/
import Derived.Test.YtbeidnddahglbaaKeyC
import Derived.Test.YtbeidnddahglbaaMA
namespace Go.Proofs.Ytbeidnddahglbaa
set_option linter.all false
open Go Go.RowKit

theorem tl_iff (a b : ByteArray) : (a.toList = b.toList) ↔ a = b := by
  have := tl_beq a b
  by_cases h : a = b
  · simp [h]
  · simp only [h, decide_false, beq_eq_false_iff_ne, ne_eq] at this
    simp [h, this]
theorem kyV_eq (a b : Ky) (w : World) : (Op.equal 30 (kyV a) (kyV b)).run Try.prog w = .ok (decide (a = b)) w := by
  obtain ⟨d, r, f, n⟩ := a
  obtain ⟨d', r', f', n'⟩ := b
  have h0 : Try.prog.underlying 9 = some .string := Try.underlying9
  have h1 : Try.prog.underlying 3 = some (.int .i64) := Try.underlying3
  have hs : Try.prog.underlying 30 = some (.struct (Try.prog.fieldsOf 30)) := by kernel_rfl
  simp only [Op.equal, kyV]
  rw [show Op.maxDepth = 9999 + 1 from rfl, run_equalIn_agg w 9999 30 _ _ hs (by kernel_rfl)]
  simp [Program.fieldsOf, Try.underlying30, Op.eqFields, go_sem, h0, h1]
  simp only [tl_iff]
  by_cases c0 : d = d' <;> by_cases c1 : r = r' <;> by_cases c2 : f = f' <;> by_cases c3 : n = n' <;> simp [c0, c1, c2, c3]
theorem kfind_asking (a : Ky) (es : List MapEntry) (l : List (Ky × Value)) (i : Nat) (w : World) (h : es.map (fun e => (e.key, e.val)) = l.map (fun x => (kyV x.1, x.2))) : (Instr.findAsking 30 (kyV a) es i).run Try.prog w = .ok (mloc a l i) w := by
  induction es generalizing l i with
  | nil =>
    cases l with
    | nil => rfl
    | cons x r => simp at h
  | cons e es ih =>
    cases l with
    | nil => simp at h
    | cons x r =>
      simp only [List.map_cons, List.cons.injEq, Prod.mk.injEq] at h
      obtain ⟨⟨h1, h2⟩, h3⟩ := h
      rw [Instr.findAsking, Sem.run_bind, h1, kyV_eq, Result.andThen_ok]
      by_cases hx : x.1 = a
      · subst hx
        simp [mloc, h2]
      · have hx' : ¬ a = x.1 := fun q => hx q.symm
        simp only [hx', decide_false, Bool.false_eq_true, if_false]
        rw [ih r (i + 1) h3, mloc, if_neg hx]
theorem KKey : KeyT Try.prog 30 kyV where
  check b a w := by
    obtain ⟨d, r, f, n⟩ := a
    kernel_rfl
  find a es l w h := by
    unfold Instr.findKey
    simp only [Sem.run_bind, run_underlying Try.underlying30, Result.andThen_ok]
    cases es with
    | nil =>
      cases l with
      | nil => rfl
      | cons x r => simp at h
    | cons e0 es0 =>
      have hn : ∀ fs, Instr.findNow (.struct fs) (kyV a) (e0 :: es0) 0 = none := by
        intro fs
        rw [Instr.findNow]
        have : Instr.sameNow (.struct fs) (kyV a) e0.key = none := rfl
        rw [this]
      rw [hn]
      exact kfind_asking a (e0 :: es0) l 0 w h
  bits a := by simp [Instr.sameBits, kyV, bytes_beq]

end Go.Proofs.Ytbeidnddahglbaa
