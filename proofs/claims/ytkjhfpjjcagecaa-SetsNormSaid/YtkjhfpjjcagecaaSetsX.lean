/- Plain law: a text's tokens, without places; of a text that goes on; of what is shown. -/
import Derived.Test.YtkjhfpjjcagecaaSetsW
namespace Go.Proofs.Ytkjhfpjjcagecaa
set_option linter.all false
open Go Go.RowKit

/-- The tokens of a text, without places. -/
inductive Sc : List UInt8 → List Tok → Prop where
  | nil : Sc [] []
  | blank {c : UInt8} {r : List UInt8} {l : List Tok} (h : isBlank c = true) (h2 : Sc r l) : Sc (c :: r) l
  | line {c : UInt8} {r : List UInt8} {l : List Tok} (h : isBlank c = false) (h1 : [45, 45].isPrefixOf (c :: r) = true) (h2 : Sc ((c :: r).drop (runL pLine (c :: r))) l) : Sc (c :: r) l
  | rem {c : UInt8} {r : List UInt8} {n : Nat} {l : List Tok} (h : isBlank c = false) (h0 : [45, 45].isPrefixOf (c :: r) = false) (h1 : [47, 42].isPrefixOf (c :: r) = true) (hn : remL (c :: r) 0 0 = some n) (h2 : Sc ((c :: r).drop n) l) : Sc (c :: r) l
  | tok {c : UInt8} {r : List UInt8} {k : Int} {t : List UInt8} {n : Nat} {l : List Tok} (h : isBlank c = false) (h0 : [45, 45].isPrefixOf (c :: r) = false) (h1 : [47, 42].isPrefixOf (c :: r) = false) (hn : oneL (c :: r) = .tok k t n) (h2 : Sc ((c :: r).drop n) l) : Sc (c :: r) (⟨k, mk t, 0⟩ :: l)

theorem sc_of : ∀ (f : Nat) (r : List UInt8) (p : Nat) (acc l : List Tok), r.length < f → scanF f r p acc = .ok l → ∃ m, Sc r m ∧ l.map zt = acc.map zt ++ m
  | 0, _, _, _, _, hf, _ => by omega
  | f + 1, [], p, acc, l, _, h => by rw [scanF] at h; cases h; exact ⟨[], .nil, by simp⟩
  | f + 1, c :: r, p, acc, l, hf, h => by
    rw [scanF] at h
    rw [List.length_cons] at hf
    cases hb : isBlank c with
    | true =>
      rw [if_pos hb] at h
      obtain ⟨m, h1, h2⟩ := sc_of f _ _ _ _ (by omega) h
      exact ⟨m, .blank hb h1, h2⟩
    | false =>
      rw [if_neg (by rw [hb]; decide)] at h
      cases h1 : [45, 45].isPrefixOf (c :: r) with
      | true =>
        rw [if_pos h1] at h
        have hpos : 0 < runL pLine (c :: r) := by
          have hc : c = 45 := by
            cases r with
            | nil => simp [List.isPrefixOf] at h1
            | cons d q => simp [List.isPrefixOf] at h1; exact h1.1.symm
          rw [runL_cons, if_pos (by rw [hc]; decide)]; omega
        obtain ⟨m, g1, g2⟩ := sc_of f _ _ _ _ (by rw [List.length_drop, List.length_cons]; omega) h
        exact ⟨m, .line hb h1 g1, g2⟩
      | false =>
        rw [if_neg (by rw [h1]; decide)] at h
        cases h2 : [47, 42].isPrefixOf (c :: r) with
        | true =>
          rw [if_pos h2] at h
          cases hn : remL (c :: r) 0 0 with
          | none => rw [hn] at h; cases h
          | some n =>
            rw [hn] at h
            have := remL_range _ _ _ _ hn
            obtain ⟨m, g1, g2⟩ := sc_of f _ _ _ _ (by rw [List.length_drop, List.length_cons]; omega) h
            exact ⟨m, .rem hb h1 h2 hn g1, g2⟩
        | false =>
          rw [if_neg (by rw [h2]; decide)] at h
          cases ho : oneL (c :: r) with
          | tok k t n =>
            rw [ho] at h
            have := oneL_range ho
            obtain ⟨m, g1, g2⟩ := sc_of f _ _ _ _ (by rw [List.length_drop, List.length_cons]; omega) h
            refine ⟨⟨k, mk t, 0⟩ :: m, .tok hb h1 h2 ho g1, ?_⟩
            rw [g2, List.map_append]
            simp [zt]
          | opn k => rw [ho] at h; cases h
          | bad => rw [ho] at h; cases h
theorem sc_scan {r : List UInt8} {m : List Tok} (h : Sc r m) : ∀ (f p : Nat) (acc : List Tok), r.length < f → ∃ l, scanF f r p acc = .ok l ∧ l.map zt = acc.map zt ++ m := by
  induction h with
  | nil =>
    intro f p acc hf
    cases f with
    | zero => omega
    | succ f => exact ⟨acc, rfl, by simp⟩
  | @blank c r l h _ ih =>
    intro f p acc hf
    cases f with
    | zero => omega
    | succ f =>
      rw [List.length_cons] at hf
      obtain ⟨x, h1, h2⟩ := ih f (p + 1) acc (by omega)
      exact ⟨x, by rw [scanF, if_pos h]; exact h1, h2⟩
  | @line c r l h h1 _ ih =>
    intro f p acc hf
    cases f with
    | zero => omega
    | succ f =>
      rw [List.length_cons] at hf
      have hpos : 0 < runL pLine (c :: r) := by
        have hc : c = 45 := by
          cases r with
          | nil => simp [List.isPrefixOf] at h1
          | cons d q => simp [List.isPrefixOf] at h1; exact h1.1.symm
        rw [runL_cons, if_pos (by rw [hc]; decide)]; omega
      obtain ⟨x, g1, g2⟩ := ih f (p + runL pLine (c :: r)) acc (by rw [List.length_drop, List.length_cons]; omega)
      exact ⟨x, by rw [scanF, if_neg (by rw [h]; decide), if_pos h1]; exact g1, g2⟩
  | @rem c r n l h h0 h1 hn _ ih =>
    intro f p acc hf
    cases f with
    | zero => omega
    | succ f =>
      rw [List.length_cons] at hf
      have := remL_range _ _ _ _ hn
      obtain ⟨x, g1, g2⟩ := ih f (p + n) acc (by rw [List.length_drop, List.length_cons]; omega)
      exact ⟨x, by rw [scanF, if_neg (by rw [h]; decide), if_neg (by rw [h0]; decide), if_pos h1, hn]; exact g1, g2⟩
  | @tok c r k t n l h h0 h1 hn _ ih =>
    intro f p acc hf
    cases f with
    | zero => omega
    | succ f =>
      rw [List.length_cons] at hf
      have := oneL_range hn
      obtain ⟨x, g1, g2⟩ := ih f (p + n) (acc ++ [⟨k, mk t, p⟩]) (by rw [List.length_drop, List.length_cons]; omega)
      refine ⟨x, by rw [scanF, if_neg (by rw [h]; decide), if_neg (by rw [h0]; decide), if_neg (by rw [h1]; decide), hn]; exact g1, ?_⟩
      rw [g2, List.map_append]
      simp [zt]
theorem sc_B {s : ByteArray} {l : List Tok} (h : scanB s = .ok l) : Sc (bl s) (l.map zt) ∧ s.size ≤ 2000 := by
  unfold scanB at h
  split at h
  · cases h
  · obtain ⟨m, h1, h2⟩ := sc_of _ _ _ _ _ (by rw [bl_len]; omega) h
    rw [List.map_nil, List.nil_append] at h2
    rw [h2]
    exact ⟨h1, by omega⟩
theorem sc_to {s : ByteArray} {m : List Tok} (h : Sc (bl s) m) (hs : s.size ≤ 2000) : ∃ l, scanB s = .ok l ∧ l.map zt = m := by
  obtain ⟨l, h1, h2⟩ := sc_scan h (s.size + 1) 0 [] (by rw [bl_len]; omega)
  rw [List.map_nil, List.nil_append] at h2
  exact ⟨l, by unfold scanB; rw [if_neg (by omega)]; exact h1, h2⟩

/-- What may stand behind a token without being of it. -/
def Beh (z : List UInt8) : Prop := z = [] ∨ ∃ d q, z = d :: q ∧ (d = 10 ∨ d = 32)
theorem runL_app (p : UInt8 → Bool) (a z : List UInt8) (hz : z = [] ∨ ∃ d q, z = d :: q ∧ p d = false) : runL p (a ++ z) = runL p a := by
  induction a with
  | nil =>
    rcases hz with rfl | ⟨d, q, rfl, hd⟩
    · rfl
    · rw [List.nil_append, runL_cons, if_neg (by rw [hd]; decide)]; rfl
  | cons c a ih =>
    rw [List.cons_append, runL_cons, runL_cons, ih]
theorem beh_p (p : UInt8 → Bool) (h10 : p 10 = false) (h32 : p 32 = false) {z : List UInt8} (h : Beh z) : z = [] ∨ ∃ d q, z = d :: q ∧ p d = false := by
  rcases h with rfl | ⟨d, q, rfl, rfl | rfl⟩
  · exact .inl rfl
  · exact .inr ⟨_, _, rfl, h10⟩
  · exact .inr ⟨_, _, rfl, h32⟩
theorem remL_app {z : List UInt8} (l : List UInt8) (d : Int) (i n : Nat) (h : remL l d i = some n) : remL (l ++ z) d i = some n := by
  fun_induction remL l d i with
  | case1 => cases h
  | case2 => cases h
  | case3 d i a b r hc ih => rw [List.cons_append, List.cons_append, remL, if_pos hc]; exact ih h
  | case4 i a b r hc hc2 => rw [List.cons_append, List.cons_append, remL, if_neg hc, if_pos hc2, if_pos rfl]; exact h
  | case5 d i a b r hc hc2 hd ih => rw [List.cons_append, List.cons_append, remL, if_neg hc, if_pos hc2, if_neg hd]; exact ih h
  | case6 d i a b r hc hc2 ih => rw [List.cons_append, List.cons_append, remL, if_neg hc, if_neg hc2]; exact ih h
theorem quotL_app (q : UInt8) {z : List UInt8} (hz : z = [] ∨ ∃ d r, z = d :: r ∧ d ≠ q) (l acc : List UInt8) (i : Nat) (x : List UInt8 × Nat) (h : quotL q l acc i = some x) : quotL q (l ++ z) acc i = some x := by
  fun_induction quotL q l acc i with
  | case1 => cases h
  | case2 acc i =>
    rcases hz with rfl | ⟨d, r, rfl, hd⟩
    · rw [List.append_nil, quotL, if_pos rfl]; exact h
    · show quotL q (q :: d :: r) acc i = some x
      rw [quotL, if_pos rfl, if_neg hd]; exact h
  | case3 => cases h
  | case4 acc i r ih => rw [List.cons_append, List.cons_append, quotL, if_pos rfl, if_pos rfl]; exact ih h
  | case5 acc i d r hd => rw [List.cons_append, List.cons_append, quotL, if_pos rfl, if_neg hd]; exact h
  | case6 acc i c d r hc ih => rw [List.cons_append, List.cons_append, quotL, if_neg hc]; exact ih h
theorem pre2_app (x y : UInt8) (c : UInt8) (r z : List UInt8) (hz : z = [] ∨ ∃ d q, z = d :: q ∧ d ≠ y) : [x, y].isPrefixOf (c :: r ++ z) = [x, y].isPrefixOf (c :: r) := by
  cases r with
  | nil =>
    rcases hz with rfl | ⟨d, q, rfl, hd⟩
    · rfl
    · simp only [List.isPrefixOf, List.cons_append, List.nil_append]
      rw [show (y == d) = false from beq_eq_false_iff_ne.2 (Ne.symm hd)]; simp
  | cons e r => simp [List.isPrefixOf]
theorem tagN_app (r z : List UInt8) (hz : Beh z) : tagN (r ++ z) = tagN r := by
  cases r with
  | nil =>
    rcases hz with rfl | ⟨d, q, rfl, rfl | rfl⟩
    · rfl
    · rfl
    · rfl
  | cons c r =>
    unfold tagN
    have := runL_app pLD (c :: r) z (beh_p pLD (by decide) (by decide) hz)
    rw [List.cons_append] at this ⊢
    simp only
    rw [this]
theorem tagN_le (r : List UInt8) : tagN r ≤ r.length := by
  unfold tagN
  split
  · exact Nat.zero_le _
  · split
    · exact runL_le _ _
    · exact Nat.zero_le _
theorem tagL_app (r z : List UInt8) (hz : Beh z) : tagL (r ++ z) = tagL r := by
  unfold tagL
  rw [tagN_app r z hz, List.drop_append_of_le_length (tagN_le r)]
  cases r.drop (tagN r) with
  | nil =>
    rcases hz with rfl | ⟨d, q, rfl, rfl | rfl⟩
    · rfl
    · rfl
    · rfl
  | cons c q => rfl
theorem dolF_app (t z : List UInt8) : ∀ (l : List UInt8) (i j : Nat), dolF t l i = some j → dolF t (l ++ z) i = some j
  | [], _, _, h => by cases h
  | c :: r, i, j, h => by
    have hr := dolF_range t (c :: r) i j h
    rw [List.cons_append, dolF]
    rw [dolF] at h
    by_cases hp : t.isPrefixOf (c :: r) = true
    · rw [if_pos hp] at h
      have : t.isPrefixOf (c :: (r ++ z)) = true := by
        rw [List.isPrefixOf_iff_prefix] at hp ⊢
        exact hp.trans (List.prefix_append (c :: r) z)
      rw [if_pos this]; exact h
    · rw [if_neg hp] at h
      have hr2 := dolF_range t r (i + 1) j h
      have : ¬ t.isPrefixOf (c :: (r ++ z)) = true := by
        intro q
        rw [List.isPrefixOf_iff_prefix] at q
        refine hp (List.isPrefixOf_iff_prefix.2 (List.prefix_of_prefix_length_le q (List.prefix_append (c :: r) z) ?_))
        rw [List.length_cons]; omega
      rw [if_neg this]
      exact dolF_app t z r (i + 1) j h
theorem oneL_app {a z : List UInt8} {k : Int} {t : List UInt8} {n : Nat} (hz : Beh z) (h : oneL a = .tok k t n) : oneL (a ++ z) = .tok k t n := by
  cases a with
  | nil => cases h
  | cons c r =>
    have htk : ∀ m, m ≤ (c :: r).length → (c :: (r ++ z)).take m = (c :: r).take m := fun m hm => by
      rw [← List.cons_append, List.take_append_of_le_length hm]
    have hdr : ∀ m, m ≤ (c :: r).length → (c :: (r ++ z)).drop m = (c :: r).drop m ++ z := fun m hm => by
      rw [← List.cons_append, List.drop_append_of_le_length hm]
    rw [List.cons_append, oneL]
    rw [oneL] at h
    have e1 := runL_app pWord (c :: r) z (beh_p pWord (by decide) (by decide) hz)
    have e2 := runL_app pNum (c :: r) z (beh_p pNum (by decide) (by decide) hz)
    have e3 := runL_app isDig r z (beh_p isDig (by decide) (by decide) hz)
    rw [List.cons_append] at e1 e2
    rw [e1, e2, e3, htk _ (runL_le _ _), htk _ (runL_le _ _), tagL_app r z hz]
    by_cases c1 : isLet c = true
    · rw [if_pos c1] at h ⊢; exact h
    rw [if_neg c1] at h ⊢
    by_cases c2 : isDig c = true
    · rw [if_pos c2] at h ⊢; exact h
    rw [if_neg c2] at h ⊢
    have hq : c.toNat = 34 ∨ c.toNat = 39 → (z = [] ∨ ∃ d q, z = d :: q ∧ d ≠ c) := by
      intro hc
      rcases hz with rfl | ⟨d, q, rfl, hd⟩
      · exact .inl rfl
      · refine .inr ⟨d, q, rfl, ?_⟩
        rintro rfl
        rcases hd with rfl | rfl
        · rcases hc with hc | hc <;> cases hc
        · rcases hc with hc | hc <;> cases hc
    by_cases c3 : c.toNat = 34
    · rw [if_pos c3] at h ⊢
      cases hl : quotL c r [] 1 with
      | none => rw [hl] at h; cases h
      | some x => rw [hl] at h; rw [quotL_app c (hq (.inl c3)) r [] 1 x hl]; exact h
    rw [if_neg c3] at h ⊢
    by_cases c4 : c.toNat = 39
    · rw [if_pos c4] at h ⊢
      cases hl : quotL c r [] 1 with
      | none => rw [hl] at h; cases h
      | some x => rw [hl] at h; rw [quotL_app c (hq (.inr c4)) r [] 1 x hl]; exact h
    rw [if_neg c4] at h ⊢
    by_cases c5 : c.toNat = 36
    · rw [if_pos c5] at h ⊢
      cases hm : tagL r with
      | some m =>
        rw [hm] at h
        simp only at h ⊢
        have hmr := tagL_range hm
        rw [htk m (by rw [List.length_cons]; omega), hdr m (by rw [List.length_cons]; omega)]
        cases hi : dolF ((c :: r).take m) ((c :: r).drop m) m with
        | none => rw [hi] at h; cases h
        | some i =>
          rw [hi] at h
          have hir := dolF_range _ _ _ _ hi
          rw [dolF_app _ z _ _ _ hi]
          simp only at h ⊢
          rw [htk i (by simp at hir ⊢; omega)]
          exact h
      | none =>
        rw [hm] at h
        simp only at h ⊢
        by_cases c6 : 0 < runL isDig r
        · rw [if_pos c6] at h ⊢
          rw [htk _ (by rw [List.length_cons]; have := runL_le isDig r; omega)]
          exact h
        · rw [if_neg c6] at h; cases h
    rw [if_neg c5] at h ⊢
    exact h
/-- A text that goes on behind a line's end. -/
theorem sc_app {r : List UInt8} {l : List Tok} (h : Sc r l) {q : List UInt8} {m : List Tok} (hq : Sc (10 :: q) m) : Sc (r ++ 10 :: q) (l ++ m) := by
  have hB : Beh (10 :: q) := .inr ⟨10, q, rfl, .inl rfl⟩
  have hp : ∀ (x y c : UInt8) (r : List UInt8), (10 : UInt8) ≠ y → [x, y].isPrefixOf (c :: (r ++ 10 :: q)) = [x, y].isPrefixOf (c :: r) := fun x y c r hy => by
    have := pre2_app x y c r (10 :: q) (.inr ⟨10, q, rfl, hy⟩)
    rw [List.cons_append] at this; exact this
  have hdr : ∀ (c : UInt8) (r : List UInt8) m, m ≤ (c :: r).length → (c :: (r ++ 10 :: q)).drop m = (c :: r).drop m ++ 10 :: q := fun c r m hm => by
    rw [← List.cons_append, List.drop_append_of_le_length hm]
  induction h with
  | nil => exact hq
  | @blank c r l h _ ih => exact .blank h ih
  | @line c r l h h1 _ ih =>
    show Sc (c :: (r ++ 10 :: q)) (l ++ m)
    have e := runL_app pLine (c :: r) (10 :: q) (.inr ⟨10, q, rfl, by decide⟩)
    rw [List.cons_append] at e
    refine .line h (by rw [hp _ _ _ _ (by decide)]; exact h1) ?_
    rw [e, hdr _ _ _ (runL_le _ _)]
    exact ih
  | @rem c r n l h h0 h1 hn _ ih =>
    show Sc (c :: (r ++ 10 :: q)) (l ++ m)
    have e := remL_app (z := 10 :: q) (c :: r) 0 0 n hn
    rw [List.cons_append] at e
    refine .rem h (by rw [hp _ _ _ _ (by decide)]; exact h0) (by rw [hp _ _ _ _ (by decide)]; exact h1) e ?_
    have := remL_range _ _ _ _ hn
    rw [hdr c r n (by omega)]
    exact ih
  | @tok c r k t n l h h0 h1 hn _ ih =>
    show Sc (c :: (r ++ 10 :: q)) (⟨k, mk t, 0⟩ :: (l ++ m))
    have e := oneL_app hB hn
    rw [List.cons_append] at e
    refine .tok h (by rw [hp _ _ _ _ (by decide)]; exact h0) (by rw [hp _ _ _ _ (by decide)]; exact h1) e ?_
    have := oneL_range hn
    rw [hdr _ _ _ this.2.1]
    exact ih

end Go.Proofs.Ytkjhfpjjcagecaa
