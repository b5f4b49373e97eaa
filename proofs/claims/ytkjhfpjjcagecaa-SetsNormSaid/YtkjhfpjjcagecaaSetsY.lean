/- Plain law: the normal form scans as itself; a text between ; is known as the text. -/
import Derived.Test.YtkjhfpjjcagecaaSetsX
import Derived.KernelRfl
namespace Go.Proofs.Ytkjhfpjjcagecaa
set_option linter.all false
open Go Go.RowKit

def GoodB (k : Int) (t : List UInt8) : Prop :=
  (k = 1 ∧ ∃ c r, t = c :: r ∧ isLet c = true ∧ ∀ d ∈ t, pWord d = true ∧ low d = d) ∨ k = 2 ∨ k = 3 ∨
  (k = 4 ∧ ∃ c r, t = c :: r ∧ isDig c = true ∧ ∀ d ∈ t, pNum d = true) ∨
  (k = 5 ∧ ((∃ c, c ∈ signSet ∧ t = [c]) ∨ ∃ ds, ds ≠ [] ∧ (∀ d ∈ ds, isDig d = true) ∧ t = 36 :: ds))
theorem low_nat (c : UInt8) : (low c).toNat = if 65 ≤ c.toNat ∧ c.toNat ≤ 90 then c.toNat + 32 else c.toNat := by
  unfold low
  split
  · rename_i h
    rw [UInt8.toNat_add]
    have : (32 : UInt8).toNat = 32 := rfl
    omega
  · rfl
theorem low_let (c : UInt8) (h : isLet c = true) : isLet (low c) = true := by
  have e := low_nat c
  simp only [isLet, Bool.or_eq_true, Bool.and_eq_true, decide_eq_true_eq] at h ⊢
  split at e <;> omega
theorem low_word (c : UInt8) (h : pWord c = true) : pWord (low c) = true := by
  have e := low_nat c
  simp only [pWord, isLet, isDig, Bool.or_eq_true, Bool.and_eq_true, decide_eq_true_eq] at h ⊢
  split at e <;> omega
theorem low_low (c : UInt8) : low (low c) = low c := by
  have e := low_nat c
  have e2 := low_nat (low c)
  apply UInt8.toNat_inj.1
  split at e <;> split at e2 <;> omega
theorem take_run (p : UInt8 → Bool) (l : List UInt8) : l.take (runL p l) = l.takeWhile p := by
  unfold runL
  induction l with
  | nil => rfl
  | cons c l ih =>
    rw [List.takeWhile_cons]
    split
    · rw [List.length_cons, List.take_succ_cons, ih]
    · rfl
theorem take_all (p : UInt8 → Bool) (l : List UInt8) : ∀ d ∈ l.take (runL p l), p d = true := by
  intro d hd
  rw [take_run] at hd
  exact List.all_eq_true.1 (List.all_takeWhile (l := l) (p := p)) d hd
theorem run_all (p : UInt8 → Bool) : ∀ l : List UInt8, (∀ d ∈ l, p d = true) → runL p l = l.length
  | [], _ => rfl
  | c :: l, h => by rw [runL_cons, if_pos (h c (by simp)), run_all p l fun d hd => h d (List.mem_cons_of_mem _ hd)]; rfl
theorem oneL_good {a t : List UInt8} {k : Int} {n : Nat} (h : oneL a = .tok k t n) : GoodB k t := by
  cases a with
  | nil => cases h
  | cons c r =>
    rw [oneL] at h
    by_cases c1 : isLet c = true
    · rw [if_pos c1] at h
      cases h
      left
      have hr : runL pWord (c :: r) = runL pWord r + 1 := by rw [runL_cons, if_pos (by simp [pWord, c1])]
      refine ⟨rfl, low c, (r.take (runL pWord r)).map low, by rw [hr]; rfl, low_let c c1, ?_⟩
      intro d hd
      obtain ⟨e, he, rfl⟩ := List.mem_map.1 hd
      exact ⟨low_word e (take_all pWord _ e he), low_low e⟩
    rw [if_neg c1] at h
    by_cases c2 : isDig c = true
    · rw [if_pos c2] at h
      cases h
      right; right; right; left
      have hr : runL pNum (c :: r) = runL pNum r + 1 := by rw [runL_cons, if_pos (by simp [pNum, c2])]
      exact ⟨rfl, c, r.take (runL pNum r), by rw [hr]; rfl, c2, take_all pNum _⟩
    rw [if_neg c2] at h
    by_cases c3 : c.toNat = 34
    · rw [if_pos c3] at h
      cases hq : quotL c r [] 1 with
      | none => rw [hq] at h; cases h
      | some x => rw [hq] at h; cases h; exact .inr (.inl rfl)
    rw [if_neg c3] at h
    by_cases c4 : c.toNat = 39
    · rw [if_pos c4] at h
      cases hq : quotL c r [] 1 with
      | none => rw [hq] at h; cases h
      | some x => rw [hq] at h; cases h; exact .inr (.inr (.inl rfl))
    rw [if_neg c4] at h
    by_cases c5 : c.toNat = 36
    · rw [if_pos c5] at h
      cases hm : tagL r with
      | some m =>
        rw [hm] at h
        simp only at h
        cases hi : dolF ((c :: r).take m) ((c :: r).drop m) m with
        | some i => rw [hi] at h; cases h; exact .inr (.inr (.inl rfl))
        | none => rw [hi] at h; cases h
      | none =>
        rw [hm] at h
        simp only at h
        by_cases c6 : 0 < runL isDig r
        · rw [if_pos c6] at h
          cases h
          right; right; right; right
          refine ⟨rfl, .inr ⟨r.take (runL isDig r), ?_, take_all isDig _, ?_⟩⟩
          · intro q
            have := congrArg List.length q
            rw [List.length_take, List.length_nil] at this
            have := runL_le isDig r
            omega
          · rw [List.take_succ_cons]
            congr 1
            exact UInt8.toNat_inj.1 c5
        · rw [if_neg c6] at h; cases h
    rw [if_neg c5] at h
    by_cases c7 : c ∈ signSet
    · rw [if_pos c7] at h; cases h; exact .inr (.inr (.inr (.inr ⟨rfl, .inl ⟨c, c7, rfl⟩⟩)))
    · rw [if_neg c7] at h; cases h
theorem sc_good {r : List UInt8} {m : List Tok} (h : Sc r m) : ∀ x ∈ m, GoodB x.k (bl x.t) := by
  induction h with
  | nil => intro x hx; cases hx
  | blank _ _ ih => exact ih
  | line _ _ _ ih => exact ih
  | rem _ _ _ _ _ ih => exact ih
  | tok _ _ _ hn _ ih =>
    intro x hx
    rw [List.mem_cons] at hx
    rcases hx with rfl | hx
    · exact oneL_good hn
    · exact ih x hx

/-- Numbers. -/
theorem lead_fix {m : List UInt8} : lead m = m ↔ ∀ a b r, m = a :: b :: r → ¬ (a.toNat = 48 ∧ b.toNat ≠ 46) := by
  constructor
  · intro h a b r e q
    subst e
    rw [lead, if_pos q] at h
    have := lead_len (b :: r)
    rw [h] at this
    simp only [List.length_cons] at this
    omega
  · intro h
    match m, h with
    | [], _ => rfl
    | [_], _ => rfl
    | a :: b :: r, h => rw [lead, if_neg (h a b r rfl)]
theorem lead_lead (l : List UInt8) : lead (lead l) = lead l := by
  fun_induction lead l with
  | case1 a b r h ih => exact ih
  | case2 a b r h => rw [lead, if_neg h]
  | case3 l h =>
    match l, h with
    | [], _ => rfl
    | [_], _ => rfl
    | a :: b :: r, h => exact absurd rfl (h a b r)
theorem lead_pre {m u : List UInt8} (h : lead m = m) (hu : u <+: m) : lead u = u := by
  rw [lead_fix] at h ⊢
  intro a b r e
  obtain ⟨z, hz⟩ := hu
  refine h a b (r ++ z) ?_
  rw [← hz, e]; rfl
theorem lead_good (l : List UInt8) (h : ∃ c r, l = c :: r ∧ isDig c = true) (hp : ∀ d ∈ l, pNum d = true) : (∃ c r, lead l = c :: r ∧ isDig c = true) ∧ ∀ d ∈ lead l, pNum d = true := by
  fun_induction lead l with
  | case1 a b r hc ih =>
    refine ih ⟨b, r, rfl, ?_⟩ fun d hd => hp d (List.mem_cons_of_mem _ hd)
    have := hp b (by simp)
    simp only [pNum, isDig, Bool.or_eq_true, Bool.and_eq_true, decide_eq_true_eq] at this ⊢
    omega
  | case2 => exact ⟨h, hp⟩
  | case3 => exact ⟨h, hp⟩
theorem snoc_ind {P : List UInt8 → Prop} (h0 : P []) (h1 : ∀ l c, P l → P (l ++ [c])) (l : List UInt8) : P l := by
  rw [← List.reverse_reverse l]
  induction l.reverse with
  | nil => exact h0
  | cons c r ih => rw [List.reverse_cons]; exact h1 _ _ ih
theorem strip_pre (l : List UInt8) : strip0 l <+: l := by
  refine snoc_ind (P := fun l => strip0 l <+: l) (List.prefix_refl _) (fun l c ih => ?_) l
  rw [strip0_snoc]
  split
  · exact ih.trans (List.prefix_append _ _)
  · exact List.prefix_refl _
theorem strip_strip (l : List UInt8) : strip0 (strip0 l) = strip0 l := by
  refine snoc_ind (P := fun l => strip0 (strip0 l) = strip0 l) rfl (fun l c ih => ?_) l
  rw [strip0_snoc]
  split
  · exact ih
  · rename_i h; rw [strip0_snoc, if_neg h]
theorem strip_dots (l : List UInt8) : dots (strip0 l) = dots l := by
  refine snoc_ind (P := fun l => dots (strip0 l) = dots l) rfl (fun l c ih => ?_) l
  rw [strip0_snoc, dots_snoc]
  split
  · rename_i h; rw [ih, if_neg (by omega)]; rfl
  · rw [dots_snoc]
theorem lastDot_snoc {q : List UInt8} (h : lastDot q = true) : ∃ u c, q = u ++ [c] ∧ c.toNat = 46 ∧ q.dropLast = u := by
  unfold lastDot at h
  split at h
  · rename_i c hc
    rw [decide_eq_true_eq] at h
    obtain ⟨u, rfl⟩ := List.getLast?_eq_some_iff.1 hc
    exact ⟨u, c, rfl, h, by simp⟩
  · cases h
theorem numL_good (l : List UInt8) (h : ∃ c r, l = c :: r ∧ isDig c = true) (hp : ∀ d ∈ l, pNum d = true) : ((∃ c r, numL l = c :: r ∧ isDig c = true) ∧ ∀ d ∈ numL l, pNum d = true) ∧ numL (numL l) = numL l := by
  obtain ⟨⟨c, r, hc, hd⟩, hp2⟩ := lead_good l h hp
  have hll := lead_lead l
  have hn : numL l = if dots (lead l) ≠ 1 then lead l else if lastDot (strip0 (lead l)) = true then (strip0 (lead l)).dropLast else strip0 (lead l) := rfl
  generalize lead l = m at *
  have hpre := strip_pre m
  have hsd := strip_dots m
  have hss := strip_strip m
  generalize strip0 m = q at *
  have hhead : ∀ u, u <+: m → u ≠ [] → ∃ c r, u = c :: r ∧ isDig c = true := by
    intro u hu hne
    obtain ⟨z, hz⟩ := hu
    cases u with
    | nil => exact absurd rfl hne
    | cons d v =>
      rw [hc, List.cons_append, List.cons.injEq] at hz
      exact ⟨d, v, rfl, by rw [hz.1]; exact hd⟩
  have hall : ∀ u, u <+: m → ∀ d ∈ u, pNum d = true := fun u hu d hd => hp2 d (hu.subset hd)
  by_cases h1 : dots m ≠ 1
  · rw [if_pos h1] at hn
    rw [hn]
    refine ⟨⟨⟨c, r, hc, hd⟩, hp2⟩, ?_⟩
    unfold numL
    rw [hll, if_pos h1]
  · rw [if_neg h1] at hn
    by_cases h2 : lastDot q = true
    · rw [if_pos h2] at hn
      obtain ⟨u, e, rfl, he, hu⟩ := lastDot_snoc h2
      rw [hu] at hn
      rw [hn]
      have hum : u <+: m := (List.prefix_append u [e]).trans hpre
      have hdu : dots u = 0 := by rw [dots_snoc, if_pos he] at hsd; omega
      have hne : u ≠ [] := by
        rintro rfl
        obtain ⟨c', r', e1, e2⟩ := hhead _ hpre (by simp)
        rw [List.nil_append, List.cons.injEq] at e1
        rw [← e1.1] at e2
        simp only [isDig, Bool.and_eq_true, decide_eq_true_eq] at e2
        omega
      refine ⟨⟨hhead u hum hne, hall u hum⟩, ?_⟩
      unfold numL
      rw [lead_pre hll hum, if_pos (by omega)]
    · rw [if_neg h2] at hn
      rw [hn]
      have hne : q ≠ [] := by
        rintro rfl
        rw [dots_nil] at hsd
        omega
      refine ⟨⟨hhead q hpre hne, hall q hpre⟩, ?_⟩
      unfold numL
      rw [lead_pre hll hpre, if_neg (by omega), hss, if_neg h2]

/-- What is shown scans as it. -/
theorem quot_show (q : UInt8) : ∀ (t acc : List UInt8) (i : Nat), quotL q (t.flatMap (fq q) ++ [q]) acc i = some (acc ++ t, i + (t.flatMap (fq q)).length + 1)
  | [], acc, i => by
    show quotL q [q] acc i = _
    rw [quotL, if_pos rfl]; simp
  | c :: t, acc, i => by
    rw [List.flatMap_cons]
    by_cases h : c = q
    · have e : fq q c = [q, q] := by unfold fq; rw [if_pos h, h]
      rw [e]
      show quotL q (q :: q :: (t.flatMap (fq q) ++ [q])) acc i = _
      rw [quotL, if_pos rfl, if_pos rfl, quot_show q t]
      rw [h]
      simp; omega
    · have e : fq q c = [c] := by unfold fq; rw [if_neg h]
      rw [e]
      obtain ⟨d, r, hd⟩ : ∃ d r, t.flatMap (fq q) ++ [q] = d :: r := by
        cases t.flatMap (fq q) with
        | nil => exact ⟨q, [], rfl⟩
        | cons d r => exact ⟨d, r ++ [q], rfl⟩
      show quotL q (c :: (t.flatMap (fq q) ++ [q])) acc i = _
      have ih := quot_show q t (acc ++ [c]) (i + 1)
      rw [hd] at ih ⊢
      rw [quotL, if_neg h, ih]
      simp; omega
theorem sign_facts : signSet.all (fun c => !isLet c && !isDig c && decide (c.toNat ≠ 34) && decide (c.toNat ≠ 39) && decide (c.toNat ≠ 36) && !isBlank c) = true := by decide
theorem show_tok (x : Tok) (hg : GoodB x.k (bl x.t)) : ∃ c r, showT x = c :: r ∧ isBlank c = false ∧ (r = [] ∨ (c ≠ 45 ∧ c ≠ 47)) ∧ oneL (c :: r) = .tok x.k (bl x.t) (c :: r).length := by
  obtain ⟨k, tt, at'⟩ := x
  simp only at hg ⊢
  have hsh : showT ⟨k, tt, at'⟩ = if k = 2 then dbl 34 (bl tt) else if k = 3 then dbl 39 (bl tt) else bl tt := rfl
  rw [hsh]
  generalize bl tt = t at *
  rcases hg with ⟨rfl, c, r, rfl, hc, hp⟩ | rfl | rfl | ⟨rfl, c, r, rfl, hc, hp⟩ | ⟨rfl, ⟨c, hc, rfl⟩ | ⟨ds, hne, hp, rfl⟩⟩
  · refine ⟨c, r, rfl, ?_, .inr ?_, ?_⟩
    · cases hb : isBlank c with
      | false => rfl
      | true =>
        simp only [isLet, isBlank, Bool.or_eq_true, Bool.and_eq_true, decide_eq_true_eq] at hc hb
        omega
    · constructor
      · rintro rfl; revert hc; decide
      · rintro rfl; revert hc; decide
    · rw [oneL, if_pos hc, run_all pWord _ fun d hd => (hp d hd).1, List.take_of_length_le (Nat.le_refl _)]
      congr 1
      conv => rhs; rw [← List.map_id (c :: r)]
      exact List.map_congr_left fun d hd => (hp d hd).2
  · refine ⟨34, t.flatMap (fq 34) ++ [34], rfl, by decide, .inr ⟨by decide, by decide⟩, ?_⟩
    rw [oneL, if_neg (by decide), if_neg (by decide), if_pos (by decide), quot_show]
    show One.tok 2 _ _ = _
    congr 1
    simp; omega
  · refine ⟨39, t.flatMap (fq 39) ++ [39], rfl, by decide, .inr ⟨by decide, by decide⟩, ?_⟩
    rw [oneL, if_neg (by decide), if_neg (by decide), if_neg (by decide), if_pos (by decide), quot_show]
    show One.tok 3 _ _ = _
    congr 1
    simp; omega
  · have hl : isLet c = false := by
      cases hb : isLet c with
      | false => rfl
      | true =>
        simp only [isLet, isDig, Bool.or_eq_true, Bool.and_eq_true, decide_eq_true_eq] at hc hb
        omega
    refine ⟨c, r, rfl, ?_, .inr ?_, ?_⟩
    · cases hb : isBlank c with
      | false => rfl
      | true =>
        simp only [isDig, isBlank, Bool.or_eq_true, Bool.and_eq_true, decide_eq_true_eq] at hc hb
        omega
    · constructor
      · rintro rfl; revert hc; decide
      · rintro rfl; revert hc; decide
    · rw [oneL, if_neg (by rw [hl]; decide), if_pos hc, run_all pNum _ hp, List.take_of_length_le (Nat.le_refl _)]
  · have hf := List.all_eq_true.1 sign_facts c hc
    simp only [Bool.and_eq_true, Bool.not_eq_true', decide_eq_true_eq] at hf
    obtain ⟨⟨⟨⟨⟨f1, f2⟩, f3⟩, f4⟩, f5⟩, f6⟩ := hf
    refine ⟨c, [], rfl, f6, .inl rfl, ?_⟩
    rw [oneL, if_neg (by rw [f1]; decide), if_neg (by rw [f2]; decide), if_neg f3, if_neg f4, if_neg f5, if_pos hc]
    rfl
  · refine ⟨36, ds, rfl, by decide, .inr ⟨by decide, by decide⟩, ?_⟩
    obtain ⟨d, q, rfl⟩ := List.exists_cons_of_ne_nil hne
    have hd := hp d (by simp)
    have hl : isLet d = false := by
      cases hb : isLet d with
      | false => rfl
      | true =>
        simp only [isLet, isDig, Bool.or_eq_true, Bool.and_eq_true, decide_eq_true_eq] at hd hb
        omega
    have ht : tagN (d :: q) = 0 := by
      show (if isLet d = true then runL pLD (d :: q) else 0) = 0
      rw [if_neg (by rw [hl]; decide)]
    have htg : tagL (d :: q) = none := by
      unfold tagL
      rw [ht, List.drop_zero]
      simp only
      rw [if_neg (by simp only [isDig, Bool.and_eq_true, decide_eq_true_eq] at hd; omega)]
    rw [oneL, if_neg (by decide), if_neg (by decide), if_neg (by decide), if_neg (by decide), if_pos (by decide), htg]
    simp only
    rw [run_all isDig _ hp, if_pos (by simp), List.take_of_length_le (by simp)]
    rfl
theorem sc_tok (x : Tok) (hg : GoodB x.k (bl x.t)) (z : List UInt8) (m : List Tok) (hz : z = [] ∨ ∃ q, z = 32 :: q) (h : Sc z m) : Sc (showT x ++ z) (zt x :: m) := by
  obtain ⟨c, r, e, hb, hs, ho⟩ := show_tok x hg
  rw [e]
  have hB : Beh z := by
    rcases hz with rfl | ⟨q, rfl⟩
    · exact .inl rfl
    · exact .inr ⟨32, q, rfl, .inr rfl⟩
  have hp : ∀ (a y : UInt8), (32 : UInt8) ≠ y → (c ≠ a ∨ r = []) → [a, y].isPrefixOf (c :: (r ++ z)) = false := fun a y hy ha => by
    have := pre2_app a y c r z (by
      rcases hz with rfl | ⟨q, rfl⟩
      · exact .inl rfl
      · exact .inr ⟨32, q, rfl, hy⟩)
    rw [List.cons_append] at this
    rw [this]
    rcases ha with ha | rfl
    · simp only [List.isPrefixOf]
      rw [show (a == c) = false from beq_eq_false_iff_ne.2 (Ne.symm ha)]; rfl
    · simp [List.isPrefixOf]
  have e1 := oneL_app hB ho
  rw [List.cons_append] at e1 ⊢
  have ht : zt x = ⟨x.k, mk (bl x.t), 0⟩ := by rw [mk_bl]; rfl
  rw [ht]
  refine .tok hb (hp _ _ (by decide) ?_) (hp _ _ (by decide) ?_) e1 ?_
  · rcases hs with hs | hs
    · exact .inr hs
    · exact .inl hs.1
  · rcases hs with hs | hs
    · exact .inr hs
    · exact .inl hs.2
  · rw [← List.cons_append, List.drop_left]; exact h
theorem sc_rest : ∀ L : List Tok, (∀ x ∈ L, GoodB x.k (bl x.t)) → Sc (L.flatMap fun y => 32 :: showT y) (L.map zt)
  | [], _ => .nil
  | x :: L, h => by
    have ih := sc_rest L fun y hy => h y (List.mem_cons_of_mem _ hy)
    rw [List.flatMap_cons, List.map_cons, List.cons_append]
    refine .blank (by decide) (sc_tok x (h x (by simp)) _ _ ?_ ih)
    cases L with
    | nil => exact .inl rfl
    | cons y L => exact .inr ⟨_, rfl⟩
theorem sc_show (L : List Tok) (h : ∀ x ∈ L, GoodB x.k (bl x.t)) : Sc (showL L) (L.map zt) := by
  cases L with
  | nil => exact .nil
  | cons x L =>
    have ih := sc_rest L fun y hy => h y (List.mem_cons_of_mem _ hy)
    unfold showL
    refine sc_tok x (h x (by simp)) _ _ ?_ ih
    cases L with
    | nil => exact .inl rfl
    | cons y L => exact .inr ⟨_, rfl⟩
/-- Of numbers the normal form is the normal form. -/
theorem norm_good (x : Tok) (hg : GoodB x.k (bl x.t)) : GoodB (normT x).k (bl (normT x).t) ∧ normT (normT x) = normT x := by
  unfold normT
  by_cases h : x.k = 4 ∧ x.t ≠ ⟨#[]⟩
  · rw [if_pos h]
    rcases hg with ⟨q, _⟩ | q | q | ⟨_, c, r, e, hc, hp⟩ | ⟨q, _⟩
    · omega
    · omega
    · omega
    · have hn := numL_good (bl x.t) ⟨c, r, e, hc⟩ hp
      simp only [bl_mk]
      refine ⟨.inr (.inr (.inr (.inl ?_))), ?_⟩
      · obtain ⟨⟨⟨c', r', e', hc'⟩, hp'⟩, _⟩ := hn
        exact ⟨h.1, c', r', e', hc', hp'⟩
      · have hne : mk (numL (bl x.t)) ≠ ⟨#[]⟩ := by
          intro q
          obtain ⟨⟨c, r, e, _⟩, _⟩ := hn.1
          have := congrArg bl q
          rw [bl_mk, e] at this
          cases this
        rw [if_pos ⟨h.1, hne⟩, hn.2]
    · omega
  · rw [if_neg h]
    exact ⟨hg, if_neg h⟩
theorem norm_nrm (x : Tok) : nrm (normT x) = nrm x := by
  unfold normT
  split
  · rename_i h
    unfold nrm
    simp only
    rw [if_pos h.1, if_pos h.1]
  · rfl
theorem norm_semi (x : Tok) : isSemi (normT x) = isSemi x := by rw [← semi_nrm, norm_nrm, semi_nrm]
/-- A statement and its normal form are known alike. -/
theorem of_norm (p : List Tok) (hs : ∀ x ∈ p, isSemi x = false) (hg : ∀ x ∈ p, GoodB x.k (bl x.t)) : Sc (normL p) ((p.map normT).map zt) ∧ ofS ((p.map normT).map zt) = ofS p ∧ ∀ x ∈ (p.map normT).map zt, isSemi x = false := by
  have e : normL p = showL (p.map normT) := by unfold normL; rw [noSemi_none p hs]
  have hs2 : ∀ x ∈ p.map normT, isSemi x = false := by
    intro x hx
    obtain ⟨y, hy, rfl⟩ := List.mem_map.1 hx
    rw [norm_semi]; exact hs y hy
  refine ⟨?_, ?_, ?_⟩
  · rw [e]
    refine sc_show _ fun x hx => ?_
    obtain ⟨y, hy, rfl⟩ := List.mem_map.1 hx
    exact (norm_good y (hg y hy)).1
  · rw [of_zt]
    refine of_alike ?_ ?_
    · rw [List.map_map]
      exact List.map_congr_left fun x _ => norm_nrm x
    · rw [e]
      unfold normL
      rw [noSemi_none _ hs2, List.map_map]
      congr 1
      exact List.map_congr_left fun x hx => (norm_good x (hg x hx)).2
  · intro x hx
    obtain ⟨y, hy, rfl⟩ := List.mem_map.1 hx
    exact hs2 y hy
theorem par_ok {s : ByteArray} (h : (parS s).2 = 0) : ∃ l, scanB s = .ok l := by
  cases hb : scanB s with
  | ok l => exact ⟨l, rfl⟩
  | err e a =>
    have := scanB_err hb
    unfold parS at h
    rw [hb] at h
    simp only at h
    omega
theorem par_norm (s : ByteArray) (h : (parS s).2 = 0) (hn : (parS s).1.nm.size ≤ 2000) : parS (parS s).1.nm = parS s := by
  obtain ⟨l, hl⟩ := par_ok h
  obtain ⟨hsc, _⟩ := sc_B hl
  have hp := parS_zt hl
  have hparts := splitL_parts (l.map zt) [] [] (by simp) (by simp)
  have hgood := splitL_mem (l.map zt) [] [] _ (sc_good hsc) (by simp) (by simp)
  rw [hp] at h hn ⊢
  match hP : splitL (l.map zt) [] [], h, hn, hparts, hgood with
  | [], h, hn, _, _ =>
    show parS (ofS []).nm = parL []
    kernel_rfl
  | [p], h, hn, hparts, hgood =>
    have hn2 : (mk (normL p)).size ≤ 2000 := hn
    obtain ⟨hne, hs⟩ := hparts p (by simp)
    obtain ⟨h1, h2, h3⟩ := of_norm p hs (hgood p (by simp))
    obtain ⟨l', g1, g2⟩ := sc_to (s := mk (normL p)) (by rw [bl_mk]; exact h1) hn2
    show parS (mk (normL p)) = (ofS p, 0)
    rw [parS_zt g1, g2, splitL_none _ _ _ h3, List.nil_append, if_neg (by simpa using hne), List.nil_append]
    show (ofS _, (0 : Int)) = _
    rw [h2]
  | _ :: _ :: _, h, _, _, _ => cases h
/-- A text between ; is known as the text. -/
theorem par_around (s s' : ByteArray) (h : (parS s).2 = 0) (hs : s.size ≤ 900) (hb : bl s' = [32, 59, 32] ++ (bl s ++ [10, 32, 59, 32])) : parS s' = parS s := by
  obtain ⟨l, hl⟩ := par_ok h
  obtain ⟨hsc, _⟩ := sc_B hl
  have hsz : s'.size ≤ 2000 := by
    rw [← bl_len, hb]
    simp only [List.length_append, bl_len, List.length_cons, List.length_nil]
    omega
  have hz : Sc [32] [] := .blank (by decide) .nil
  have h59 : ∀ q m, Sc (32 :: q) m → Sc (59 :: 32 :: q) (⟨5, mk [59], 0⟩ :: m) := by
    intro q m hq
    refine .tok (n := 1) (by decide) (by simp [List.isPrefixOf]) (by simp [List.isPrefixOf]) ?_ hq
    rw [oneL, if_neg (by decide), if_neg (by decide), if_neg (by decide), if_neg (by decide), if_neg (by decide), if_pos (by decide)]
  have ht : Sc [10, 32, 59, 32] [⟨5, mk [59], 0⟩] := .blank (by decide) (.blank (by decide) (h59 _ _ hz))
  have hall : Sc (bl s') (⟨5, mk [59], 0⟩ :: (l.map zt ++ [⟨5, mk [59], 0⟩])) := by
    rw [hb]
    exact .blank (by decide) (h59 _ _ (.blank (by decide) (sc_app hsc ht)))
  obtain ⟨l', g1, g2⟩ := sc_to hall hsz
  rw [parS_zt g1, g2, parS_zt hl, splitL_lead (by decide +kernel), splitL_tail (by decide +kernel)]

end Go.Proofs.Ytkjhfpjjcagecaa
