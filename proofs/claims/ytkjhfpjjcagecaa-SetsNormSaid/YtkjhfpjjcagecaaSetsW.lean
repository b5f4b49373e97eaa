/- Plain law: what is known of tokens does not look at their places, nor at numbers. -/
import Derived.Test.YtkjhfpjjcagecaaSetsN
namespace Go.Proofs.Ytkjhfpjjcagecaa
set_option linter.all false
open Go Go.RowKit

def nrm (x : Tok) : Tok := ⟨x.k, if x.k = 4 then ⟨#[]⟩ else x.t, 0⟩
theorem nrm_k (x : Tok) : (nrm x).k = x.k := rfl
theorem nrm_t (x : Tok) (h : x.k ≠ 4) : (nrm x).t = x.t := if_neg h
theorem nrm_kt (x : Tok) (k : Int) (s : ByteArray) (h : k ≠ 4) : (decide ((nrm x).k = k) && decide ((nrm x).t = s)) = (decide (x.k = k) && decide (x.t = s)) := by
  by_cases h4 : x.k = 4
  · rw [nrm_k, decide_eq_false (by omega), Bool.false_and, Bool.false_and]
  · rw [nrm_k, nrm_t x h4]
theorem wd_nrm (x : Tok) : wd (nrm x) = wd x := by
  unfold wd
  rw [nrm_k]
  by_cases h : x.k = 1
  · rw [if_pos h, if_pos h, nrm_t x (by omega)]
  · rw [if_neg h, if_neg h]
theorem wds_nrm (l : List Tok) : (l.map nrm).map wd = l.map wd := by
  rw [List.map_map]
  exact List.map_congr_left fun x _ => wd_nrm x
theorem open_nrm (x : Tok) : isOpen (nrm x) = isOpen x := nrm_kt x 5 _ (by decide)
theorem semi_nrm (x : Tok) : isSemi (nrm x) = isSemi x := nrm_kt x 5 _ (by decide)
theorem calls_nrm (so : ByteArray → Bool) : ∀ l : List Tok, callsL so (l.map nrm) = callsL so l
  | [] => rfl
  | [_] => rfl
  | a :: b :: r => by
    have ih := calls_nrm so (b :: r)
    rw [List.map_cons, List.map_cons, callsL, callsL]
    rw [List.map_cons] at ih
    rw [ih, open_nrm, nrm_k]
    by_cases h : a.k = 1
    · rw [nrm_t a (by omega)]
    · rw [decide_eq_false h]; simp
theorem query_nrm (l : List Tok) : queryC (l.map nrm) = queryC l := by
  unfold queryC; rw [wds_nrm, calls_nrm]
theorem class_nrm (l : List Tok) : classL (l.map nrm) = classL l := by
  cases l with
  | nil => rfl
  | cons x r =>
    have h1 := query_nrm (x :: r)
    have h2 := wds_nrm r
    have h3 := wds_nrm (x :: r)
    rw [List.map_cons] at h1 h3 ⊢
    unfold classL
    simp only
    rw [wd_nrm, h1, h2, h3]
theorem isAt_nrm (l : List Tok) (i : Int) (k : Int) (s : ByteArray) (h : k ≠ 4) : isAt (l.map nrm) i k s = isAt l i k s := by
  unfold isAt
  split
  · rw [List.getElem?_map]
    cases l[i.toNat]? with
    | none => rfl
    | some x => exact nrm_kt x k s h
  · rfl
theorem part_nrm (x : Tok) : partB (nrm x) = partB x := by
  unfold partB
  rw [nrm_k]
  by_cases h : x.k = 1
  · rw [nrm_t x (by omega)]
  · rw [decide_eq_false h]; simp
theorem partAt_nrm (l : List Tok) (i : Nat) : partAt (l.map nrm) i = partAt l i := by
  unfold partAt
  rw [List.getElem?_map]
  cases l[i]? with
  | none => rfl
  | some x => exact part_nrm x
theorem txAt_nrm (l : List Tok) (i : Nat) (h : partAt l i = true) : txAt (l.map nrm) i = txAt l i := by
  unfold partAt at h
  unfold txAt
  rw [List.getElem?_map]
  cases hl : l[i]? with
  | none => rfl
  | some x =>
    rw [hl] at h
    have : x.k ≠ 4 := by
      intro q
      have h' : partB x = true := h
      unfold partB at h'
      rw [q] at h'
      simp at h'
    exact nrm_t x this
theorem dot_nrm (l : List Tok) (i : Nat) : dotAt (l.map nrm) i = dotAt l i := by
  unfold dotAt sgAt; rw [isAt_nrm l _ 5 _ (by decide), partAt_nrm]
theorem nmI_nrm (l : List Tok) (i : Nat) : nmI (l.map nrm) i = nmI l i := by
  unfold nmI wdAt; rw [isAt_nrm l _ 1 _ (by decide), isAt_nrm l _ 1 _ (by decide)]
theorem nmName_nrm (l : List Tok) (i : Nat) (h : partAt l i = true) : nmName (l.map nrm) i = nmName l i := by
  unfold nmName
  rw [dot_nrm, txAt_nrm l i h]
  by_cases hd : dotAt l i = true
  · rw [if_pos hd, if_pos hd, txAt_nrm l (i + 2) (by unfold dotAt at hd; rw [Bool.and_eq_true] at hd; exact hd.2)]
  · rw [if_neg hd, if_neg hd]
theorem nmEnd_nrm (l : List Tok) (i : Nat) : nmEnd (l.map nrm) i = nmEnd l i := by
  have h1 : nmTo (l.map nrm) i = nmTo l i := by unfold nmTo; rw [dot_nrm]
  have h2 : ∀ j, nmAs (l.map nrm) j = nmAs l j := fun j => by unfold nmAs wdAt; rw [isAt_nrm l _ 1 _ (by decide)]
  have h3 : ∀ j, nmAl (l.map nrm) j = nmAl l j := fun j => by unfold nmAl; rw [partAt_nrm]
  unfold nmEnd
  rw [h1, h2, h3]
theorem namesF_nrm (l : List Tok) : ∀ (n i : Nat), namesF n (l.map nrm) i = namesF n l i
  | 0, _ => rfl
  | n + 1, i => by
    rw [namesF, namesF, nmI_nrm, partAt_nrm, nmEnd_nrm, namesF_nrm l n]
    by_cases h : partAt l (nmI l i) = true
    · rw [if_pos h, if_pos h, nmName_nrm l _ h]
      unfold sgAt
      rw [isAt_nrm l _ 5 _ (by decide)]
    · rw [if_neg h, if_neg h]
theorem namesAt_nrm (l : List Tok) (i : Nat) : namesAt (l.map nrm) i = namesAt l i := by
  unfold namesAt; rw [namesF_nrm, List.length_map]
theorem readC_nrm (l : List Tok) (i : Nat) : readC (l.map nrm) i = readC l i := by
  unfold readC wdAt; simp only [isAt_nrm l _ 1 _ (by decide)]
theorem oneC_nrm (l : List Tok) (i : Nat) : oneC (l.map nrm) i = oneC l i := by
  unfold oneC wdAt; simp only [isAt_nrm l _ 1 _ (by decide)]
theorem rAll_nrm (l : List Tok) : ∀ j, rAll (l.map nrm) j = rAll l j
  | 0 => rfl
  | j + 1 => by rw [rAll, rAll, rAll_nrm l j, readC_nrm, namesAt_nrm]
theorem wAll_nrm (l : List Tok) : ∀ j, wAll (l.map nrm) j = wAll l j
  | 0 => rfl
  | j + 1 => by
    rw [wAll, wAll, wAll_nrm l j, oneC_nrm, namesAt_nrm]
    unfold wdAt
    rw [isAt_nrm l _ 1 _ (by decide)]
theorem reads_nrm (l : List Tok) : readsL (l.map nrm) = readsL l := by
  unfold readsL; rw [List.length_map, rAll_nrm]
theorem writes_nrm (l : List Tok) : writesS (l.map nrm) = writesS l := by
  unfold writesS; rw [List.length_map, wAll_nrm]
theorem ofR_nrm (l : List Tok) : ofR (l.map nrm) = ofR l := by unfold ofR; rw [class_nrm, reads_nrm]
theorem ofW_nrm (l : List Tok) : ofW (l.map nrm) = ofW l := by unfold ofW; rw [class_nrm, writes_nrm]
theorem of_alike {l l' : List Tok} (h : l.map nrm = l'.map nrm) (hn : normL l = normL l') : ofS l = ofS l' := by
  unfold ofS
  rw [← class_nrm l, ← ofR_nrm l, ← ofW_nrm l, h, hn, class_nrm, ofR_nrm, ofW_nrm]

/-- Without places. -/
def zt (x : Tok) : Tok := ⟨x.k, x.t, 0⟩
theorem nrm_zt (x : Tok) : nrm (zt x) = nrm x := rfl
theorem nrms_zt (l : List Tok) : (l.map zt).map nrm = l.map nrm := by rw [List.map_map]; rfl
theorem semi_zt (x : Tok) : isSemi (zt x) = isSemi x := rfl
theorem norm_zt (x : Tok) : normT (zt x) = zt (normT x) := by
  unfold normT zt
  split
  · rfl
  · rfl
theorem show_zt (x : Tok) : showT (zt x) = showT x := rfl
theorem showL_zt (l : List Tok) : showL (l.map zt) = showL l := by
  cases l with
  | nil => rfl
  | cons x r =>
    unfold showL
    rw [List.map_cons]
    simp only
    rw [show_zt, List.flatMap_map]
    rfl
theorem noSemi_map (f : Tok → Tok) (hf : ∀ x, isSemi (f x) = isSemi x) (l : List Tok) : noSemi (l.map f) = (noSemi l).map f := by
  unfold noSemi
  rw [← List.map_reverse, List.dropWhile_map, ← List.map_reverse]
  congr 2
  congr 1
  funext x
  exact hf x
theorem normL_zt (l : List Tok) : normL (l.map zt) = normL l := by
  unfold normL
  rw [noSemi_map zt semi_zt, List.map_map]
  have : (normT ∘ zt) = (zt ∘ normT) := by funext x; exact norm_zt x
  rw [this, ← List.map_map, showL_zt]
theorem of_zt (l : List Tok) : ofS (l.map zt) = ofS l := of_alike (nrms_zt l) (normL_zt l)
theorem splitL_map (f : Tok → Tok) (hf : ∀ x, isSemi (f x) = isSemi x) : ∀ (l now : List Tok) (out : List (List Tok)), splitL (l.map f) (now.map f) (out.map (List.map f)) = (splitL l now out).map (List.map f)
  | [], now, out => by
    rw [List.map_nil, splitL, splitL]
    by_cases h : now = []
    · rw [if_pos h, if_pos (by rw [h]; rfl)]
    · rw [if_neg h, if_neg (by simpa using h)]; simp
  | x :: r, now, out => by
    rw [List.map_cons, splitL, splitL, hf]
    by_cases h : isSemi x = true
    · rw [if_pos h, if_pos h]
      have ih := splitL_map f hf r [] (if now = [] then out else out ++ [now])
      rw [List.map_nil] at ih
      rw [← ih]
      congr 1
      by_cases h : now = []
      · rw [if_pos h, if_pos (by rw [h]; rfl)]
      · rw [if_neg h, if_neg (by simpa using h)]; simp
    · rw [if_neg h, if_neg h]
      have ih := splitL_map f hf r (now ++ [x]) out
      rw [← ih, List.map_append]; rfl
theorem parL_map (L : List (List Tok)) : parL (L.map (List.map zt)) = parL L := by
  match L with
  | [] => rfl
  | [x] => show (ofS (x.map zt), (0 : Int)) = (ofS x, 0); rw [of_zt]
  | _ :: _ :: _ => rfl
/-- What Parse computes, out of the tokens without places. -/
theorem parS_zt {s : ByteArray} {l : List Tok} (h : scanB s = .ok l) : parS s = parL (splitL (l.map zt) [] []) := by
  unfold parS
  rw [h]
  have := splitL_map zt semi_zt l [] []
  simp only [List.map_nil] at this
  rw [this, parL_map]
theorem splitL_lead {x : Tok} (h : isSemi x = true) (l : List Tok) : splitL (x :: l) [] [] = splitL l [] [] := by
  rw [splitL, if_pos h, if_pos rfl]
theorem splitL_tail {x : Tok} (h : isSemi x = true) : ∀ (l now : List Tok) (out : List (List Tok)), splitL (l ++ [x]) now out = splitL l now out
  | [], now, out => by
    show (if isSemi x = true then splitL [] [] (if now = [] then out else out ++ [now]) else splitL [] (now ++ [x]) out) = splitL [] now out
    rw [if_pos h]
    rfl
  | y :: r, now, out => by
    rw [List.cons_append, splitL, splitL, splitL_tail h r, splitL_tail h r]
/-- Parts have no ; and are not empty. -/
theorem splitL_parts : ∀ (l now : List Tok) (out : List (List Tok)), (∀ x ∈ now, isSemi x = false) → (∀ p ∈ out, p ≠ [] ∧ ∀ x ∈ p, isSemi x = false) → ∀ p ∈ splitL l now out, p ≠ [] ∧ ∀ x ∈ p, isSemi x = false
  | [], now, out, h1, h2, p, hp => by
    rw [splitL] at hp
    split at hp
    · exact h2 p hp
    · rename_i hn
      rw [List.mem_append, List.mem_singleton] at hp
      rcases hp with hp | rfl
      · exact h2 p hp
      · exact ⟨hn, h1⟩
  | y :: r, now, out, h1, h2, p, hp => by
    rw [splitL] at hp
    split at hp
    · refine splitL_parts r [] _ (by simp) ?_ p hp
      intro z hz
      split at hz
      · exact h2 z hz
      · rename_i hn
        rw [List.mem_append, List.mem_singleton] at hz
        rcases hz with hz | rfl
        · exact h2 z hz
        · exact ⟨hn, h1⟩
    · rename_i hs
      refine splitL_parts r (now ++ [y]) out ?_ h2 p hp
      intro x hx
      rw [List.mem_append, List.mem_singleton] at hx
      rcases hx with hx | rfl
      · exact h1 x hx
      · cases hq : isSemi x with
        | false => rfl
        | true => exact absurd hq hs
theorem splitL_mem : ∀ (l now : List Tok) (out : List (List Tok)) (P : Tok → Prop), (∀ x ∈ l, P x) → (∀ x ∈ now, P x) → (∀ p ∈ out, ∀ x ∈ p, P x) → ∀ p ∈ splitL l now out, ∀ x ∈ p, P x
  | [], now, out, P, _, h1, h2, p, hp => by
    rw [splitL] at hp
    split at hp
    · exact h2 p hp
    · rw [List.mem_append, List.mem_singleton] at hp
      rcases hp with hp | rfl
      · exact h2 p hp
      · exact h1
  | y :: r, now, out, P, h0, h1, h2, p, hp => by
    have hr : ∀ x ∈ r, P x := fun x hx => h0 x (List.mem_cons_of_mem _ hx)
    rw [splitL] at hp
    split at hp
    · refine splitL_mem r [] _ P hr (by simp) ?_ p hp
      intro z hz
      split at hz
      · exact h2 z hz
      · rw [List.mem_append, List.mem_singleton] at hz
        rcases hz with hz | rfl
        · exact h2 z hz
        · exact h1
    · refine splitL_mem r (now ++ [y]) out P hr ?_ h2 p hp
      intro x hx
      rw [List.mem_append, List.mem_singleton] at hx
      rcases hx with hx | rfl
      · exact h1 x hx
      · exact h0 x (by simp)
theorem splitL_none : ∀ (l now : List Tok) (out : List (List Tok)), (∀ x ∈ l, isSemi x = false) → splitL l now out = if now ++ l = [] then out else out ++ [now ++ l]
  | [], now, out, _ => by rw [splitL, List.append_nil]
  | y :: r, now, out, h => by
    rw [splitL, if_neg (by rw [h y (by simp)]; decide), splitL_none r (now ++ [y]) out (fun x hx => h x (List.mem_cons_of_mem _ hx))]
    simp
theorem noSemi_none (l : List Tok) (h : ∀ x ∈ l, isSemi x = false) : noSemi l = l := by
  unfold noSemi
  have : l.reverse.dropWhile isSemi = l.reverse := by
    cases hl : l.reverse with
    | nil => rfl
    | cons x r =>
      have hx : x ∈ l := by rw [← List.mem_reverse, hl]; simp
      rw [List.dropWhile_cons, if_neg (by rw [h x hx]; decide)]
  rw [this, List.reverse_reverse]

end Go.Proofs.Ytkjhfpjjcagecaa
