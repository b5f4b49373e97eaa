/- Plain facts on lines: lists of spots. -/
import Derived.Test.YtmiekmgicfnooaaLineC
namespace Go.Proofs.Ytmiekmgicfnooaa

theorem plc_none (id : Int) (l : List Sp) (i : Nat) (h : ∀ s ∈ l, s.1 ≠ id) : plc id l i = -1 := by
  induction l generalizing i with
  | nil => rfl
  | cons s r ih => rw [plc, if_neg (h s (by simp))]; exact ih _ (fun t ht => h t (by simp [ht]))

theorem plc_at (id : Int) (l : List Sp) (i j : Nat) (hj : j < l.length) (h : l[j].1 = id) (hb : ∀ t, (ht : t < j) → l[t].1 ≠ id) : plc id l i = ((i + j : Nat) : Int) := by
  induction l generalizing i j with
  | nil => simp at hj
  | cons s r ih =>
    cases j with
    | zero => simp at h; rw [plc, if_pos h]; simp
    | succ j =>
      have h0 := hb 0 (by omega)
      simp at h0
      rw [plc, if_neg h0, ih (i + 1) j (by simpa using hj) (by simpa using h) (fun t ht => by simpa using hb (t + 1) (by omega))]
      omega

theorem plc_mem (id : Int) (l : List Sp) (i : Nat) : plc id l i = -1 ↔ ∀ s ∈ l, s.1 ≠ id := by
  constructor
  · intro h
    induction l generalizing i with
    | nil => simp
    | cons s r ih =>
      rw [plc] at h
      by_cases hs : s.1 = id
      · rw [if_pos hs] at h; omega
      · rw [if_neg hs] at h
        intro t ht
        rcases List.mem_cons.1 ht with rfl | ht
        · exact hs
        · exact ih _ h t ht
  · exact plc_none id l i

theorem plc_append_of (id : Int) (l r : List Sp) (i : Nat) (h : plc id l i ≠ -1) : plc id (l ++ r) i = plc id l i := by
  induction l generalizing i with
  | nil => simp [plc] at h
  | cons s l ih =>
    rw [List.cons_append, plc, plc]
    split
    · rfl
    · rename_i hs
      rw [plc, if_neg hs] at h
      exact ih _ h
theorem plc_append_none (id : Int) (l r : List Sp) (i : Nat) (h : plc id l i = -1) : plc id (l ++ r) i = plc id r (i + l.length) := by
  induction l generalizing i with
  | nil => simp
  | cons s l ih =>
    rw [List.cons_append, plc]
    rw [plc] at h
    by_cases hs : s.1 = id
    · rw [if_pos hs] at h; omega
    · rw [if_neg hs] at h ⊢
      rw [ih _ h]
      congr 1
      simp; omega

/-- Those who came one behind the other, each with a deadline. -/
def seqF (f : Nat → Int) (m : Nat) : List Sp := (List.range m).map (fun j : Nat => ((j : Int), f j))
theorem seqF_len (f : Nat → Int) (m : Nat) : (seqF f m).length = m := by simp [seqF]
theorem seqF_get (f : Nat → Int) (m j : Nat) (h : j < (seqF f m).length) : (seqF f m)[j] = ((j : Int), f j) := by simp [seqF]
theorem seqF_succ (f : Nat → Int) (m : Nat) : seqF f (m + 1) = seqF f m ++ [((m : Int), f m)] := by simp [seqF, List.range_succ]
theorem seqF_plc (f : Nat → Int) (m j : Nat) (h : j < m) : plc j (seqF f m) 0 = j := by
  rw [plc_at j (seqF f m) 0 j (by rw [seqF_len]; exact h) (by rw [seqF_get]) (fun t ht => by rw [seqF_get]; simp; omega)]
  simp
theorem seqF_not (f : Nat → Int) (m : Nat) : plc m (seqF f m) 0 = -1 := by
  refine plc_none _ _ _ fun s hs => ?_
  simp only [seqF, List.mem_map, List.mem_range] at hs
  obtain ⟨j, hj, rfl⟩ := hs
  simp; omega
theorem seqF_join (f : Nat → Int) (m : Nat) (most : Int) (h : (m : Int) < most) (h0 : 0 ≤ f m) (h1 : f m ≤ 1099511627776) : joinE (seqF f m) most m (f m) = 0 ∧ joinL (seqF f m) most m (f m) = seqF f (m + 1) := by
  have e : joinE (seqF f m) most m (f m) = 0 := by
    rw [joinE, if_neg (by omega), if_neg (by rw [seqF_not]; simp), if_neg (by rw [seqF_len]; omega)]
  exact ⟨e, by rw [joinL, if_pos e, seqF_succ]⟩

/-- One has left. -/
theorem seqF_left (f : Nat → Int) (m w : Nat) (h : w < m) : leaveL w (seqF f m) = (seqF f m).take w ++ (seqF f m).drop (w + 1) := by
  rw [leaveL, if_neg (by rw [seqF_plc _ _ _ h]; omega), seqF_plc _ _ _ h]
  rfl
theorem left_len (f : Nat → Int) (m w : Nat) (h : w < m) : ((seqF f m).take w ++ (seqF f m).drop (w + 1)).length = m - 1 := by
  rw [take_drop_len _ _ (by rw [seqF_len]; exact h), seqF_len]
theorem left_get (f : Nat → Int) (m w j : Nat) (h : w < m) (hj : j < ((seqF f m).take w ++ (seqF f m).drop (w + 1)).length) : (((seqF f m).take w ++ (seqF f m).drop (w + 1))[j]).1 = if j < w then (j : Int) else j + 1 := by
  rw [left_len _ _ _ h] at hj
  by_cases hw : j < w
  · rw [List.getElem_append_left (by rw [List.length_take, seqF_len]; omega), List.getElem_take, seqF_get, if_pos hw]
  · have hl : ((seqF f m).take w).length = w := by rw [List.length_take, seqF_len]; omega
    rw [List.getElem_append_right (by omega), List.getElem_drop, seqF_get, if_neg hw]
    simp only [hl]
    omega
theorem left_plc (f : Nat → Int) (m w i : Nat) (h : w < m) (hi : i < m) : plc i ((seqF f m).take w ++ (seqF f m).drop (w + 1)) 0 = if i = w then -1 else if w < i then (i : Int) - 1 else i := by
  by_cases hiw : i = w
  · subst hiw
    rw [if_pos rfl]
    refine plc_none _ _ _ fun s hs => ?_
    obtain ⟨j, hj, rfl⟩ := List.getElem_of_mem hs
    rw [left_get _ _ _ _ h]
    split <;> omega
  · rw [if_neg hiw]
    by_cases hw : w < i
    · rw [if_pos hw, plc_at i _ 0 (i - 1) (by rw [left_len _ _ _ h]; omega) (by rw [left_get _ _ _ _ h, if_neg (by omega)]; omega) (fun t ht => by rw [left_get _ _ _ _ h]; split <;> omega)]
      omega
    · rw [if_neg hw, plc_at i _ 0 i (by rw [left_len _ _ _ h]; omega) (by rw [left_get _ _ _ _ h, if_pos (by omega)]) (fun t ht => by rw [left_get _ _ _ _ h]; split <;> omega)]
      simp

/-- Who stays, and who is late, of those who came one behind the other. -/
def stayN (f : Nat → Int) (now : Int) (m : Nat) : List Int := ((List.range m).filter (fun t => decide (now < f t))).map (fun t : Nat => (t : Int))
def lateN (f : Nat → Int) (now : Int) (m : Nat) : List Int := ((List.range m).filter (fun t => decide (f t ≤ now))).map (fun t : Nat => (t : Int))
theorem stayN_succ (f : Nat → Int) (now : Int) (m : Nat) : stayN f now (m + 1) = if now < f m then stayN f now m ++ [(m : Int)] else stayN f now m := by
  simp only [stayN, List.range_succ, List.filter_append, List.map_append, List.filter_cons, List.filter_nil]
  split <;> simp_all
theorem lateN_succ (f : Nat → Int) (now : Int) (m : Nat) : lateN f now (m + 1) = if f m ≤ now then lateN f now m ++ [(m : Int)] else lateN f now m := by
  simp only [lateN, List.range_succ, List.filter_append, List.map_append, List.filter_cons, List.filter_nil]
  split <;> simp_all
theorem lateF_seq (f : Nat → Int) (now : Int) (m : Nat) : lateF now (seqF f m) = lateN f now m := by
  simp [lateF, seqF, lateN, List.filter_map]; rfl
theorem stayF_seq (f : Nat → Int) (now : Int) (m : Nat) : (stayF now (seqF f m)).map (·.1) = stayN f now m := by
  simp [stayF, seqF, stayN, List.filter_map]; rfl
theorem stayN_len (f : Nat → Int) (now : Int) (m : Nat) : (stayN f now m).length ≤ m := by
  simp only [stayN, List.length_map]; exact Nat.le_trans (List.length_filter_le _ _) (by simp)
theorem lateN_len (f : Nat → Int) (now : Int) (m : Nat) : (lateN f now m).length ≤ m := by
  simp only [lateN, List.length_map]; exact Nat.le_trans (List.length_filter_le _ _) (by simp)

/-- Leaving, one behind the other. -/
def leaveR (id : Int) : List Sp → List Sp
  | [] => []
  | s :: r => if s.1 = id then r else s :: leaveR id r
theorem leaveR_none (id : Int) (l : List Sp) (i : Nat) (h : plc id l i = -1) : leaveR id l = l := by
  induction l generalizing i with
  | nil => rfl
  | cons s r ih =>
    rw [plc] at h
    by_cases hs : s.1 = id
    · rw [if_pos hs] at h; omega
    · rw [if_neg hs] at h
      rw [leaveR, if_neg hs, ih _ h]
theorem leaveR_some (id : Int) (l : List Sp) (i : Nat) (h : plc id l i ≠ -1) : leaveR id l = l.take (plc id l i - i).toNat ++ l.drop ((plc id l i - i).toNat + 1) := by
  induction l generalizing i with
  | nil => simp [plc] at h
  | cons s r ih =>
    by_cases hs : s.1 = id
    · have e : plc id (s :: r) i = i := by rw [plc, if_pos hs]
      rw [e, leaveR, if_pos hs]
      simp
    · have e : plc id (s :: r) i = plc id r (i + 1) := by rw [plc, if_neg hs]
      rw [e] at h ⊢
      rw [leaveR, if_neg hs, ih _ h]
      have h2 : (i : Int) + 1 ≤ plc id r (i + 1) := by rcases plc_range id r (i + 1) with h' | h' <;> omega
      obtain ⟨m, hm⟩ : ∃ m : Nat, plc id r (i + 1) = i + 1 + m := ⟨(plc id r (i + 1) - (i + 1)).toNat, by omega⟩
      rw [hm]
      rw [show ((i : Int) + 1 + m - ((i + 1 : Nat) : Int)).toNat = m by omega, show ((i : Int) + 1 + m - (i : Int)).toNat = m + 1 by omega]
      simp
theorem leaveL_eq (id : Int) (l : List Sp) : leaveL id l = leaveR id l := by
  rw [leaveL]
  by_cases h : plc id l 0 = -1
  · rw [if_pos h, leaveR_none id l 0 h]
  · rw [if_neg h, leaveR_some id l 0 h]
    simp
/-- No two of one number. -/
def nod (l : List Sp) : Prop := (l.map (·.1)).Nodup
theorem leaveR_filter (id : Int) (l : List Sp) (h : nod l) : leaveR id l = l.filter (fun s => decide (s.1 ≠ id)) := by
  induction l with
  | nil => rfl
  | cons s r ih =>
    simp only [nod, List.map_cons, List.nodup_cons] at h
    by_cases hs : s.1 = id
    · rw [leaveR, if_pos hs, List.filter_cons, if_neg (by simpa using hs)]
      symm
      rw [List.filter_eq_self]
      intro t ht
      have : t.1 ≠ s.1 := fun e => h.1 (e ▸ List.mem_map_of_mem ht)
      simp only [decide_eq_true_eq]
      intro e
      exact this (e.trans hs.symm)
    · rw [leaveR, if_neg hs, List.filter_cons, if_pos (by simpa using hs), ih h.2]
theorem nod_filter (p : Sp → Bool) (l : List Sp) (h : nod l) : nod (l.filter p) := by
  unfold nod at *
  exact List.Nodup.sublist (List.Sublist.map _ List.filter_sublist) h
theorem nod_snoc (l : List Sp) (s : Sp) (h : nod l) (hs : plc s.1 l 0 = -1) : nod (l ++ [s]) := by
  unfold nod at *
  rw [List.map_append, List.nodup_append]
  refine ⟨h, by simp, ?_⟩
  intro a ha b hb
  obtain ⟨t, ht, rfl⟩ := List.mem_map.1 ha
  simp at hb
  subst hb
  exact (plc_mem _ _ _).1 hs t ht
theorem nod_join (l : List Sp) (most id til : Int) (h : nod l) : nod (joinL l most id til) := by
  rw [joinL]
  split
  · rename_i he
    refine nod_snoc l (id, til) h ?_
    rw [joinE] at he
    by_cases hp : plc id l 0 = -1
    · exact hp
    · rw [if_pos hp] at he
      split at he <;> omega
  · exact h
theorem nod_leave (l : List Sp) (id : Int) (h : nod l) : nod (leaveL id l) := by
  rw [leaveL_eq, leaveR_filter _ _ h]; exact nod_filter _ _ h
theorem leave_plc (l : List Sp) (id : Int) (h : nod l) : plc id (leaveL id l) 0 = -1 := by
  rw [leaveL_eq, leaveR_filter _ _ h]
  refine plc_none _ _ _ fun s hs => ?_
  simpa using (List.mem_filter.1 hs).2
theorem leave_len (l : List Sp) (id : Int) (h : plc id l 0 ≠ -1) : (leaveL id l).length = l.length - 1 := by
  rw [leaveL, if_neg h]
  refine take_drop_len _ _ ?_
  rcases plc_range id l 0 with h' | h' <;> omega
theorem snoc_plc (l : List Sp) (s : Sp) (h : plc s.1 l 0 = -1) : plc s.1 (l ++ [s]) 0 = l.length := by
  rw [plc_append_none _ _ _ _ h]; simp [plc]
theorem join_len (l : List Sp) (most id til : Int) (h : (l.length : Int) ≤ most) : ((joinL l most id til).length : Int) ≤ most := by
  rw [joinL]
  split
  · rename_i he
    rw [joinE] at he
    by_cases h1 : til < 0 ∨ 1099511627776 < til
    · rw [if_pos h1] at he; omega
    · rw [if_neg h1] at he
      by_cases h2 : plc id l 0 ≠ -1
      · rw [if_pos h2] at he; omega
      · rw [if_neg h2] at he
        by_cases h3 : most ≤ l.length
        · rw [if_pos h3] at he; omega
        · simp; omega
  · exact h
end Go.Proofs.Ytmiekmgicfnooaa
