/- Plain: what a command does to a right state: it stays right. -/
import Derived.Test.YtoeepbjnbgpmpaaSH
namespace Go.Proofs.Ytoeepbjnbgpmpaa
set_option linter.all false
open Go Go.RowKit

theorem tw_mem {α : Type} (p : α → Bool) : ∀ (l : List α) (y : α), y ∈ l.takeWhile p → p y = true
  | [], y, h => by cases h
  | x :: r, y, h => by
    rw [List.takeWhile_cons] at h
    by_cases hx : p x = true
    · rw [if_pos hx] at h
      rcases List.mem_cons.1 h with rfl | h
      · exact hx
      · exact tw_mem p r y h
    · rw [if_neg hx] at h; cases h
theorem putR_rise (l : List Rw2) (kk vv : Int) (h : RiseR l) : RiseR (putR l (kk, vv)) ∧ ∀ y ∈ putR l (kk, vv), y = (kk, vv) ∨ y ∈ l := by
  unfold putR RiseR
  simp only
  have hsp : l.takeWhile (fun y => decide (y.1 < kk)) ++ l.dropWhile (fun y => decide (y.1 < kk)) = l := List.takeWhile_append_dropWhile
  have hlt : ∀ y ∈ l.takeWhile (fun y => decide (y.1 < kk)), y.1 < kk := fun y hy => of_decide_eq_true (tw_mem (fun y : Rw2 => decide (y.1 < kk)) l y hy)
  have h' := h
  unfold RiseR at h'
  rw [← hsp, List.pairwise_append] at h'
  obtain ⟨h1, h2, h3⟩ := h'
  have hcut : (cutR kk (l.dropWhile fun y => decide (y.1 < kk))).Pairwise (fun a b => a.1 < b.1) ∧ (∀ y ∈ cutR kk (l.dropWhile fun y => decide (y.1 < kk)), kk < y.1 ∧ y ∈ l.dropWhile fun y => decide (y.1 < kk)) := by
    cases hd : l.dropWhile (fun y => decide (y.1 < kk)) with
    | nil => exact ⟨List.Pairwise.nil, by intro y hy; cases hy⟩
    | cons z r =>
      rw [hd] at h2
      have hz : ¬ z.1 < kk := by
        have := List.head?_dropWhile_not (fun y : Rw2 => decide (y.1 < kk)) l
        rw [hd] at this
        simpa using this
      obtain ⟨h4, h5⟩ := List.pairwise_cons.1 h2
      rw [cutR]
      by_cases e : z.1 = kk
      · rw [if_pos e]
        exact ⟨h5, fun y hy => ⟨by have := h4 y hy; omega, List.mem_cons_of_mem _ hy⟩⟩
      · rw [if_neg e]
        refine ⟨h2, fun y hy => ⟨?_, hy⟩⟩
        rcases List.mem_cons.1 hy with rfl | hy
        · omega
        · have := h4 y hy; omega
  refine ⟨?_, ?_⟩
  · rw [List.pairwise_append]
    refine ⟨h1, List.pairwise_cons.2 ⟨fun y hy => (hcut.2 y hy).1, hcut.1⟩, fun a ha b hb => ?_⟩
    rcases List.mem_cons.1 hb with rfl | hb
    · exact hlt a ha
    · have := hlt a ha
      have := (hcut.2 b hb).1
      omega
  · intro y hy
    rw [List.mem_append, List.mem_cons] at hy
    rcases hy with hy | rfl | hy
    · exact .inr ((List.takeWhile_sublist _).subset hy)
    · exact .inl rfl
    · exact .inr ((List.dropWhile_sublist _).subset (hcut.2 y hy).2)
theorem putR_length (l : List Rw2) (kk vv : Int) (h : RiseR l) : (putR l (kk, vv)).length = if hadR kk l = [] then l.length + 1 else l.length := by
  obtain ⟨i1, i2⟩ := had_place kk l h
  cases hb : placeB l kk with
  | true =>
    obtain ⟨hn, e1, _⟩ := i2 hb
    obtain ⟨_, e3⟩ := putR_had l kk vv hb
    rw [e3, List.length_set, e1, if_neg (by simp)]
  | false =>
    rw [putR_new l kk vv hb, if_pos (i1 hb), List.length_append, List.length_cons, List.length_take, List.length_drop]
    have := placeN_le l kk
    omega
/-- The rows of a right table stay right. -/
theorem change_right (x : CmdM) (l : List Rw2) (h : RowsP l) (h64 : l.length ≤ 64) (hk : 0 ≤ x.kk ∧ x.kk ≤ 999999) (hv : 0 ≤ x.vv ∧ x.vv ≤ 999999) : RowsP (changeR x l).1 ∧ (changeR x l).1.length ≤ 64 := by
  unfold changeR
  by_cases k2 : x.kind = 2
  · rw [if_pos k2]
    by_cases hf : hadR x.kk l = [] ∧ 64 ≤ l.length
    · rw [if_pos hf]; exact ⟨h, h64⟩
    · rw [if_neg hf]
      obtain ⟨p1, p2⟩ := putR_rise l x.kk x.vv h.1
      refine ⟨⟨p1, fun y hy => ?_⟩, ?_⟩
      · rcases p2 y hy with rfl | hy
        · exact ⟨hk, hv⟩
        · exact h.2 y hy
      · simp only
        rw [putR_length l x.kk x.vv h.1]
        split
        · rename_i e
          have : ¬ 64 ≤ l.length := fun q => hf ⟨e, q⟩
          omega
        · exact h64
  · rw [if_neg k2]
    by_cases k3 : x.kind = 3
    · rw [if_pos k3]
      cases hh : hadR x.kk l with
      | nil => exact ⟨h, h64⟩
      | cons y r =>
        simp only
        have hy : y ∈ l := by
          have : y ∈ hadR x.kk l := by rw [hh]; simp
          exact (List.mem_filter.1 this).1
        have hyin := h.2 y hy
        by_cases hb : 999999 ≤ y.2
        · rw [if_pos hb]; exact ⟨h, h64⟩
        · rw [if_neg hb]
          obtain ⟨p1, p2⟩ := putR_rise l x.kk (y.2 + 1) h.1
          refine ⟨⟨p1, fun z hz => ?_⟩, ?_⟩
          · rcases p2 z hz with rfl | hz
            · exact ⟨hk, by have := hyin.2; omega⟩
            · exact h.2 z hz
          · simp only
            rw [putR_length l x.kk (y.2 + 1) h.1, hh, if_neg (by simp)]
            exact h64
    · rw [if_neg k3]
      exact ⟨⟨List.Pairwise.sublist List.filter_sublist h.1, fun y hy => h.2 y (List.mem_filter.1 hy).1⟩, Nat.le_trans (List.length_filter_le _ _) h64⟩
theorem fndT_none : ∀ (S : List Tb) (s : ByteArray), fndT S s = none → ∀ t ∈ S, t.1 ≠ s
  | [], _, _, t, ht => by cases ht
  | x :: r, s, h, t, ht => by
    rw [fndT] at h
    by_cases e : x.1 = s
    · rw [if_pos e] at h; cases h
    · rw [if_neg e] at h
      rcases List.mem_cons.1 ht with rfl | ht
      · exact e
      · exact fndT_none r s (by simpa using h) t ht
theorem made_right (S : List Tb) (s : ByteArray) (h : RightP S) (hs : 1 ≤ s.size ∧ s.size ≤ 30) (hn : fndT S s = none) (hl : S.length < 16) : RightP (madeP S s) := by
  have hne := fndT_none S s hn
  unfold madeP
  have hsp : S.takeWhile (fun x => ltB x.1 s) ++ S.dropWhile (fun x => ltB x.1 s) = S := List.takeWhile_append_dropWhile
  have hlt : ∀ t ∈ S.takeWhile (fun x => ltB x.1 s), ltB t.1 s = true := fun t ht => tw_mem (fun x : Tb => ltB x.1 s) S t ht
  have hP := h.2.1
  rw [← hsp, List.pairwise_append] at hP
  obtain ⟨h1, h2, h3⟩ := hP
  have hgt : ∀ t ∈ S.dropWhile (fun x => ltB x.1 s), ltB s t.1 = true := by
    cases hd : S.dropWhile (fun x => ltB x.1 s) with
    | nil => intro t ht; cases ht
    | cons z r =>
      rw [hd] at h2
      have hz : ltB z.1 s = false := by
        have := List.head?_dropWhile_not (fun x : Tb => ltB x.1 s) S
        rw [hd] at this
        simpa using this
      have hzm : z ∈ S := by
        have : z ∈ S.dropWhile (fun x => ltB x.1 s) := by rw [hd]; simp
        exact (List.dropWhile_sublist _).subset this
      have hsz : ltB s z.1 = true := by
        rcases lt_total (hne z hzm) with q | q
        · rw [q] at hz; cases hz
        · exact q
      intro t ht
      rcases List.mem_cons.1 ht with rfl | ht
      · exact hsz
      · exact lt_trans hsz ((List.pairwise_cons.1 h2).1 t ht)
  refine ⟨?_, ?_, ?_⟩
  · have hh : (S.takeWhile (fun x => ltB x.1 s) ++ (s, []) :: S.dropWhile (fun x => ltB x.1 s)).length = S.length + 1 := by
      rw [List.length_append, List.length_cons, ← Nat.add_assoc, ← List.length_append, hsp]
    rw [hh]; omega
  · rw [List.pairwise_append]
    refine ⟨h1, List.pairwise_cons.2 ⟨hgt, h2⟩, fun a ha b hb => ?_⟩
    rcases List.mem_cons.1 hb with rfl | hb
    · exact hlt a ha
    · exact h3 a ha b hb
  · intro t ht
    rw [List.mem_append, List.mem_cons] at ht
    rcases ht with ht | rfl | ht
    · exact h.2.2 t ((List.takeWhile_sublist _).subset ht)
    · exact ⟨hs, by simp, List.Pairwise.nil, by simp⟩
    · exact h.2.2 t ((List.dropWhile_sublist _).subset ht)
theorem set_right (S : List Tb) (i : Nat) (hi : i < S.length) (l : List Rw2) (h : RightP S) (hl : RowsP l ∧ l.length ≤ 64) : RightP (S.set i (S[i].1, l)) := by
  have hmap : (S.set i (S[i].1, l)).map Prod.fst = S.map Prod.fst := by
    rw [List.map_set]
    refine List.ext_getElem? fun j => ?_
    rw [List.getElem?_set]
    split
    · rename_i e
      subst e
      simp [hi]
    · rfl
  refine ⟨by rw [List.length_set]; exact h.1, ?_, ?_⟩
  · have h1 : (S.map Prod.fst).Pairwise (fun a b => ltB a b = true) := List.pairwise_map.2 h.2.1
    rw [← hmap] at h1
    show List.Pairwise (fun a b : Tb => ltB a.1 b.1 = true) _
    exact List.pairwise_map.1 h1
  · intro t ht
    rcases List.mem_or_eq_of_mem_set ht with ht | rfl
    · exact h.2.2 t ht
    · exact ⟨(h.2.2 _ (List.getElem_mem hi)).1, hl.2, hl.1⟩
/-- A right state stays right. -/
theorem do_right (x : CmdM) (S : List Tb) (h : RightP S) (hk : 0 ≤ x.kk ∧ x.kk ≤ 999999) (hv : 0 ≤ x.vv ∧ x.vv ≤ 999999) (ht : 1 ≤ x.tb.size ∧ x.tb.size ≤ 30) : RightP (doT x S).1 := by
  unfold doT
  by_cases k5 : x.kind = 5
  · rw [if_pos k5]
    cases hf : fndT S x.tb with
    | some i => simp only [Option.isSome_some, if_true]; exact h
    | none =>
      simp only [Option.isSome_none, Bool.false_eq_true, if_false]
      by_cases h16 : 16 ≤ S.length
      · rw [if_pos h16]; exact h
      · rw [if_neg h16]; exact made_right S x.tb h ht hf (by omega)
  · rw [if_neg k5]
    cases hf : fndT S x.tb with
    | none => exact h
    | some i =>
      simp only
      obtain ⟨hi, _⟩ := fndT_lt S x.tb i hf
      rw [List.getElem?_eq_getElem hi]
      simp only
      by_cases k1 : x.kind = 1
      · rw [if_pos k1]; exact h
      · rw [if_neg k1]
        obtain ⟨_, t2, t3⟩ := h.2.2 _ (List.getElem_mem hi)
        exact set_right S i hi _ h (change_right x _ t3 t2 hk hv)

end Go.Proofs.Ytoeepbjnbgpmpaa
