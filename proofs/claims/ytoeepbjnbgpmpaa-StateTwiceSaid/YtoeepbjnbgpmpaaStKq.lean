/- Plain: a command done twice. -/
import Derived.Test.YtoeepbjnbgpmpaaStKp
namespace Go.Proofs.Ytoeepbjnbgpmpaa
set_option linter.all false
open Go Go.RowKit

theorem fndT_names : ∀ (S T : List Tb) (s : ByteArray), S.map Prod.fst = T.map Prod.fst → fndT S s = fndT T s
  | [], [], _, _ => rfl
  | [], _ :: _, _, h => by cases h
  | _ :: _, [], _, h => by cases h
  | x :: r, y :: t, s, h => by
    rw [List.map_cons, List.map_cons, List.cons.injEq] at h
    rw [fndT, fndT, h.1, fndT_names r t s h.2]
theorem set_names (S : List Tb) (i : Nat) (hi : i < S.length) (l : List Rw2) : (S.set i (S[i].1, l)).map Prod.fst = S.map Prod.fst := by
  rw [List.map_set]
  refine List.ext_getElem? fun j => ?_
  rw [List.getElem?_set]
  split
  · rename_i e
    subst e
    simp [hi]
  · rfl
theorem fndT_is : ∀ (S : List Tb) (s : ByteArray), (∃ t ∈ S, t.1 = s) → ∃ i, fndT S s = some i
  | [], _, ⟨_, h, _⟩ => by cases h
  | x :: r, s, ⟨t, ht, hs⟩ => by
    rw [fndT]
    by_cases e : x.1 = s
    · exact ⟨0, if_pos e⟩
    · rw [if_neg e]
      rcases List.mem_cons.1 ht with rfl | ht
      · exact absurd hs e
      · obtain ⟨i, hi⟩ := fndT_is r s ⟨t, ht, hs⟩
        exact ⟨i + 1, by rw [hi]; rfl⟩
theorem putR_twice (l : List Rw2) (kk vv : Int) : putR (putR l (kk, vv)) (kk, vv) = putR l (kk, vv) ∧ hadR kk (putR l (kk, vv)) ≠ [] := by
  constructor
  · have h1 : putR l (kk, vv) = l.takeWhile (fun y => decide (y.1 < kk)) ++ (kk, vv) :: cutR kk (l.dropWhile fun y => decide (y.1 < kk)) := rfl
    rw [h1]
    rw [putR_at (x := (kk, vv)) (fun y hy => of_decide_eq_true (tw_mem (fun y : Rw2 => decide (y.1 < kk)) l y hy)) (.inr ⟨(kk, vv), _, rfl, by simp⟩)]
    simp [cutR]
  · intro h
    have : (kk, vv) ∈ hadR kk (putR l (kk, vv)) := by
      unfold hadR
      rw [List.mem_filter]
      refine ⟨by unfold putR; simp, by unfold meansB; simp⟩
    rw [h] at this
    cases this
/-- What is done to rows twice, where the first time went well, and it was no Add. -/
theorem change_twice (x : CmdM) (l : List Rw2) (k3 : x.kind ≠ 3) (h0 : (changeR x l).2 = 0) : changeR x (changeR x l).1 = ((changeR x l).1, 0) := by
  unfold changeR at h0 ⊢
  by_cases k2 : x.kind = 2
  · simp only [if_pos k2] at h0 ⊢
    by_cases hf : hadR x.kk l = [] ∧ 64 ≤ l.length
    · rw [if_pos hf] at h0; cases h0
    · simp only [if_neg hf]
      obtain ⟨p1, p2⟩ := putR_twice l x.kk x.vv
      rw [if_neg (fun q => p2 q.1), p1]
  · simp only [if_neg k2, if_neg k3]
    rw [List.filter_filter]
    simp
theorem change_err (x : CmdM) (l : List Rw2) (h0 : (changeR x l).2 ≠ 0) : (changeR x l).1 = l := by
  unfold changeR at h0 ⊢
  by_cases k2 : x.kind = 2
  · simp only [if_pos k2] at h0 ⊢
    by_cases hf : hadR x.kk l = [] ∧ 64 ≤ l.length
    · rw [if_pos hf]
    · rw [if_neg hf] at h0; exact absurd rfl h0
  · simp only [if_neg k2] at h0 ⊢
    by_cases k3 : x.kind = 3
    · simp only [if_pos k3] at h0 ⊢
      cases hh : hadR x.kk l with
      | nil => rfl
      | cons y r =>
        rw [hh] at h0
        simp only at h0 ⊢
        by_cases hb : 999999 ≤ y.2
        · rw [if_pos hb]
        · rw [if_neg hb] at h0; exact absurd rfl h0
    · rw [if_neg k3] at h0; exact absurd rfl h0
/-- Where something is wrong nothing is done. -/
theorem do_err (x : CmdM) (S : List Tb) (h : (doT x S).2.2 ≠ 0) : (doT x S).1 = S := by
  unfold doT at h ⊢
  by_cases k5 : x.kind = 5
  · simp only [if_pos k5] at h ⊢
    split at h
    · rename_i q; rw [if_pos q]
    · rename_i q
      rw [if_neg q]
      split at h
      · rename_i r; rw [if_pos r]
      · exact absurd rfl h
  · simp only [if_neg k5] at h ⊢
    cases hf : fndT S x.tb with
    | none => rfl
    | some i =>
      rw [hf] at h
      simp only at h ⊢
      obtain ⟨hi, _⟩ := fndT_lt S x.tb i hf
      rw [List.getElem?_eq_getElem hi] at h ⊢
      simp only at h ⊢
      by_cases k1 : x.kind = 1
      · rw [if_pos k1]
      · rw [if_neg k1] at h ⊢
        simp only at h ⊢
        rw [change_err x _ h]
        have : (S[i].1, S[i].2) = S[i] := rfl
        rw [this, List.set_getElem_self]
/-- Done again, it is done. -/
theorem do_twice (x : CmdM) (S : List Tb) (k3 : x.kind ≠ 3) (k5 : x.kind ≠ 5) (h : (doT x S).2.2 = 0) : (doT x (doT x S).1).1 = (doT x S).1 ∧ (doT x (doT x S).1).2.2 = 0 := by
  have hd : ∀ T, doT x T = match fndT T x.tb with
    | none => (T, [], 8)
    | some i => match T[i]? with
      | none => (T, [], 8)
      | some t => if x.kind = 1 then (T, t.2.filter (meansB x.kd x.kk), 0) else (T.set i (t.1, (changeR x t.2).1), [], (changeR x t.2).2) := by
    intro T; unfold doT; rw [if_neg k5]; rfl
  cases hf : fndT S x.tb with
  | none =>
    rw [hd S, hf] at h
    cases h
  | some i =>
    obtain ⟨hi, _⟩ := fndT_lt S x.tb i hf
    have h1 : doT x S = if x.kind = 1 then (S, S[i].2.filter (meansB x.kd x.kk), 0) else (S.set i (S[i].1, (changeR x S[i].2).1), [], (changeR x S[i].2).2) := by
      rw [hd S, hf]
      simp only
      rw [List.getElem?_eq_getElem hi]
    by_cases k1 : x.kind = 1
    · rw [if_pos k1] at h1
      rw [h1]
      simp only
      rw [h1]
      exact ⟨rfl, rfl⟩
    · rw [if_neg k1] at h1
      rw [h1] at h ⊢
      simp only at h ⊢
      have hf2 : fndT (S.set i (S[i].1, (changeR x S[i].2).1)) x.tb = some i := by
        rw [fndT_names _ S x.tb (set_names S i hi _)]; exact hf
      have hc := change_twice x S[i].2 k3 h
      rw [hd, hf2]
      simp only
      rw [List.getElem?_set_self hi]
      simp only
      rw [if_neg k1, hc]
      simp only
      rw [List.set_set]
      exact ⟨rfl, trivial⟩
/-- A table that is made is there, and empty. -/
theorem do_made (x : CmdM) (S : List Tb) (k5 : x.kind = 5) (h : (doT x S).2.2 = 0) : doT x (doT x S).1 = ((doT x S).1, [], 9) ∧ doT ⟨1, x.tb, 0, 0, false⟩ (doT x S).1 = ((doT x S).1, [], 0) := by
  have hn : fndT S x.tb = none ∧ (doT x S).1 = madeP S x.tb := by
    unfold doT at h ⊢
    simp only [if_pos k5] at h ⊢
    cases hf : fndT S x.tb with
    | some i => rw [hf] at h; simp at h
    | none =>
      rw [hf] at h
      simp only [Option.isSome_none, Bool.false_eq_true, if_false] at h ⊢
      by_cases h16 : 16 ≤ S.length
      · rw [if_pos h16] at h; cases h
      · rw [if_neg h16]; exact ⟨trivial, rfl⟩
  rw [hn.2]
  have hmem : ∀ t ∈ madeP S x.tb, t.1 = x.tb → t = (x.tb, []) := by
    intro t ht he
    unfold madeP at ht
    rw [List.mem_append, List.mem_cons] at ht
    have hno := fndT_none S x.tb hn.1
    rcases ht with ht | rfl | ht
    · exact absurd he (hno t ((List.takeWhile_sublist _).subset ht))
    · rfl
    · exact absurd he (hno t ((List.dropWhile_sublist _).subset ht))
  obtain ⟨j, hj⟩ := fndT_is (madeP S x.tb) x.tb ⟨(x.tb, []), by unfold madeP; simp, rfl⟩
  obtain ⟨hjl, hjn⟩ := fndT_lt _ _ _ hj
  have hje := hmem _ (List.getElem_mem hjl) hjn
  constructor
  · unfold doT
    rw [if_pos k5, hj]; rfl
  · unfold doT
    simp only
    rw [if_neg (by decide), hj]
    simp only
    rw [List.getElem?_eq_getElem hjl, hje]
    rfl

end Go.Proofs.Ytoeepbjnbgpmpaa
