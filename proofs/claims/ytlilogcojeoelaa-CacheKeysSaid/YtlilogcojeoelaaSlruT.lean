/- The store of two segments: what its calls do, as lists. No program. -/
import Derived.Test.YtlilogcojeoelaaSlruS
namespace Go.Proofs.Ytlilogcojeoelaa
set_option linter.all false
open Go

theorem unlinkS_par (st : St) (i : Nat) : (unlinkS st i).al = st.al ∧ (unlinkS st i).kp = st.kp ∧ (unlinkS st i).mo = st.mo := by
  unfold unlinkS St.setLst
  simp only []
  split <;> exact ⟨rfl, rfl, rfl⟩
theorem linkS_par (st : St) (i : Nat) (g : Int) : (linkS st i g).al = st.al ∧ (linkS st i g).kp = st.kp ∧ (linkS st i g).mo = st.mo := by
  unfold linkS St.setLst
  simp only []
  split <;> exact ⟨rfl, rfl, rfl⟩
theorem removeS_par (st : St) (i : Nat) : (removeS st i).al = st.al ∧ (removeS st i).kp = st.kp ∧ (removeS st i).mo = st.mo := unlinkS_par st i

theorem rep_remove0 {st : St} {T1 T2 K : List Nat} {i : Nat} (h : Rep st (T1 ++ i :: T2) K []) : Rep (removeS st i) (T1 ++ T2) K [] ∧ ∀ L : List Nat, (∀ j ∈ L, j ∈ T1 ++ T2 ++ K) → view (removeS st i).A L = view st.A L := by
  have h1 := rep_unlink0 h
  refine ⟨rep_del h1, fun L hL => ?_⟩
  unfold removeS
  rw [view_del h1 (fun j hj => by rw [List.append_nil]; exact hL j hj)]
  exact view_same (same_unl _ _) L
theorem rep_remove1 {st : St} {T K1 K2 : List Nat} {i : Nat} (h : Rep st T (K1 ++ i :: K2) []) : Rep (removeS st i) T (K1 ++ K2) [] ∧ ∀ L : List Nat, (∀ j ∈ L, j ∈ T ++ (K1 ++ K2)) → view (removeS st i).A L = view st.A L := by
  have h1 := rep_unlink1 h
  refine ⟨rep_del h1, fun L hL => ?_⟩
  unfold removeS
  rw [view_del h1 (fun j hj => by rw [List.append_nil]; exact hL j hj)]
  exact view_same (same_unl _ _) L

/-- Room for some bytes: who goes. -/
def roomV (al size : Int) : Nat → List KV → List KV → List KV × List KV × List ByteArray
  | 0, t, k => (t, k, [])
  | n + 1, t, k =>
    if al < sumV t + sumV k + size then
      match t.getLast? with
      | some x => let r := roomV al size n t.dropLast k; (r.1, r.2.1, x.1 :: r.2.2)
      | none => match k.getLast? with
        | some x => let r := roomV al size n t k.dropLast; (r.1, r.2.1, x.1 :: r.2.2)
        | none => (t, k, [])
    else (t, k, [])
theorem roomV_stop {al size : Int} {t k : List KV} (n : Nat) (h : ¬ al < sumV t + sumV k + size) : roomV al size n t k = (t, k, []) := by
  cases n with
  | zero => rfl
  | succ n => rw [roomV, if_neg h]
theorem roomV_t {al size : Int} {t k : List KV} {x : KV} (n : Nat) (h : al < sumV (t ++ [x]) + sumV k + size) : roomV al size (n + 1) (t ++ [x]) k = ((roomV al size n t k).1, (roomV al size n t k).2.1, x.1 :: (roomV al size n t k).2.2) := by
  rw [roomV, if_pos h]; simp
theorem roomV_k {al size : Int} {k : List KV} {x : KV} (n : Nat) (h : al < sumV [] + sumV (k ++ [x]) + size) : roomV al size (n + 1) [] (k ++ [x]) = ((roomV al size n [] k).1, (roomV al size n [] k).2.1, x.1 :: (roomV al size n [] k).2.2) := by
  rw [roomV, if_pos h]; simp

/-- What is kept too much goes back to the tried ones. -/
def backV (kp : Int) : Nat → List KV → List KV → List KV × List KV × List ByteArray
  | 0, t, k => (t, k, [])
  | n + 1, t, k =>
    if kp < sumV k then
      match k.getLast? with
      | some x => let r := backV kp n (x :: t) k.dropLast; (r.1, r.2.1, x.1 :: r.2.2)
      | none => (t, k, [])
    else (t, k, [])
theorem backV_stop {kp : Int} {t k : List KV} (n : Nat) (h : ¬ kp < sumV k) : backV kp n t k = (t, k, []) := by
  cases n with
  | zero => rfl
  | succ n => rw [backV, if_neg h]
theorem backV_k {kp : Int} {t k : List KV} {x : KV} (n : Nat) (h : kp < sumV (k ++ [x])) : backV kp (n + 1) t (k ++ [x]) = ((backV kp n (x :: t) k).1, (backV kp n (x :: t) k).2.1, x.1 :: (backV kp n (x :: t) k).2.2) := by
  rw [backV, if_pos h]; simp

def dropV (a : ByteArray) (l : List KV) : List KV := l.filter fun x => decide (x.1 ≠ a)
def hasV (a : ByteArray) (l : List KV) : Option Int := mget a l

theorem view_keys {st : St} {T K X : List Nat} (h : Rep st T K X) {i : Nat} {L1 L2 : List Nat} (hL : ∀ j ∈ L1 ++ i :: L2, j ∈ T ++ K ++ X) (hn : (L1 ++ i :: L2).Nodup) :
    dropV (keyA st.A i) (view st.A (L1 ++ i :: L2)) = view st.A (L1 ++ L2) := by
  have hne : ∀ j ∈ L1 ++ L2, keyA st.A j ≠ keyA st.A i := by
    intro j hj e
    have := h.keys (hL j (by simp at hj ⊢; rcases hj with h | h <;> simp [h])) (hL i (by simp)) e
    subst this
    have := (List.perm_middle (l₁ := L1) (l₂ := L2) (a := j)).nodup_iff.1 hn
    exact (List.nodup_cons.1 this).1 hj
  unfold dropV
  rw [view_append, view_append, List.filter_append]
  have e0 : view st.A (i :: L2) = (keyA st.A i, sizA st.A i) :: view st.A L2 := rfl
  rw [e0, List.filter_cons, if_neg (by simp)]
  congr 1
  · rw [List.filter_eq_self]
    intro x hx
    obtain ⟨j, hj, rfl⟩ := List.mem_map.1 hx
    simpa using hne j (by simp [hj])
  · rw [List.filter_eq_self]
    intro x hx
    obtain ⟨j, hj, rfl⟩ := List.mem_map.1 hx
    simpa using hne j (by simp [hj])
theorem dropV_none {A : List Ent} {L : List Nat} {a : ByteArray} (h : ∀ j ∈ L, keyA A j ≠ a) : dropV a (view A L) = view A L := by
  unfold dropV
  rw [List.filter_eq_self]
  intro x hx
  obtain ⟨j, hj, rfl⟩ := List.mem_map.1 hx
  simpa using h j hj

theorem Rep.look {st : St} {T K : List Nat} (h : Rep st T K []) (a : ByteArray) :
    (mget a st.P = none ∧ ∀ j ∈ T ++ K, keyA st.A j ≠ a) ∨ ∃ i : Nat, mget a st.P = some (i : Int) ∧ i ∈ T ++ K ∧ keyA st.A i = a := by
  cases hm : mget a st.P with
  | none =>
    left
    refine ⟨rfl, fun j hj e => ?_⟩
    have := (h.pl a j).2 ⟨j, by simpa using hj, rfl, e⟩
    rw [← mget_mem h.pn, hm] at this
    cases this
  | some v =>
    right
    rw [mget_mem h.pn, h.pl] at hm
    obtain ⟨i, hi, rfl, hk⟩ := hm
    exact ⟨i, rfl, by simpa using hi, hk⟩

end Go.Proofs.Ytlilogcojeoelaa
