/- The store of two segments: an entry goes, an entry comes; what it holds, as lists. No program. -/
import Derived.Test.YtlilogcojeoelaaSlruQ
namespace Go.Proofs.Ytlilogcojeoelaa
set_option linter.all false
open Go

abbrev KV := ByteArray × Int
def view (A : List Ent) (L : List Nat) : List KV := L.map fun i => (keyA A i, sizA A i)
def sumV : List KV → Int
  | [] => 0
  | x :: r => x.2 + sumV r
theorem sumV_append (l r : List KV) : sumV (l ++ r) = sumV l + sumV r := by
  induction l with
  | nil => simp [sumV]
  | cons x l ih => simp only [List.cons_append, sumV, ih]; omega
theorem sumV_view (A : List Ent) (L : List Nat) : sumV (view A L) = sumA A L := by
  induction L with
  | nil => rfl
  | cons i r ih => simp only [view, List.map_cons, sumV, sumA] at *; rw [ih]
theorem view_same {A B : List Ent} (h : same A B) (L : List Nat) : view B L = view A L := by
  unfold view
  refine List.map_congr_left fun i _ => ?_
  rw [(same_key h i).1, (same_key h i).2]
theorem view_frame {A B : List Ent} {L : List Nat} (h : ∀ i ∈ L, B[i]? = A[i]?) : view B L = view A L := by
  unfold view keyA sizA
  refine List.map_congr_left fun i hi => ?_
  simp only [List.getD, h i hi]
theorem view_append (A : List Ent) (L1 L2 : List Nat) : view A (L1 ++ L2) = view A L1 ++ view A L2 := by simp [view]
theorem sumA_frame {A B : List Ent} {L : List Nat} (h : ∀ i ∈ L, B[i]? = A[i]?) : sumA B L = sumA A L := by
  rw [← sumV_view, ← sumV_view, view_frame h]

/-- An entry in no row is let go. -/
def delS (st : St) (i : Nat) : St := { st with P := mdel (keyA st.A i) st.P, A := st.A.set i Ent.zero, F := st.F ++ [(i : Int)] }
def removeS (st : St) (i : Nat) : St := delS (unlinkS st i) i

theorem set_other {A : List Ent} {i j : Nat} (x : Ent) (h : j ≠ i) : (A.set i x)[j]? = A[j]? := by simp [List.getElem?_set, Ne.symm h]

theorem Rep.keys {st : St} {T K X : List Nat} (h : Rep st T K X) {i j : Nat} (hi : i ∈ T ++ K ++ X) (hj : j ∈ T ++ K ++ X) (e : keyA st.A i = keyA st.A j) : i = j := by
  have h1 := (h.pl (keyA st.A i) i).2 ⟨i, hi, rfl, rfl⟩
  have h2 := (h.pl (keyA st.A i) j).2 ⟨j, hj, rfl, e.symm⟩
  rw [← mget_mem h.pn] at h1 h2
  rw [h1] at h2
  have := Option.some.inj h2
  omega

theorem rep_del {st : St} {T K X : List Nat} {i : Nat} (h : Rep st T K (i :: X)) : Rep (delS st i) T K X := by
  have hp : (T ++ K ++ i :: X).Perm (i :: (T ++ K ++ X)) := List.perm_middle
  have hnd := List.nodup_cons.1 (hp.nodup_iff.1 h.nd)
  have hfr : ∀ j ∈ T ++ K ++ X, (st.A.set i Ent.zero)[j]? = st.A[j]? := fun j hj => set_other _ (fun e => hnd.1 (e ▸ hj))
  have hfr' : ∀ j ∈ T ++ K ++ X, keyA (st.A.set i Ent.zero) j = keyA st.A j ∧ sizA (st.A.set i Ent.zero) j = sizA st.A j := fun j hj => by
    unfold keyA sizA; simp only [List.getD, hfr j hj, and_self]
  have hmem : ∀ j, j ∈ T ++ K ++ i :: X ↔ (j = i ∨ j ∈ T ++ K ++ X) := fun j => by rw [hp.mem_iff, List.mem_cons]
  obtain ⟨F, f1, f2, f3, f4⟩ := h.fr
  have hiF : i ∉ F := fun hi => f2 i hi ((hmem i).2 (.inl rfl))
  refine ⟨seg_frame h.t fun j hj => hfr j (by simp [hj]), seg_frame h.k fun j hj => hfr j (by simp [hj]), hnd.2, ⟨F ++ [i], ?_, ?_, ?_, ?_⟩, ?_, mdel_nodup _ _ h.pn, ?_, ?_, ?_, ?_, h.pa, ?_⟩
  · show st.F ++ [(i : Int)] = _
    rw [f1, List.map_append]; rfl
  · intro j hj hm
    rcases List.mem_append.1 hj with hj | hj
    · exact f2 j hj ((hmem j).2 (.inr hm))
    · simp at hj; subst hj; exact hnd.1 hm
  · rw [List.nodup_append]
    exact ⟨f3, by simp, fun a ha b hb e => by simp at hb; subst hb; subst e; exact hiF ha⟩
  · intro j
    show j < (st.A.set i Ent.zero).length ↔ _
    have e1 : j ∈ F ++ [i] ↔ (j ∈ F ∨ j = i) := by rw [List.mem_append, List.mem_singleton]
    rw [List.length_set, f4 j, hmem j, e1]
    constructor
    · rintro (h | h | h)
      · exact .inl (.inl h)
      · exact .inl (.inr h)
      · exact .inr h
    · rintro ((h | h) | h)
      · exact .inl h
      · exact .inr (.inl h)
      · exact .inr (.inr h)
  · intro a v
    show (a, v) ∈ mdel (keyA st.A i) st.P ↔ ∃ j ∈ T ++ K ++ X, v = (j : Int) ∧ keyA (st.A.set i Ent.zero) j = a
    rw [← mget_mem (mdel_nodup _ _ h.pn), mget_del _ _ _ h.pn]
    by_cases ha : keyA st.A i = a
    · rw [if_pos ha]
      constructor
      · intro e; cases e
      · rintro ⟨j, hj, rfl, hk⟩
        rw [(hfr' j hj).1] at hk
        have := h.keys ((hmem j).2 (.inr hj)) ((hmem i).2 (.inl rfl)) (hk.trans ha.symm)
        subst this
        exact absurd hj hnd.1
    · rw [if_neg ha, mget_mem h.pn, h.pl]
      constructor
      · rintro ⟨j, hj, rfl, hk⟩
        rcases (hmem j).1 hj with rfl | hj
        · exact absurd hk ha
        · exact ⟨j, hj, rfl, by rw [(hfr' j hj).1]; exact hk⟩
      · rintro ⟨j, hj, rfl, hk⟩
        rw [(hfr' j hj).1] at hk
        exact ⟨j, (hmem j).2 (.inr hj), rfl, hk⟩
  · show st.l0.bytes = sumA (st.A.set i Ent.zero) T
    rw [sumA_frame fun j hj => hfr j (by simp [hj])]; exact h.b0
  · show st.l1.bytes = sumA (st.A.set i Ent.zero) K
    rw [sumA_frame fun j hj => hfr j (by simp [hj])]; exact h.b1
  · intro j hj
    show 1 ≤ sizA (st.A.set i Ent.zero) j
    rw [(hfr' j hj).2]
    exact h.sz j ((hmem j).2 (.inr hj))
  · show sumA (st.A.set i Ent.zero) (T ++ K ++ X) ≤ st.al
    rw [sumA_frame hfr]
    have h1 := h.tot
    have h2 := h.sz i ((hmem i).2 (.inl rfl))
    simp only [sumA_append, sumA] at h1 ⊢
    omega
  · show ((st.A.set i Ent.zero).length : Int) ≤ st.al
    rw [List.length_set]; exact h.len

theorem view_del {st : St} {T K X L : List Nat} {i : Nat} (h : Rep st T K (i :: X)) (hL : ∀ j ∈ L, j ∈ T ++ K ++ X) : view (delS st i).A L = view st.A L := by
  have hp : (T ++ K ++ i :: X).Perm (i :: (T ++ K ++ X)) := List.perm_middle
  have hnd := List.nodup_cons.1 (hp.nodup_iff.1 h.nd)
  exact view_frame fun j hj => set_other _ (fun e => hnd.1 (e ▸ hL j hj))

theorem nodup_le : ∀ (l m : List Nat), l.Nodup → l ⊆ m → l.length ≤ m.length
  | [], _, _, _ => Nat.zero_le _
  | a :: r, m, hn, hs => by
    obtain ⟨m1, m2, rfl⟩ := List.append_of_mem (hs List.mem_cons_self)
    have hn' := List.nodup_cons.1 hn
    have := nodup_le r (m1 ++ m2) hn'.2 (fun x hx => by
      have h1 := hs (List.mem_cons_of_mem a hx)
      simp only [List.mem_append, List.mem_cons] at h1 ⊢
      rcases h1 with h1 | rfl | h1
      · exact .inl h1
      · exact absurd hx hn'.1
      · exact .inr h1)
    simp only [List.length_cons, List.length_append] at this ⊢
    omega

/-- A place for a new entry. -/
def slotI (st : St) : Nat := match st.F.getLast? with
  | some i => i.toNat
  | none => st.A.length
def slotS (st : St) : St := match st.F.getLast? with
  | some _ => { st with F := st.F.dropLast }
  | none => { st with A := st.A ++ [Ent.zero] }
def addS (st : St) (i : Nat) (a : ByteArray) (s : Int) : St := { st with A := st.A.set i ⟨a, s, 0, 0, 0⟩, P := mput a (i : Int) st.P }

theorem slot_facts {st : St} {T K X : List Nat} (h : Rep st T K X) (hs : sumA st.A (T ++ K ++ X) < st.al) :
    ∃ F : List Nat, (slotS st).F = F.map (fun i : Nat => (i : Int)) ∧ slotI st ∉ F ∧ slotI st ∉ T ++ K ++ X ∧ (∀ i ∈ F, i ∉ T ++ K ++ X) ∧ F.Nodup ∧ (∀ i, i < (slotS st).A.length ↔ (i = slotI st ∨ i ∈ F ∨ i ∈ T ++ K ++ X)) ∧ (∀ i ∈ T ++ K ++ X, (slotS st).A[i]? = st.A[i]?) ∧
    ((slotS st).A.length : Int) ≤ st.al ∧ (slotS st).P = st.P ∧ (slotS st).l0 = st.l0 ∧ (slotS st).l1 = st.l1 ∧ (slotS st).al = st.al ∧ (slotS st).kp = st.kp ∧ (slotS st).mo = st.mo := by
  obtain ⟨F, f1, f2, f3, f4⟩ := h.fr
  rcases List.eq_nil_or_concat F with rfl | ⟨F', i, rfl⟩
  · have hF : st.F.getLast? = none := by rw [f1]; rfl
    have e1 : slotI st = st.A.length := by unfold slotI; rw [hF]
    have e2 : slotS st = { st with A := st.A ++ [Ent.zero] } := by unfold slotS; rw [hF]
    rw [e1, e2]
    have hlen : (st.A.length : Int) ≤ sumA st.A (T ++ K ++ X) := by
      have h1 := sumA_nonneg (A := st.A) (L := T ++ K ++ X) h.sz
      have h2 : st.A.length ≤ (T ++ K ++ X).length := by
        have : List.range st.A.length ⊆ T ++ K ++ X := fun j hj => by
          rcases (f4 j).1 (List.mem_range.1 hj) with h | h
          · simp at h
          · exact h
        have := nodup_le _ _ List.nodup_range this
        simpa using this
      omega
    refine ⟨[], f1, by simp, fun hm => ?_, by simp, by simp, fun j => ?_, fun j hj => ?_, ?_, rfl, rfl, rfl, rfl, rfl, rfl⟩
    · have := (f4 st.A.length).2 (.inr hm); omega
    · simp only [List.length_append, List.length_cons, List.length_nil]
      have := f4 j
      simp only [List.not_mem_nil, false_or] at this ⊢
      rw [← this]; omega
    · exact List.getElem?_append_left ((f4 j).2 (.inr hj))
    · simp only [List.length_append, List.length_cons, List.length_nil]; omega
  · rw [List.concat_eq_append] at *
    have hF : st.F.getLast? = some (i : Int) := by rw [f1]; simp
    have e1 : slotI st = i := by unfold slotI; rw [hF]; simp
    have e2 : slotS st = { st with F := st.F.dropLast } := by unfold slotS; rw [hF]
    rw [e1, e2]
    rw [List.nodup_append] at f3
    refine ⟨F', by rw [f1]; simp, fun hm => f3.2.2 i hm i (by simp) rfl, f2 i (by simp), fun j hj => f2 j (by simp [hj]), f3.1, fun j => ?_, fun j _ => rfl, h.len, rfl, rfl, rfl, rfl, rfl, rfl⟩
    rw [show ({ st with F := st.F.dropLast } : St).A = st.A from rfl, f4 j]
    simp only [List.mem_append, List.mem_singleton]
    constructor
    · rintro ((h | h) | h)
      · exact .inr (.inl h)
      · exact .inl h
      · exact .inr (.inr h)
    · rintro (h | h | h)
      · exact .inl (.inr h)
      · exact .inl (.inl h)
      · exact .inr h

theorem rep_add {st : St} {T K : List Nat} (h : Rep st T K []) (a : ByteArray) (s : Int) (h1 : 1 ≤ s) (hs : sumA st.A (T ++ K) + s ≤ st.al) (ha : ∀ i ∈ T ++ K, keyA st.A i ≠ a) :
    Rep (addS (slotS st) (slotI st) a s) T K [slotI st] ∧ slotI st < (slotS st).A.length ∧ (∀ i ∈ T ++ K, (addS (slotS st) (slotI st) a s).A[i]? = st.A[i]?) ∧ (addS (slotS st) (slotI st) a s).A[slotI st]? = some ⟨a, s, 0, 0, 0⟩ := by
  obtain ⟨F, q1, q2, q3, q4, q5, q6, q7, q8, q9, q10, q11, q12, q13, q14⟩ := slot_facts h (by simp only [List.append_nil]; omega)
  simp only [List.append_nil] at q3 q4 q6 q7
  have hlt : slotI st < (slotS st).A.length := (q6 _).2 (.inl rfl)
  have hat : ∀ i ∈ T ++ K, ((slotS st).A.set (slotI st) ⟨a, s, 0, 0, 0⟩)[i]? = st.A[i]? := fun i hi => (set_other (i := slotI st) (j := i) _ (fun e => q3 (e ▸ hi))).trans (q7 i hi)
  have hnew : ((slotS st).A.set (slotI st) ⟨a, s, 0, 0, 0⟩)[slotI st]? = some ⟨a, s, 0, 0, 0⟩ := by simp [hlt]
  have hk : ∀ i ∈ T ++ K, keyA ((slotS st).A.set (slotI st) ⟨a, s, 0, 0, 0⟩) i = keyA st.A i ∧ sizA ((slotS st).A.set (slotI st) ⟨a, s, 0, 0, 0⟩) i = sizA st.A i := fun i hi => by
    unfold keyA sizA; simp only [List.getD, hat i hi, and_self]
  have hkn : keyA ((slotS st).A.set (slotI st) ⟨a, s, 0, 0, 0⟩) (slotI st) = a ∧ sizA ((slotS st).A.set (slotI st) ⟨a, s, 0, 0, 0⟩) (slotI st) = s := by
    unfold keyA sizA; simp only [List.getD, hnew, Option.getD_some, and_self]
  have hmem : ∀ j, j ∈ T ++ K ++ [slotI st] ↔ (j ∈ T ++ K ∨ j = slotI st) := fun j => by rw [List.mem_append, List.mem_singleton]
  have hnd0 := h.nd
  simp only [List.append_nil] at hnd0
  refine ⟨?_, hlt, hat, hnew⟩
  refine ⟨?_, ?_, ?_, ⟨F, q1, ?_, q5, ?_⟩, ?_, ?_, ?_, ?_, ?_, ?_, ?_, ?_⟩
  · show Seg _ 0 T (slotS st).l0
    rw [q10]; exact seg_frame h.t fun j hj => hat j (by simp [hj])
  · show Seg _ 1 K (slotS st).l1
    rw [q11]; exact seg_frame h.k fun j hj => hat j (by simp [hj])
  · rw [List.nodup_append]
    exact ⟨hnd0, by simp, fun x hx y hy e => by simp at hy; subst hy; subst e; exact q3 hx⟩
  · intro i hi hm
    rcases (hmem i).1 hm with hm | rfl
    · exact q4 i hi hm
    · exact q2 hi
  · intro i
    show i < ((slotS st).A.set _ _).length ↔ _
    rw [List.length_set, q6 i, hmem i]
    constructor
    · rintro (h | h | h)
      · exact .inr (.inr h)
      · exact .inl h
      · exact .inr (.inl h)
    · rintro (h | h | h)
      · exact .inr (.inl h)
      · exact .inr (.inr h)
      · exact .inl h
  · intro b v
    show (b, v) ∈ mput a ((slotI st : Nat) : Int) (slotS st).P ↔ ∃ j ∈ T ++ K ++ [slotI st], v = (j : Int) ∧ keyA ((slotS st).A.set (slotI st) ⟨a, s, 0, 0, 0⟩) j = b
    rw [q9, ← mget_mem (mput_nodup _ _ _ h.pn), mget_put]
    by_cases hb : a = b
    · subst hb
      rw [if_pos rfl]
      constructor
      · intro e; cases e; exact ⟨_, (hmem _).2 (.inr rfl), rfl, hkn.1⟩
      · rintro ⟨j, hj, rfl, hkj⟩
        rcases (hmem j).1 hj with hj | rfl
        · rw [(hk j hj).1] at hkj; exact absurd hkj (ha j hj)
        · rfl
    · rw [if_neg hb, mget_mem h.pn, h.pl]
      simp only [List.append_nil]
      constructor
      · rintro ⟨j, hj, rfl, hkj⟩; exact ⟨j, (hmem j).2 (.inl hj), rfl, by rw [(hk j hj).1]; exact hkj⟩
      · rintro ⟨j, hj, rfl, hkj⟩
        rcases (hmem j).1 hj with hj | rfl
        · exact ⟨j, hj, rfl, by rw [← (hk j hj).1]; exact hkj⟩
        · rw [hkn.1] at hkj; exact absurd hkj hb
  · show ((mput a _ (slotS st).P).map (·.1)).Nodup
    rw [q9]; exact mput_nodup _ _ _ h.pn
  · show (slotS st).l0.bytes = _
    rw [q10, h.b0]; exact (sumA_frame fun j hj => hat j (by simp [hj])).symm
  · show (slotS st).l1.bytes = _
    rw [q11, h.b1]; exact (sumA_frame fun j hj => hat j (by simp [hj])).symm
  · intro i hi
    rcases (hmem i).1 hi with hi | rfl
    · show 1 ≤ sizA _ i
      rw [show (addS (slotS st) (slotI st) a s).A = (slotS st).A.set (slotI st) ⟨a, s, 0, 0, 0⟩ from rfl, (hk i hi).2]
      exact h.sz i (by simpa using hi)
    · show 1 ≤ sizA _ (slotI st)
      rw [show (addS (slotS st) (slotI st) a s).A = (slotS st).A.set (slotI st) ⟨a, s, 0, 0, 0⟩ from rfl, hkn.2]
      exact h1
  · show sumA ((slotS st).A.set (slotI st) ⟨a, s, 0, 0, 0⟩) (T ++ K ++ [slotI st]) ≤ (slotS st).al
    rw [sumA_append, sumA_frame (L := T ++ K) hat, q12]
    simp only [sumA, hkn.2]
    omega
  · show 1 ≤ (slotS st).al ∧ (slotS st).al ≤ 1073741824 ∧ 0 ≤ (slotS st).kp ∧ (slotS st).kp ≤ (slotS st).al ∧ 1 ≤ (slotS st).mo ∧ (slotS st).mo ≤ (slotS st).al
    rw [q12, q13, q14]; exact h.pa
  · show (((slotS st).A.set _ _).length : Int) ≤ (slotS st).al
    rw [List.length_set, q12]; exact q8

end Go.Proofs.Ytlilogcojeoelaa
