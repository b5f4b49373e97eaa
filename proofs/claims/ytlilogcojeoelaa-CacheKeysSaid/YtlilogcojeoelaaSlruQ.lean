/- The store of two segments: its invariant, and how each move keeps it. No program. -/
import Derived.Test.YtlilogcojeoelaaSlruP
namespace Go.Proofs.Ytlilogcojeoelaa
set_option linter.all false
open Go

def keyA (A : List Ent) (i : Nat) : ByteArray := (A.getD i Ent.zero).k
def sizA (A : List Ent) (i : Nat) : Int := (A.getD i Ent.zero).s
def sumA (A : List Ent) : List Nat → Int
  | [] => 0
  | i :: r => sizA A i + sumA A r
theorem sumA_append (A : List Ent) (L1 L2 : List Nat) : sumA A (L1 ++ L2) = sumA A L1 + sumA A L2 := by
  induction L1 with
  | nil => simp [sumA]
  | cons i r ih => simp only [List.cons_append, sumA, ih]; omega
theorem same_key {A B : List Ent} (h : same A B) (i : Nat) : keyA B i = keyA A i ∧ sizA B i = sizA A i := by
  have := h.2 i
  unfold keyA sizA
  simp only [List.getD]
  cases ha : A[i]? <;> cases hb : B[i]? <;> simp_all
theorem same_sum {A B : List Ent} (h : same A B) (L : List Nat) : sumA B L = sumA A L := by
  induction L with
  | nil => rfl
  | cons i r ih => rw [sumA, sumA, ih, (same_key h i).2]

theorem seg_link {A : List Ent} {g : Int} {L : List Nat} {i : Nat} {l : Lst} {x : Ent} (h : Seg A g L l) (hn : (i :: L).Nodup) (hx : A[i]? = some x) :
    Seg (linkA A i g l) g (i :: L) (linkL l i x) ∧ same A (linkA A i g l) ∧ ∀ j, j ∉ i :: L → (linkA A i g l)[j]? = A[j]? := by
  obtain ⟨hd, hf, hl⟩ := h
  obtain ⟨hi, rfl⟩ := List.getElem?_eq_some_iff.1 hx
  simp only [List.nodup_cons] at hn
  have hB : ∀ j, j ≠ i → (A.modify i fun x => { x with g := g, n := -1, o := l.first })[j]? = A[j]? := fun j hj => by simp [List.getElem?_modify, Ne.symm hj]
  have hBi : (A.modify i fun x => { x with g := g, n := -1, o := l.first })[i]? = some { A[i] with g := g, n := -1, o := l.first } := by simp [List.getElem?_modify, hi]
  have hsB : same A (A.modify i fun x => { x with g := g, n := -1, o := l.first }) := ⟨by simp, fun j => by
    simp only [List.getElem?_modify]
    cases A[j]? <;> simp <;> split <;> simp⟩
  have dB : Dl (A.modify i fun x => { x with g := g, n := -1, o := l.first }) g (-1) L (-1) := Dl_frame hd (fun j hj => hB j (fun e => hn.1 (e ▸ hj)))
  unfold linkA
  simp only []
  cases L with
  | nil =>
    have h1 : l.first = -1 := hf
    rw [if_pos h1]
    refine ⟨⟨⟨⟨_, hBi, rfl, rfl, hf⟩, trivial⟩, rfl, ?_⟩, hsB, fun j hj => hB j (by simpa using hj)⟩
    show (if l.first = -1 then (i : Int) else l.last) = _
    rw [if_pos h1]; rfl
  | cons c r =>
    have h1 : l.first = c := hf
    have hci : c ≠ i := fun e => hn.1 (by simp [e])
    rw [if_neg (by omega), h1]
    refine ⟨⟨⟨⟨_, (setN_ne _ _ _ _ hci).trans (by rw [← h1]; exact hBi), rfl, rfl, hf⟩, ?_⟩, rfl, ?_⟩, (h1 ▸ hsB).trans (same_setN _ _ _), fun j hj => ?_⟩
    · rw [← h1]
      have := Dl_setN (i : Int) dB hn.2
      rw [h1] at this ⊢
      exact this
    · show (if l.first = -1 then (i : Int) else l.last) = _
      rw [if_neg (by omega), hl]; rfl
    · simp only [List.mem_cons, not_or] at hj
      rw [setN_ne _ _ _ _ (fun e => hj.2.1 e.symm)]
      rw [← h1]
      exact hB j hj.1

/-- The invariant: T, K: the rows; X: what is in no row just now. -/
structure Rep (st : St) (T K X : List Nat) : Prop where
  t : Seg st.A 0 T st.l0
  k : Seg st.A 1 K st.l1
  nd : (T ++ K ++ X).Nodup
  fr : ∃ F : List Nat, st.F = F.map (fun i : Nat => (i : Int)) ∧ (∀ i ∈ F, i ∉ T ++ K ++ X) ∧ F.Nodup ∧ ∀ i, i < st.A.length ↔ (i ∈ F ∨ i ∈ T ++ K ++ X)
  pl : ∀ (a : ByteArray) (v : Int), (a, v) ∈ st.P ↔ ∃ i ∈ T ++ K ++ X, v = (i : Int) ∧ keyA st.A i = a
  pn : (st.P.map (·.1)).Nodup
  b0 : st.l0.bytes = sumA st.A T
  b1 : st.l1.bytes = sumA st.A K
  sz : ∀ i ∈ T ++ K ++ X, 1 ≤ sizA st.A i
  tot : sumA st.A (T ++ K ++ X) ≤ st.al
  pa : 1 ≤ st.al ∧ st.al ≤ 1073741824 ∧ 0 ≤ st.kp ∧ st.kp ≤ st.al ∧ 1 ≤ st.mo ∧ st.mo ≤ st.al
  len : (st.A.length : Int) ≤ st.al

theorem sumA_nonneg {A : List Ent} {L : List Nat} (h : ∀ i ∈ L, 1 ≤ sizA A i) : (L.length : Int) ≤ sumA A L := by
  induction L with
  | nil => simp [sumA]
  | cons i r ih =>
    have h1 := h i (by simp)
    have h2 := ih (fun j hj => h j (by simp [hj]))
    simp only [sumA, List.length_cons]
    omega

theorem Rep.live {st : St} {T K X : List Nat} (h : Rep st T K X) {i : Nat} (hi : i ∈ T ++ K ++ X) : ∃ x, st.A[i]? = some x ∧ 1 ≤ x.s ∧ x.s ≤ st.al := by
  obtain ⟨F, _, _, _, hF⟩ := h.fr
  have hl := (hF i).2 (.inr hi)
  refine ⟨st.A[i], by simp [hl], ?_, ?_⟩
  · have := h.sz i hi
    simpa [sizA, List.getD, hl] using this
  · obtain ⟨L1, L2, hL⟩ := List.append_of_mem hi
    have ht := h.tot
    have hs := h.sz
    rw [hL] at ht hs
    rw [sumA_append] at ht
    simp only [sumA] at ht
    have h1 := sumA_nonneg (A := st.A) (L := L1) (fun j hj => hs j (by simp [hj]))
    have h2 := sumA_nonneg (A := st.A) (L := L2) (fun j hj => hs j (by simp [hj]))
    have : sizA st.A i = st.A[i].s := by simp [sizA, List.getD, hl]
    omega

theorem Rep.small {st : St} {T K X : List Nat} (h : Rep st T K X) : 0 ≤ st.l0.bytes ∧ st.l0.bytes ≤ st.al ∧ 0 ≤ st.l1.bytes ∧ st.l1.bytes ≤ st.al ∧ st.l0.bytes + st.l1.bytes ≤ st.al := by
  have ht := h.tot
  rw [sumA_append, sumA_append] at ht
  have h1 := sumA_nonneg (A := st.A) (L := T) (fun j hj => h.sz j (by simp [hj]))
  have h2 := sumA_nonneg (A := st.A) (L := K) (fun j hj => h.sz j (by simp [hj]))
  have h3 := sumA_nonneg (A := st.A) (L := X) (fun j hj => h.sz j (by simp [hj]))
  rw [h.b0, h.b1]
  omega

/-- Two stores with the same entries, but for how they are linked. -/
theorem rep_relink {st st' : St} {T K X T' K' X' : List Nat} (h : Rep st T K X) (ht : Seg st'.A 0 T' st'.l0) (hk : Seg st'.A 1 K' st'.l1) (hp : (T' ++ K' ++ X').Perm (T ++ K ++ X)) (hs : same st.A st'.A)
    (e1 : st'.F = st.F) (e2 : st'.P = st.P) (e3 : st'.al = st.al ∧ st'.kp = st.kp ∧ st'.mo = st.mo) (b0 : st'.l0.bytes = sumA st.A T') (b1 : st'.l1.bytes = sumA st.A K') (hsum : sumA st.A (T' ++ K' ++ X') = sumA st.A (T ++ K ++ X)) : Rep st' T' K' X' where
  t := ht
  k := hk
  nd := hp.nodup_iff.2 h.nd
  fr := by
    obtain ⟨F, h1, h2, h3, h4⟩ := h.fr
    refine ⟨F, by rw [e1, h1], fun i hi hm => h2 i hi (hp.mem_iff.1 hm), h3, fun i => ?_⟩
    rw [hs.1, h4 i, hp.mem_iff]
  pl a v := by
    rw [e2, h.pl]
    constructor
    · rintro ⟨i, hi, rfl, hk⟩; exact ⟨i, hp.mem_iff.2 hi, rfl, (same_key hs i).1.trans hk⟩
    · rintro ⟨i, hi, rfl, hk⟩; exact ⟨i, hp.mem_iff.1 hi, rfl, (same_key hs i).1.symm.trans hk⟩
  pn := by rw [e2]; exact h.pn
  b0 := by rw [same_sum hs, b0]
  b1 := by rw [same_sum hs, b1]
  sz i hi := by rw [(same_key hs i).2]; exact h.sz i (hp.mem_iff.1 hi)
  tot := by rw [same_sum hs, hsum, e3.1]; exact h.tot
  pa := by obtain ⟨a, b, c⟩ := e3; rw [a, b, c]; exact h.pa
  len := by rw [hs.1, e3.1]; exact h.len

theorem seg_frame {A B : List Ent} {g : Int} {L : List Nat} {l : Lst} (h : Seg A g L l) (he : ∀ i ∈ L, B[i]? = A[i]?) : Seg B g L l := ⟨Dl_frame h.1 he, h.2⟩

theorem rep_unlink0 {st : St} {T1 T2 K X : List Nat} {i : Nat} (h : Rep st (T1 ++ i :: T2) K X) : Rep (unlinkS st i) (T1 ++ T2) K (i :: X) := by
  obtain ⟨x, hx, _⟩ := h.live (i := i) (by simp)
  have hnd := h.nd
  obtain ⟨s1, s2, s3, s4, s5, s6⟩ := seg_unlink h.t (by rw [List.append_assoc] at hnd; exact (List.nodup_append.1 hnd).1) hx
  have e : unlinkS st i = { (st.setLst 0 (unlL st.l0 x)) with A := unlA st.A x } := by
    unfold unlinkS; simp only [List.getD, hx, Option.getD_some, s2]; rfl
  rw [e]
  have hsz : sizA st.A i = x.s := by simp [sizA, List.getD, hx]
  refine rep_relink h s1 ?_ ?_ (same_unl _ _) rfl rfl ⟨rfl, rfl, rfl⟩ ?_ h.b1 ?_
  · refine seg_frame h.k fun j hj => s6 j fun hm => ?_
    rw [List.append_assoc] at hnd
    exact (List.nodup_append.1 hnd).2.2 j hm j (by simp [hj]) rfl
  · have p1 : (T1 ++ T2 ++ K ++ i :: X).Perm (i :: (T1 ++ T2 ++ K ++ X)) := List.perm_middle
    have p2 : (T1 ++ i :: T2 ++ K ++ X).Perm (i :: (T1 ++ T2 ++ K ++ X)) := by
      simp only [List.append_assoc, List.cons_append]
      exact List.perm_middle
    exact p1.trans p2.symm
  · show st.l0.bytes - x.s = _
    rw [h.b0, sumA_append, sumA_append]
    simp only [sumA]
    omega
  · simp only [sumA_append, sumA]; omega

theorem rep_unlink1 {st : St} {T K1 K2 X : List Nat} {i : Nat} (h : Rep st T (K1 ++ i :: K2) X) : Rep (unlinkS st i) T (K1 ++ K2) (i :: X) := by
  obtain ⟨x, hx, _⟩ := h.live (i := i) (by simp)
  have hnd := h.nd
  have hnd1 : (T ++ (K1 ++ i :: K2)).Nodup := (List.nodup_append.1 hnd).1
  obtain ⟨s1, s2, s3, s4, s5, s6⟩ := seg_unlink h.k (List.nodup_append.1 hnd1).2.1 hx
  have e : unlinkS st i = { (st.setLst 1 (unlL st.l1 x)) with A := unlA st.A x } := by
    unfold unlinkS; simp only [List.getD, hx, Option.getD_some, s2]; rfl
  rw [e]
  have hsz : sizA st.A i = x.s := by simp [sizA, List.getD, hx]
  refine rep_relink h ?_ s1 ?_ (same_unl _ _) rfl rfl ⟨rfl, rfl, rfl⟩ h.b0 ?_ ?_
  · refine seg_frame h.t fun j hj => s6 j fun hm => ?_
    exact (List.nodup_append.1 hnd1).2.2 j hj j hm rfl
  · have p1 : (T ++ (K1 ++ K2) ++ i :: X).Perm (i :: (T ++ (K1 ++ K2) ++ X)) := List.perm_middle
    have p2 : (T ++ (K1 ++ i :: K2) ++ X).Perm (i :: (T ++ (K1 ++ K2) ++ X)) := by
      rw [show T ++ (K1 ++ i :: K2) ++ X = (T ++ K1) ++ i :: (K2 ++ X) by simp, show T ++ (K1 ++ K2) ++ X = (T ++ K1) ++ (K2 ++ X) by simp]
      exact List.perm_middle
    exact p1.trans p2.symm
  · show st.l1.bytes - x.s = _
    rw [h.b1, sumA_append, sumA_append]
    simp only [sumA]
    omega
  · simp only [sumA_append, sumA]; omega

theorem rep_link0 {st : St} {T K X : List Nat} {i : Nat} (h : Rep st T K (i :: X)) : Rep (linkS st i 0) (i :: T) K X := by
  obtain ⟨x, hx, _⟩ := h.live (i := i) (by simp)
  have hp : (i :: T ++ K ++ X).Perm (T ++ K ++ i :: X) := List.perm_middle.symm
  have hnd : (i :: (T ++ K ++ X)).Nodup := hp.nodup_iff.2 h.nd
  have hi : i ∉ T ∧ i ∉ K := by
    have := (List.nodup_cons.1 hnd).1
    simp only [List.mem_append, not_or] at this
    exact this.1
  have hT : T.Nodup := by have := h.nd; rw [List.append_assoc] at this; exact (List.nodup_append.1 this).1
  obtain ⟨s1, s2, s3⟩ := seg_link (g := 0) h.t (List.nodup_cons.2 ⟨hi.1, hT⟩) hx
  have e : linkS st i 0 = { (st.setLst 0 (linkL st.l0 i x)) with A := linkA st.A i 0 st.l0 } := by
    unfold linkS; simp only [List.getD, hx, Option.getD_some]; rfl
  rw [e]
  have hsz : sizA st.A i = x.s := by simp [sizA, List.getD, hx]
  refine rep_relink h s1 ?_ hp s2 rfl rfl ⟨rfl, rfl, rfl⟩ ?_ h.b1 ?_
  · refine seg_frame h.k fun j hj => s3 j fun hm => ?_
    rcases List.mem_cons.1 hm with rfl | hm
    · exact hi.2 hj
    · have := h.nd
      rw [List.append_assoc] at this
      exact (List.nodup_append.1 this).2.2 j hm j (by simp [hj]) rfl
  · show st.l0.bytes + x.s = _
    rw [h.b0]; simp only [sumA]; omega
  · simp only [List.cons_append, sumA_append, sumA]; omega

theorem rep_link1 {st : St} {T K X : List Nat} {i : Nat} (h : Rep st T K (i :: X)) : Rep (linkS st i 1) T (i :: K) X := by
  obtain ⟨x, hx, _⟩ := h.live (i := i) (by simp)
  have hp : (T ++ i :: K ++ X).Perm (T ++ K ++ i :: X) := by
    rw [show T ++ i :: K ++ X = T ++ i :: (K ++ X) by simp]
    refine List.perm_middle.trans (List.Perm.trans ?_ List.perm_middle.symm)
    simp
  have hnd : (i :: (T ++ K ++ X)).Nodup := List.perm_middle.nodup_iff.1 h.nd
  have hi : i ∉ T ∧ i ∉ K := by
    have := (List.nodup_cons.1 hnd).1
    simp only [List.mem_append, not_or] at this
    exact this.1
  have hTK : (T ++ K).Nodup := (List.nodup_append.1 h.nd).1
  obtain ⟨s1, s2, s3⟩ := seg_link (g := 1) h.k (List.nodup_cons.2 ⟨hi.2, (List.nodup_append.1 hTK).2.1⟩) hx
  have e : linkS st i 1 = { (st.setLst 1 (linkL st.l1 i x)) with A := linkA st.A i 1 st.l1 } := by
    unfold linkS; simp only [List.getD, hx, Option.getD_some]; rfl
  rw [e]
  have hsz : sizA st.A i = x.s := by simp [sizA, List.getD, hx]
  refine rep_relink h ?_ s1 hp s2 rfl rfl ⟨rfl, rfl, rfl⟩ h.b0 ?_ ?_
  · refine seg_frame h.t fun j hj => s3 j fun hm => ?_
    rcases List.mem_cons.1 hm with rfl | hm
    · exact hi.1 hj
    · exact (List.nodup_append.1 hTK).2.2 j hj j hm rfl
  · show st.l1.bytes + x.s = _
    rw [h.b1]; simp only [sumA]; omega
  · simp only [sumA_append, sumA]; omega

end Go.Proofs.Ytlilogcojeoelaa
