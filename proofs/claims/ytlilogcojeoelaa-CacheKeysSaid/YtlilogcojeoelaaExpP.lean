/- A queue as a list of keys with deadlines, the next one first: plain data, no program. -/
import Derived.Test.YtlilogcojeoelaaExpM
namespace Go.Proofs.Ytlilogcojeoelaa
set_option linter.all false
open Go

abbrev KA := ByteArray × Int
def qdrop (a : ByteArray) (L : List KA) : List KA := L.filter fun x => decide (x.1 ≠ a)
def qins (a : ByteArray) (t : Int) (L : List KA) : List KA := L.takeWhile (fun x => decide (x.2 ≤ t)) ++ (a, t) :: L.dropWhile (fun x => decide (x.2 ≤ t))
def qset (a : ByteArray) (t : Int) (L : List KA) : List KA := qins a t (qdrop a L)
def qdue (now : Int) (L : List KA) : List ByteArray := (L.takeWhile fun x => decide (x.2 ≤ now)).map (·.1)
def qrest (now : Int) (L : List KA) : List KA := L.dropWhile fun x => decide (x.2 ≤ now)
def itp (x : It) : KA := (x.k, x.at_)

/-- A heap holds these, in this order. -/
structure QInv (H : List It) (L : List KA) (s : Int) : Prop where
  hp : HeapOK H
  ex : ∃ S : List It, S.Perm H ∧ S.Pairwise ilt ∧ S.map itp = L ∧ ∀ x ∈ S, x.num ≤ s
  nd : (H.map (·.k)).Nodup
  ln : (H.length : Int) ≤ s

theorem filter_map_itp (a : ByteArray) (S : List It) : (S.filter fun x => decide (x.k ≠ a)).map itp = qdrop a (S.map itp) := by
  unfold qdrop
  rw [List.filter_map]; rfl
theorem hat_mem {H : List It} {i : Nat} (h : i < H.length) : hat H i ∈ H := by rw [hat_get h]; exact List.getElem_mem h
theorem QInv.len {H : List It} {L : List KA} {s : Int} (h : QInv H L s) : L.length = H.length := by
  obtain ⟨S, h1, _, h3, _⟩ := h.ex
  rw [← h3, List.length_map]; exact h1.length_eq
theorem QInv.keys {H : List It} {L : List KA} {s : Int} (h : QInv H L s) : (L.map (·.1)).Nodup := by
  obtain ⟨S, h1, _, h3, _⟩ := h.ex
  rw [← h3, List.map_map]
  exact (h1.map (fun x : It => x.k)).nodup_iff.2 h.nd
theorem filter_others {H : List It} {x : It} (hn : ((x :: H).map (·.k)).Nodup) : (x :: H).filter (fun y => decide (y.k ≠ x.k)) = H := by
  rw [List.map_cons, List.nodup_cons] at hn
  rw [List.filter_cons, if_neg (by simp), List.filter_eq_self]
  intro y hy
  simp only [decide_eq_true_eq]
  exact fun e => hn.1 (List.mem_map.2 ⟨y, hy, e⟩)
theorem QInv.drop {H H' : List It} {L : List KA} {s : Int} (h : QInv H L s) {i : Nat} (hi : i < H.length) (hh : HeapOK H') (hp : (hat H i :: H').Perm H) : QInv H' (qdrop (hat H i).k L) s := by
  have hnd := h.nd
  obtain ⟨S, h1, h2, h3, h4⟩ := h.ex
  have hn1 : ((hat H i :: H').map (·.k)).Nodup := (hp.map _).nodup_iff.2 hnd
  refine ⟨hh, ⟨S.filter fun x => decide (x.k ≠ (hat H i).k), ?_, h2.filter _, by rw [filter_map_itp, h3], fun x hx => h4 x (List.mem_filter.1 hx).1⟩, ?_, ?_⟩
  · refine ((h1.trans hp.symm).filter _).trans ?_
    rw [filter_others hn1]
  · rw [List.map_cons, List.nodup_cons] at hn1; exact hn1.2
  · have := hp.length_eq
    have := h.ln
    rw [List.length_cons] at *
    omega
theorem sorted_drop {S : List It} (h : S.Pairwise ilt) (t : Int) : ∀ z ∈ S.dropWhile (fun x => decide (x.at_ ≤ t)), t < z.at_ := by
  induction S with
  | nil => intro z hz; cases hz
  | cons x r ih =>
    rw [List.pairwise_cons] at h
    rw [List.dropWhile_cons]
    split
    · exact ih h.2
    · rename_i hx
      simp only [decide_eq_true_eq] at hx
      intro z hz
      rcases List.mem_cons.1 hz with rfl | hz
      · omega
      · have := h.1 z hz
        unfold ilt at this
        omega
theorem takeWhile_map_itp (t : Int) (S : List It) : (S.map itp).takeWhile (fun x => decide (x.2 ≤ t)) = (S.takeWhile fun x => decide (x.at_ ≤ t)).map itp := by
  rw [List.takeWhile_map]; rfl
theorem dropWhile_map_itp (t : Int) (S : List It) : (S.map itp).dropWhile (fun x => decide (x.2 ≤ t)) = (S.dropWhile fun x => decide (x.at_ ≤ t)).map itp := by
  rw [List.dropWhile_map]; rfl
theorem mem_takeWhile_at {t : Int} {S : List It} {x : It} (h : x ∈ S.takeWhile fun x => decide (x.at_ ≤ t)) : x.at_ ≤ t ∧ x ∈ S := by
  refine ⟨?_, List.takeWhile_sublist _ |>.mem h⟩
  have := List.all_takeWhile (p := fun x : It => decide (x.at_ ≤ t)) (l := S)
  rw [List.all_eq_true] at this
  simpa using this x h
theorem QInv.set {H H' : List It} {L : List KA} {s : Int} (h : QInv H L s) {a : ByteArray} {t : Int} (ha : a ∉ H.map (·.k)) (hh : HeapOK H') (hp : H'.Perm (H ++ [⟨a, t, s + 1⟩])) : QInv H' (qins a t L) (s + 1) := by
  have hnd := h.nd
  have hln := h.ln
  obtain ⟨S, h1, h2, h3, h4⟩ := h.ex
  have hdw := sorted_drop h2 t
  refine ⟨hh, ⟨(S.takeWhile fun x => decide (x.at_ ≤ t)) ++ ⟨a, t, s + 1⟩ :: (S.dropWhile fun x => decide (x.at_ ≤ t)), ?_, ?_, ?_, ?_⟩, ?_, ?_⟩
  · refine List.perm_middle.trans ?_
    rw [List.takeWhile_append_dropWhile]
    refine (h1.cons _).trans ?_
    refine List.Perm.trans ?_ hp.symm
    exact (List.perm_append_comm (l₁ := [_]))
  · rw [List.pairwise_append]
    refine ⟨h2.sublist (List.takeWhile_sublist _), ?_, ?_⟩
    · rw [List.pairwise_cons]
      refine ⟨fun z hz => .inl (hdw z hz), h2.sublist (List.dropWhile_sublist _)⟩
    · intro y hy z hz
      obtain ⟨y1, y2⟩ := mem_takeWhile_at hy
      have y3 := h4 y y2
      rcases List.mem_cons.1 hz with rfl | hz
      · unfold ilt; simp only; omega
      · have := hdw z hz
        exact .inl (by omega)
  · rw [List.map_append, List.map_cons, ← takeWhile_map_itp, ← dropWhile_map_itp, h3]; rfl
  · intro x hx
    rcases List.mem_append.1 hx with hx | hx
    · have := h4 x (mem_takeWhile_at hx).2; omega
    · rcases List.mem_cons.1 hx with rfl | hx
      · exact Int.le_refl _
      · have := h4 x ((List.dropWhile_sublist _).mem hx); omega
  · refine (hp.map _).nodup_iff.2 ?_
    rw [List.map_append, List.nodup_append]
    refine ⟨hnd, by simp, fun x hx y hy e => ?_⟩
    simp at hy
    subst hy e
    exact ha hx
  · have := hp.length_eq
    rw [List.length_append, List.length_cons, List.length_nil] at this
    omega
theorem QInv.head {H : List It} {L : List KA} {s : Int} (h : QInv H L s) (h0 : 0 < H.length) : ∃ r, L = itp (hat H 0) :: r ∧ qdrop (hat H 0).k L = r := by
  have hk := h.keys
  obtain ⟨S, h1, h2, h3, h4⟩ := h.ex
  cases S with
  | nil => have := h1.length_eq; simp at this; omega
  | cons x r =>
    have hx : x = hat H 0 := by
      have hm : x ∈ H := h1.mem_iff.1 (by simp)
      obtain ⟨j, hj, e⟩ := List.mem_iff_getElem.1 hm
      have hr := h.hp.root j hj
      rw [hat_get hj, e] at hr
      have hm0 := h1.mem_iff.2 (hat_mem h0)
      rcases List.mem_cons.1 hm0 with e0 | e0
      · exact e0.symm
      · exact absurd ((List.pairwise_cons.1 h2).1 _ e0) hr
    subst hx
    rw [← h3] at hk
    refine ⟨r.map itp, h3.symm, ?_⟩
    rw [← h3, List.map_cons]
    unfold qdrop
    rw [List.filter_cons, if_neg (by simp [itp]), List.filter_eq_self]
    intro y hy
    simp only [decide_eq_true_eq]
    rw [List.map_cons, List.map_cons, List.nodup_cons] at hk
    exact fun e => hk.1 (List.mem_map.2 ⟨y, hy, e⟩)
theorem QInv.get {H : List It} {L : List KA} {s : Int} (h : QInv H L s) (a : ByteArray) : (mget a L = none ∧ ∀ j, j < H.length → (hat H j).k ≠ a) ∨ ∃ j, j < H.length ∧ (hat H j).k = a ∧ mget a L = some (hat H j).at_ := by
  have hk := h.keys
  obtain ⟨S, h1, h2, h3, h4⟩ := h.ex
  by_cases hm : ∃ j, j < H.length ∧ (hat H j).k = a
  · obtain ⟨j, hj, e⟩ := hm
    right
    refine ⟨j, hj, e, ?_⟩
    rw [mget_mem hk, ← h3]
    exact List.mem_map.2 ⟨hat H j, h1.mem_iff.2 (hat_mem hj), by simp [itp, e]⟩
  · left
    refine ⟨?_, fun j hj e => hm ⟨j, hj, e⟩⟩
    rw [mget_none, ← h3]
    intro x hx e
    obtain ⟨y, hy, rfl⟩ := List.mem_map.1 hx
    obtain ⟨j, hj, e2⟩ := List.mem_iff_getElem.1 (h1.mem_iff.1 hy)
    exact hm ⟨j, hj, by rw [hat_get hj, e2]; exact e⟩
theorem qdrop_none {a : ByteArray} {L : List KA} (h : mget a L = none) : qdrop a L = L := by
  unfold qdrop
  rw [List.filter_eq_self]
  intro x hx
  simpa using mget_none.1 h x hx
theorem QInv.nil : QInv [] [] 0 := ⟨by intro j hj; simp at hj, ⟨[], List.Perm.refl _, List.Pairwise.nil, rfl, by simp⟩, by simp, by simp⟩

end Go.Proofs.Ytlilogcojeoelaa
