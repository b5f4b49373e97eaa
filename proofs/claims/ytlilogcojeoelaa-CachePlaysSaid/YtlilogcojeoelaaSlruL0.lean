/- Package slru: what holds of what a store holds. -/
import Derived.Test.YtlilogcojeoelaaSlruI
namespace Go.Proofs.Ytlilogcojeoelaa
set_option linter.all false
open Go Go.RowKit

theorem sv_facts {k : Env} {w : World} {b : Nat} {al kp mo : Int} {t kk : List KV} {R : Assn} (h : Sat k w (StoreV b al kp mo t kk * R)) :
    sumV t + sumV kk ≤ al ∧ sumV kk ≤ kp ∧ ((t ++ kk).map (·.1)).Nodup ∧ (t.length : Int) + kk.length ≤ al ∧ al ≤ 1073741824 ∧ (∀ x ∈ t, 1 ≤ x.2) ∧ (∀ x ∈ kk, 1 ≤ x.2) ∧ 0 ≤ sumV t ∧ 0 ≤ sumV kk := by
  obtain ⟨st, T, K, hr, rfl, rfl, rfl, rfl, rfl, hk, _⟩ := sv_open h
  have ht := hr.tot
  simp only [List.append_nil] at ht
  rw [sumA_append] at ht
  have hp := hr.viewPos
  have h3 := sumA_nonneg (A := st.A) (L := T ++ K) (by have := hr.sz; simpa using this)
  rw [sumA_append, List.length_append] at h3
  refine ⟨by rw [sumV_view, sumV_view]; exact ht, hk, ?_, by rw [view_len, view_len]; omega, hr.pa.2.1, hp.1, hp.2, sumV_pos fun x hx => by have := hp.1 x hx; omega, sumV_pos fun x hx => by have := hp.2 x hx; omega⟩
  rw [← view_append]
  have hnd := hr.nd
  rw [List.append_nil] at hnd
  unfold view
  rw [List.map_map]
  show ((T ++ K).map fun i => keyA st.A i).Nodup
  rw [List.Nodup, List.pairwise_map]
  refine List.Pairwise.imp_of_mem ?_ hnd
  intro x y hx hy hxy e
  exact hxy (hr.keys (by simpa using hx) (by simpa using hy) e)

theorem mget_isSome {a : ByteArray} {l : List KV} : (mget a l).isSome = true ↔ a ∈ l.map (·.1) := by
  constructor
  · intro h
    by_cases hm : a ∈ l.map (·.1)
    · exact hm
    · have : mget a l = none := mget_none.2 fun x hx e => hm (by rw [← e]; exact List.mem_map_of_mem hx)
      rw [this] at h; cases h
  · intro h
    cases hg : mget a l with
    | some v => rfl
    | none =>
      obtain ⟨x, hx, e⟩ := List.mem_map.1 h
      exact absurd e (mget_none.1 hg x hx)

theorem backV_perm (kp : Int) (n : Nat) (t k : List KV) : ((backV kp n t k).1 ++ (backV kp n t k).2.1).Perm (t ++ k) := by
  induction n generalizing t k with
  | zero => exact List.Perm.refl _
  | succ n ih =>
    rw [backV]
    split
    · rcases List.eq_nil_or_concat k with rfl | ⟨k1, x, rfl⟩
      · exact List.Perm.refl _
      · rw [List.concat_eq_append]
        simp only [List.getLast?_append, List.getLast?_singleton, Option.some_or, List.dropLast_concat]
        refine (ih (x :: t) k1).trans ?_
        rw [← List.append_assoc]
        exact (List.perm_append_singleton x (t ++ k1)).symm
    · exact List.Perm.refl _

theorem mem_dropV {a x : ByteArray} {l : List KV} : x ∈ (dropV a l).map (·.1) ↔ x ∈ l.map (·.1) ∧ x ≠ a := by
  unfold dropV
  simp only [List.mem_map, List.mem_filter, decide_eq_true_eq]
  constructor
  · rintro ⟨y, ⟨h1, h2⟩, rfl⟩; exact ⟨⟨y, h1, rfl⟩, h2⟩
  · rintro ⟨⟨y, h1, rfl⟩, h2⟩; exact ⟨y, ⟨h1, h2⟩, rfl⟩

theorem touchR_mem (kp : Int) (a : ByteArray) (s : Int) (t k : List KV) : a ∈ ((touchR kp a s t k).1 ++ (touchR kp a s t k).2.1).map (·.1) := by
  unfold touchR
  rw [((backV_perm _ _ _ _).map _).mem_iff]
  unfold touchP
  split <;> simp


end Go.Proofs.Ytlilogcojeoelaa
