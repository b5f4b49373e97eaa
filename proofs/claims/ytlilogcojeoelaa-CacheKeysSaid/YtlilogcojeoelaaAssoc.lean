/- Lists of keys with what is kept by them. Plain data, no program. -/
import Derived.WalkKit
namespace Go.Proofs.Ytlilogcojeoelaa
set_option linter.all false
open Go

section
variable {K V : Type} [DecidableEq K]

theorem map_eraseIdx' {α β : Type} (f : α → β) (l : List α) (j : Nat) : (l.eraseIdx j).map f = (l.map f).eraseIdx j := by
  induction l generalizing j with
  | nil => simp
  | cons x r ih =>
    cases j with
    | zero => simp
    | succ j => simp [ih]

/-- What is kept by a key. -/
def mget (a : K) : List (K × V) → Option V
  | [] => none
  | x :: r => if x.1 = a then some x.2 else mget a r
def mput (a : K) (v : V) : List (K × V) → List (K × V)
  | [] => [(a, v)]
  | x :: r => if x.1 = a then (a, v) :: r else x :: mput a v r
def mdel (a : K) : List (K × V) → List (K × V)
  | [] => []
  | x :: r => if x.1 = a then r else x :: mdel a r
theorem mget_put (a b : K) (v : V) (l : List (K × V)) : mget b (mput a v l) = if a = b then some v else mget b l := by
  induction l with
  | nil => simp [mput, mget]
  | cons x r ih =>
    by_cases h : x.1 = a
    · rw [mput, if_pos h]
      by_cases hb : a = b
      · simp [mget, hb]
      · have : x.1 ≠ b := by rw [h]; exact hb
        simp [mget, hb, this]
    · rw [mput, if_neg h, mget, mget, ih]
      by_cases hx : x.1 = b
      · have : a ≠ b := fun e => h (hx.trans e.symm)
        simp [hx, this]
      · simp [hx]

theorem mdel_mem {a : K} {l : List (K × V)} {x : K × V} (h : x ∈ mdel a l) : x ∈ l := by
  induction l with
  | nil => simp [mdel] at h
  | cons y r ih =>
    rw [mdel] at h
    split at h
    · exact List.mem_cons_of_mem _ h
    · rcases List.mem_cons.1 h with rfl | h
      · exact List.mem_cons_self
      · exact List.mem_cons_of_mem _ (ih h)

theorem mget_none {a : K} {l : List (K × V)} : mget a l = none ↔ ∀ x ∈ l, x.1 ≠ a := by
  induction l with
  | nil => simp [mget]
  | cons y r ih =>
    rw [mget]
    by_cases h : y.1 = a
    · simp [h]
    · simp [h, ih]

theorem mget_del (a b : K) (l : List (K × V)) (hn : (l.map (·.1)).Nodup) : mget b (mdel a l) = if a = b then none else mget b l := by
  induction l with
  | nil => simp [mdel, mget]
  | cons x r ih =>
    simp only [List.map_cons, List.nodup_cons] at hn
    by_cases h : x.1 = a
    · rw [mdel, if_pos h]
      by_cases hb : a = b
      · rw [if_pos hb, mget_none]
        intro y hy e
        exact hn.1 (by rw [h, hb, ← e]; exact List.mem_map_of_mem hy)
      · have : x.1 ≠ b := by rw [h]; exact hb
        simp [mget, hb, this]
    · rw [mdel, if_neg h, mget, mget, ih hn.2]
      by_cases hx : x.1 = b
      · have : a ≠ b := fun e => h (hx.trans e.symm)
        simp [hx, this]
      · simp [hx]

theorem mdel_nodup (a : K) (l : List (K × V)) (hn : (l.map (·.1)).Nodup) : ((mdel a l).map (·.1)).Nodup := by
  induction l with
  | nil => simp [mdel]
  | cons x r ih =>
    simp only [List.map_cons, List.nodup_cons] at hn
    rw [mdel]
    split
    · exact hn.2
    · rw [List.map_cons, List.nodup_cons]
      refine ⟨fun h => ?_, ih hn.2⟩
      obtain ⟨y, hy, he⟩ := List.mem_map.1 h
      exact hn.1 (by rw [← he]; exact List.mem_map_of_mem (mdel_mem hy))

theorem mput_keys {a : K} {v : V} {l : List (K × V)} {x : K} (h : x ∈ ((mput a v l : List (K × V)).map (·.1))) : x = a ∨ x ∈ l.map (·.1) := by
  induction l with
  | nil => simp [mput] at h; exact .inl h
  | cons y r ih =>
    rw [mput] at h
    by_cases hy : y.1 = a
    · rw [if_pos hy] at h
      simp at h
      rcases h with h | h
      · exact .inl h
      · right; simp; exact .inr h
    · rw [if_neg hy, List.map_cons] at h
      rcases List.mem_cons.1 h with h | h
      · right; rw [h]; simp
      · rcases ih h with h | h
        · exact .inl h
        · right; rw [List.map_cons]; exact List.mem_cons_of_mem _ h

theorem mput_nodup (a : K) (v : V) (l : List (K × V)) (hn : (l.map (·.1)).Nodup) : ((mput a v l).map (·.1)).Nodup := by
  induction l with
  | nil => simp [mput]
  | cons x r ih =>
    simp only [List.map_cons, List.nodup_cons] at hn
    rw [mput]
    split
    · rename_i h
      rw [List.map_cons, List.nodup_cons]
      exact ⟨by show a ∉ _; rw [← h]; exact hn.1, hn.2⟩
    · rename_i h
      rw [List.map_cons, List.nodup_cons]
      refine ⟨fun hx => ?_, ih hn.2⟩
      rcases mput_keys hx with hx | hx
      · exact h hx
      · exact hn.1 hx

theorem mget_map {W : Type} (f : V → W) (a : K) (l : List (K × V)) : mget a (l.map fun x => (x.1, f x.2)) = (mget a l).map f := by
  induction l with
  | nil => rfl
  | cons x r ih => simp only [List.map_cons, mget, ih]; split <;> rfl
theorem mdel_map {W : Type} (f : V → W) (a : K) (l : List (K × V)) : mdel a (l.map fun x => (x.1, f x.2)) = (mdel a l).map fun x => (x.1, f x.2) := by
  induction l with
  | nil => rfl
  | cons x r ih => simp only [List.map_cons, mdel, ih]; split <;> rfl
theorem mput_map {W : Type} (f : V → W) (a : K) (v : V) (l : List (K × V)) : mput a (f v) (l.map fun x => (x.1, f x.2)) = (mput a v l).map fun x => (x.1, f x.2) := by
  induction l with
  | nil => rfl
  | cons x r ih => simp only [List.map_cons, mput, ih]; split <;> rfl
theorem mget_mem {a : K} {v : V} {l : List (K × V)} (hn : (l.map (·.1)).Nodup) : mget a l = some v ↔ (a, v) ∈ l := by
  induction l with
  | nil => simp [mget]
  | cons x r ih =>
    simp only [List.map_cons, List.nodup_cons] at hn
    rw [mget]
    by_cases h : x.1 = a
    · rw [if_pos h]
      constructor
      · intro e; cases e; rw [← h]; exact List.mem_cons_self
      · intro hm
        rcases List.mem_cons.1 hm with e | hm
        · rw [← e]
        · exact absurd (by rw [h]; exact List.mem_map_of_mem hm) hn.1
    · rw [if_neg h, ih hn.2]
      constructor
      · exact fun hm => List.mem_cons_of_mem _ hm
      · intro hm
        rcases List.mem_cons.1 hm with e | hm
        · rw [← e] at h; exact absurd rfl h
        · exact hm
end

end Go.Proofs.Ytlilogcojeoelaa
