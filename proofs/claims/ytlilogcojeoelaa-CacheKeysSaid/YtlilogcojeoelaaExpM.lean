/- A heap of keys with deadlines: plain data, no program. -/
import Derived.Test.YtlilogcojeoelaaAssoc
namespace Go.Proofs.Ytlilogcojeoelaa
set_option linter.all false
open Go

/-- A key, its deadline, and when it was set. -/
structure It where
  k : ByteArray
  at_ : Int
  num : Int
deriving DecidableEq, Inhabited

def ilt (a b : It) : Prop := a.at_ < b.at_ ∨ (a.at_ = b.at_ ∧ a.num < b.num)
instance (a b : It) : Decidable (ilt a b) := by unfold ilt; infer_instance
def ile (a b : It) : Prop := ¬ ilt b a

theorem ile_trans {a b c : It} (h : ile a b) (h' : ile b c) : ile a c := by unfold ile ilt at *; omega
theorem ile_of_lt {a b : It} (h : ilt a b) : ile a b := by unfold ile ilt at *; omega
theorem ilt_le {a b c : It} (h : ilt a b) (h' : ile b c) : ilt a c := by unfold ile ilt at *; omega
theorem ile_lt {a b c : It} (h : ile a b) (h' : ilt b c) : ilt a c := by unfold ile ilt at *; omega
theorem ile_refl (a : It) : ile a a := by unfold ile ilt; omega

/-- Read at a place: the heap as a function. -/
def hat (H : List It) (i : Nat) : It := H.getD i default
theorem hat_get {H : List It} {i : Nat} (h : i < H.length) : hat H i = H[i] := by simp [hat, h]
def par (j : Nat) : Nat := (j - 1) / 2

def swapL (H : List It) (i k : Nat) : List It := (H.set i (hat H k)).set k (hat H i)
theorem swapL_len (H : List It) (i k : Nat) : (swapL H i k).length = H.length := by simp [swapL]
theorem hat_swap {H : List It} {i k j : Nat} (hi : i < H.length) (hk : k < H.length) : hat (swapL H i k) j = if j = k then hat H i else if j = i then hat H k else hat H j := by
  unfold hat swapL
  rw [List.getD_eq_getElem?_getD, List.getElem?_set, List.length_set]
  by_cases h1 : k = j
  · subst h1; simp [hk, hat]
  · rw [if_neg h1, if_neg (fun e => h1 e.symm), List.getElem?_set]
    by_cases h2 : i = j
    · subst h2; simp [hi, hat]
    · rw [if_neg h2, if_neg (fun e => h2 e.symm)]; simp
theorem swapL_perm {H : List It} {i k : Nat} (hi : i < H.length) (hk : k < H.length) : (swapL H i k).Perm H := by
  unfold swapL
  rw [hat_get hi, hat_get hk]
  exact List.set_set_perm hi hk

def HeapOK (H : List It) : Prop := ∀ j, j < H.length → 0 < j → ile (hat H (par j)) (hat H j)
/-- A heap, but that the one at i may be due ahead of its parent. -/
def UpI (H : List It) (i : Nat) : Prop :=
  i < H.length ∧ (∀ j, j < H.length → 0 < j → j ≠ i → ile (hat H (par j)) (hat H j)) ∧ ∀ j, j < H.length → 0 < j → par j = i → 0 < i → ile (hat H (par i)) (hat H j)
/-- A heap, but that the one at i may be due behind its children (and, as long as it stands where it began, ahead of its parent). -/
def DnI (H : List It) (i0 i : Nat) : Prop :=
  i < H.length ∧ i0 ≤ i ∧ (∀ j, j < H.length → 0 < j → par j ≠ i → (j ≠ i0 ∨ i ≠ i0) → ile (hat H (par j)) (hat H j)) ∧ ∀ j, j < H.length → 0 < j → par j = i → 0 < i → ile (hat H (par i)) (hat H j)

theorem par_lt {j : Nat} (h : 0 < j) : par j < j := by unfold par; omega
theorem par_child {j i : Nat} (h : 0 < j) (e : par j = i) : j = 2 * i + 1 ∨ j = 2 * i + 2 := by unfold par at e; omega
theorem par1 (i : Nat) : par (2 * i + 1) = i := by unfold par; omega
theorem par2 (i : Nat) : par (2 * i + 2) = i := by unfold par; omega

theorem UpI.done {H : List It} {i : Nat} (h : UpI H i) (hd : i = 0 ∨ ¬ ilt (hat H i) (hat H (par i))) : HeapOK H := by
  intro j hj h0
  by_cases e : j = i
  · subst e
    rcases hd with hd | hd
    · omega
    · exact hd
  · exact h.2.1 j hj h0 e
theorem UpI.step {H : List It} {i : Nat} (h : UpI H i) (h0 : 0 < i) (hl : ilt (hat H i) (hat H (par i))) : UpI (swapL H i (par i)) (par i) := by
  obtain ⟨hi, h1, h2⟩ := h
  have hp : par i < i := par_lt h0
  have hpl : par i < H.length := by omega
  have S := fun j => hat_swap (j := j) hi hpl
  refine ⟨by rw [swapL_len]; exact hpl, ?_, ?_⟩
  · intro j hj hj0 hjp
    rw [swapL_len] at hj
    have hpj := par_lt hj0
    rw [S (par j), S j, if_neg hjp]
    by_cases e : j = i
    · subst e
      rw [if_pos rfl, if_pos rfl]
      exact ile_of_lt hl
    · rw [if_neg e]
      by_cases e1 : par j = par i
      · rw [if_pos e1]
        have := h1 j hj hj0 e
        rw [e1] at this
        exact ile_of_lt (ilt_le hl this)
      · rw [if_neg e1]
        by_cases e2 : par j = i
        · rw [if_pos e2]
          exact h2 j hj hj0 e2 h0
        · rw [if_neg e2]
          exact h1 j hj hj0 e
  · intro j hj hj0 hjp hp0
    rw [swapL_len] at hj
    have hpp := par_lt hp0
    rw [S (par (par i)), S j, if_neg (by omega), if_neg (by omega)]
    have hpar := h1 (par i) hpl hp0 (by omega)
    by_cases e : j = par i
    · have := par_lt hj0; omega
    · rw [if_neg e]
      by_cases e1 : j = i
      · rw [if_pos e1]; exact hpar
      · rw [if_neg e1]
        have := h1 j hj hj0 e1
        rw [hjp] at this
        exact ile_trans hpar this

theorem HeapOK.up {H : List It} (h : HeapOK H) {i : Nat} (hi : i < H.length) : UpI H i :=
  ⟨hi, fun j hj h0 _ => h j hj h0, fun j hj h0 e hi0 => ile_trans (h i hi hi0) (e ▸ h j hj h0)⟩
theorem DnI.done {H : List It} {i0 i : Nat} (h : DnI H i0 i) (h1 : 2 * i + 1 < H.length → ¬ ilt (hat H (2 * i + 1)) (hat H i)) (h2 : 2 * i + 2 < H.length → ¬ ilt (hat H (2 * i + 2)) (hat H i)) : UpI H i0 := by
  obtain ⟨hi, hle, h3, h4⟩ := h
  have hc : ∀ j, j < H.length → 0 < j → par j = i → ile (hat H (par j)) (hat H j) := by
    intro j hj hj0 e
    rw [e]
    rcases par_child hj0 e with rfl | rfl
    · exact h1 hj
    · exact h2 hj
  by_cases e : i = i0
  · subst e
    refine ⟨hi, fun j hj h0 hne => ?_, h4⟩
    by_cases hp : par j = i
    · exact hc j hj h0 hp
    · exact h3 j hj h0 hp (.inl hne)
  · refine HeapOK.up (fun j hj h0 => ?_) (by omega)
    by_cases hp : par j = i
    · exact hc j hj h0 hp
    · exact h3 j hj h0 hp (.inr e)
theorem DnI.step {H : List It} {i0 i c : Nat} (h : DnI H i0 i) (hc : c < H.length) (hc0 : 0 < c) (hp : par c = i) (hl : ilt (hat H c) (hat H i)) (ho : ∀ j, j < H.length → 0 < j → par j = i → ile (hat H c) (hat H j)) : DnI (swapL H i c) i0 c := by
  obtain ⟨hi, hle, h3, h4⟩ := h
  have hic : i < c := hp ▸ par_lt hc0
  have S := fun j => hat_swap (j := j) hi hc
  refine ⟨by rw [swapL_len]; exact hc, by omega, ?_, ?_⟩
  · intro j hj hj0 hjp _
    rw [swapL_len] at hj
    have hpj := par_lt hj0
    rw [S (par j), S j, if_neg hjp]
    by_cases e : j = c
    · subst e
      rw [if_pos rfl, if_pos hp]
      exact ile_of_lt hl
    · rw [if_neg e]
      by_cases e1 : j = i
      · subst e1
        rw [if_pos rfl, if_neg (by omega)]
        have := h4 c hc hc0 hp hj0
        exact this
      · rw [if_neg e1]
        by_cases e2 : par j = i
        · rw [if_pos e2]
          exact ho j hj hj0 e2
        · rw [if_neg e2]
          exact h3 j hj hj0 e2 (by omega)
  · intro j hj hj0 hjp _
    rw [swapL_len] at hj
    have hpj := par_lt hj0
    rw [hp, S i, S j, if_neg (by omega), if_pos rfl, if_neg (by omega), if_neg (by omega)]
    have := h3 j hj hj0 (by omega) (by omega)
    rw [hjp] at this
    exact this

theorem HeapOK.root {H : List It} (h : HeapOK H) : ∀ j, j < H.length → ile (hat H 0) (hat H j) := by
  intro j
  induction j using Nat.strongRecOn with
  | ind j ih =>
    intro hj
    by_cases h0 : j = 0
    · subst h0; exact ile_refl _
    · have hp := par_lt (j := j) (by omega)
      exact ile_trans (ih (par j) hp (by omega)) (h j hj (by omega))

/-- The one at i is put at the end, and goes: what stands then. -/
def cutL (H : List It) (i : Nat) : List It := (swapL H i (H.length - 1)).dropLast
theorem cutL_len (H : List It) (i : Nat) : (cutL H i).length = H.length - 1 := by simp [cutL, swapL_len]
theorem hat_dropLast {H : List It} {j : Nat} (h : j < H.length - 1) : hat H.dropLast j = hat H j := by
  have h' : j < H.length := by omega
  simp [hat, h, h']
theorem hat_cut {H : List It} {i j : Nat} (hi : i < H.length) (hj : j < H.length - 1) : hat (cutL H i) j = if j = i then hat H (H.length - 1) else hat H j := by
  unfold cutL
  rw [hat_dropLast (by rw [swapL_len]; exact hj), hat_swap hi (by omega), if_neg (by omega)]
theorem cutL_perm {H : List It} {i : Nat} (hi : i < H.length) : (hat H i :: cutL H i).Perm H := by
  have hl : (swapL H i (H.length - 1)).length = H.length := swapL_len ..
  have hne : swapL H i (H.length - 1) ≠ [] := by intro e; rw [e] at hl; simp at hl; omega
  have h1 : (swapL H i (H.length - 1)).getLast hne = hat H i := by
    have := hat_swap (j := H.length - 1) hi (show H.length - 1 < H.length by omega)
    rw [if_pos rfl] at this
    rw [List.getLast_eq_getElem, ← hat_get (by omega)]
    rw [hl]; exact this
  have h2 := List.dropLast_concat_getLast hne
  rw [h1] at h2
  refine List.Perm.trans ?_ (swapL_perm hi (show H.length - 1 < H.length by omega))
  unfold cutL
  conv => rhs; rw [← h2]
  exact (List.perm_append_comm (l₁ := [hat H i])).symm.symm
theorem HeapOK.cut {H : List It} (h : HeapOK H) {i : Nat} (hi : i < H.length - 1) : DnI (cutL H i) i i := by
  have hil : i < H.length := by omega
  refine ⟨by rw [cutL_len]; exact hi, Nat.le_refl _, ?_, ?_⟩
  · intro j hj hj0 hp hor
    rw [cutL_len] at hj
    have hne : j ≠ i := by omega
    have hpj := par_lt hj0
    rw [hat_cut hil hj, hat_cut hil (by omega), if_neg hne, if_neg hp]
    exact h j (by omega) hj0
  · intro j hj hj0 hp hi0
    rw [cutL_len] at hj
    have hpj := par_lt hj0
    have hpi := par_lt hi0
    rw [hat_cut hil hj, hat_cut hil (by omega), if_neg (by omega), if_neg (by omega)]
    have h1 := h j (by omega) hj0
    rw [hp] at h1
    exact ile_trans (h i hil hi0) h1
theorem HeapOK.cut_last {H : List It} (h : HeapOK H) {i : Nat} (hi : i = H.length - 1) (h0 : 0 < H.length) : HeapOK (cutL H i) := by
  intro j hj hj0
  rw [cutL_len] at hj
  have hpj := par_lt hj0
  rw [hat_cut (by omega) hj, hat_cut (by omega) (by omega), if_neg (by omega), if_neg (by omega)]
  exact h j (by omega) hj0
theorem HeapOK.snoc {H : List It} (h : HeapOK H) (x : It) : UpI (H ++ [x]) H.length := by
  have e : ∀ j, j < H.length → hat (H ++ [x]) j = hat H j := fun j hj => by simp [hat, List.getElem?_append_left hj]
  refine ⟨by simp, ?_, ?_⟩
  · intro j hj hj0 hne
    have hj' : j < H.length := by simp at hj; omega
    have := par_lt hj0
    rw [e j hj', e _ (by omega)]
    exact h j hj' hj0
  · intro j hj hj0 hp _
    have := par_lt hj0
    simp at hj
    omega

end Go.Proofs.Ytlilogcojeoelaa
