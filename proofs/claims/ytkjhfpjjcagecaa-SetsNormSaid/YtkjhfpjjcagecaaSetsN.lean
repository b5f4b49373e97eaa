/- Plain facts of texts' tokens: how heavy they are. What Parse computes. -/
import Derived.Test.YtkjhfpjjcagecaaSetsL
namespace Go.Proofs.Ytkjhfpjjcagecaa
set_option linter.all false
open Go Go.RowKit

def wt : List Tok → Nat
  | [] => 0
  | x :: r => x.t.size + 1 + wt r
theorem wt_app (l r : List Tok) : wt (l ++ r) = wt l + wt r := by
  induction l with
  | nil => simp [wt]
  | cons x l ih => rw [List.cons_append, wt, wt, ih]; omega
theorem wt_len (l : List Tok) : l.length ≤ wt l := by
  induction l with
  | nil => simp
  | cons x l ih => rw [List.length_cons, wt]; omega
theorem wt_mem {l : List Tok} {x : Tok} (h : x ∈ l) : x.t.size ≤ wt l := by
  induction l with
  | nil => cases h
  | cons y l ih =>
    rw [List.mem_cons] at h
    rw [wt]
    rcases h with rfl | h
    · omega
    · have := ih h; omega
theorem wt_take (l : List Tok) (n : Nat) : wt (l.take n) ≤ wt l := by
  have : wt (l.take n ++ l.drop n) = wt l := by rw [List.take_append_drop]
  rw [wt_app] at this; omega
theorem wt_norm (l : List Tok) : wt (l.map normT) ≤ wt l := by
  induction l with
  | nil => simp [wt]
  | cons x l ih =>
    rw [List.map_cons, wt, wt]
    have : (normT x).t.size ≤ x.t.size := by
      unfold normT
      split
      · show (mk (numL (bl x.t))).size ≤ _
        rw [mk_size]
        have := numL_len (bl x.t)
        rw [bl_len] at this
        exact this
      · exact Nat.le_refl _
    omega
theorem showT_len (x : Tok) : (showT x).length ≤ 2 * x.t.size + 2 := by
  unfold showT
  have h1 := dbl_len 34 (bl x.t)
  have h2 := dbl_len 39 (bl x.t)
  rw [bl_len] at h1 h2
  split
  · omega
  · split
    · omega
    · rw [bl_len]; omega
theorem showR_len (r : List Tok) : (r.flatMap fun y => 32 :: showT y).length ≤ 3 * wt r := by
  induction r with
  | nil => simp
  | cons x r ih =>
    rw [List.flatMap_cons, List.length_append, wt, List.length_cons]
    have := showT_len x
    omega
theorem showL_len (l : List Tok) : (showL l).length ≤ 3 * wt l := by
  cases l with
  | nil => simp [showL]
  | cons x r =>
    have h1 := showT_len x
    have h2 := showR_len r
    unfold showL
    rw [List.length_append, wt]; omega
theorem noSemi_wt (l : List Tok) : wt (noSemi l) ≤ wt l := by
  have : noSemi l = l.take (noSemi l).length := by
    have hp : noSemi l <+: l := by
      unfold noSemi
      have := List.dropWhile_suffix (l := l.reverse) isSemi
      have := List.reverse_prefix.2 this
      rwa [List.reverse_reverse] at this
    exact (List.prefix_iff_eq_take.1 hp)
  rw [this]
  exact wt_take _ _
theorem normL_len (l : List Tok) : (normL l).length ≤ 3 * wt l := by
  have h1 := showL_len ((noSemi l).map normT)
  have h2 := wt_norm (noSemi l)
  have h3 := noSemi_wt l
  unfold normL
  omega
theorem scanF_wt : ∀ (f : Nat) (r : List UInt8) (p : Nat) (acc l : List Tok), scanF f r p acc = .ok l → wt l ≤ wt acc + 2 * r.length
  | 0, _, _, acc, l, h => by rw [scanF] at h; cases h; omega
  | f + 1, [], _, acc, l, h => by rw [scanF] at h; cases h; omega
  | f + 1, c :: r, p, acc, l, h => by
    rw [scanF] at h
    split at h
    · have := scanF_wt f _ _ _ _ h
      simp at this ⊢; omega
    · split at h
      · have := scanF_wt f _ _ _ _ h
        rw [List.length_drop] at this
        simp at this ⊢; omega
      · split at h
        · split at h
          · have := scanF_wt f _ _ _ _ h
            rw [List.length_drop] at this
            simp at this ⊢; omega
          · cases h
        · split at h
          · rename_i k t n ho
            have h1 := oneL_range ho
            have := scanF_wt f _ _ _ _ h
            rw [List.length_drop, wt_app] at this
            simp only [wt, mk_size] at this
            simp at this h1 ⊢; omega
          · cases h
          · cases h
theorem scanF_err : ∀ (f : Nat) (r : List UInt8) (p : Nat) (acc : List Tok) (e : Int) (a : Nat), scanF f r p acc = .err e a → e = 6 ∨ e = 7
  | 0, _, _, acc, e, a, h => by rw [scanF] at h; cases h
  | f + 1, [], _, acc, e, a, h => by rw [scanF] at h; cases h
  | f + 1, c :: r, p, acc, e, a, h => by
    rw [scanF] at h
    split at h
    · exact scanF_err f _ _ _ _ _ h
    · split at h
      · exact scanF_err f _ _ _ _ _ h
      · split at h
        · split at h
          · exact scanF_err f _ _ _ _ _ h
          · cases h; exact .inl rfl
        · split at h
          · exact scanF_err f _ _ _ _ _ h
          · cases h; exact .inl rfl
          · cases h; exact .inr rfl
theorem scanB_wt {s : ByteArray} {l : List Tok} (h : scanB s = .ok l) : wt l ≤ 4000 := by
  unfold scanB at h
  split at h
  · cases h
  · have := scanF_wt _ _ _ _ _ h
    rw [bl_len] at this
    simp only [wt] at this
    omega
theorem scanB_err {s : ByteArray} {e : Int} {a : Nat} (h : scanB s = .err e a) : e = 2 ∨ e = 6 ∨ e = 7 := by
  unfold scanB at h
  split at h
  · cases h; exact .inl rfl
  · exact .inr (scanF_err _ _ _ _ _ _ h)
theorem splitL_wt (n : Nat) : ∀ (l now : List Tok) (out : List (List Tok)), wt now + wt l ≤ n → (∀ x ∈ out, wt x ≤ n) → ∀ x ∈ splitL l now out, wt x ≤ n
  | [], now, out, h, ho, x, hx => by
    rw [splitL] at hx
    split at hx
    · exact ho x hx
    · rw [List.mem_append, List.mem_singleton] at hx
      rcases hx with hx | rfl
      · exact ho x hx
      · simp only [wt] at h; omega
  | y :: r, now, out, h, ho, x, hx => by
    rw [splitL] at hx
    rw [wt] at h
    split at hx
    · refine splitL_wt n r [] _ (by simp only [wt]; omega) ?_ x hx
      intro z hz
      split at hz
      · exact ho z hz
      · rw [List.mem_append, List.mem_singleton] at hz
        rcases hz with hz | rfl
        · exact ho z hz
        · omega
    · exact splitL_wt n r (now ++ [y]) out (by rw [wt_app]; simp only [wt]; omega) ho x hx

/-- What is known of a statement. -/
structure St7 where
  cl : Int
  rs : List ByteArray
  ws : List ByteArray
  nm : ByteArray
def noSt : St7 := ⟨0, [], [], ⟨#[]⟩⟩
def ofS (l : List Tok) : St7 := ⟨classL l, ofR l, ofW l, mk (normL l)⟩
abbrev StW (v : Value) (x : St7) : Assn := StV v x.cl x.rs x.ws x.nm
def parL (L : List (List Tok)) : St7 × Int := match L with
  | [] => (ofS [], 0)
  | [x] => (ofS x, 0)
  | _ :: _ :: _ => (noSt, 4)
def parS (s : ByteArray) : St7 × Int := match scanB s with
  | .err e _ => (noSt, e)
  | .ok l => parL (splitL l [] [])
theorem readsL_len (l : List Tok) : (readsL l).length ≤ l.length * (l.length + 1) := by
  have h1 := putL_len (rAll l l.length) []
  have h2 := rAll_len l l.length
  unfold readsL sortL
  simp only [List.length_nil] at h1
  omega
theorem writesS_len (l : List Tok) : (writesS l).length ≤ l.length * (l.length + 1) := by
  have h1 := putL_len (wAll l l.length) []
  have h2 := wAll_len l l.length
  unfold writesS sortL
  simp only [List.length_nil] at h1
  omega
/-- So few names. -/
def few (x : St7) : Prop := x.rs.length ≤ 500000000 ∧ x.ws.length ≤ 500000000
theorem few_no : few noSt := ⟨by simp [noSt], by simp [noSt]⟩
theorem few_of (l : List Tok) (h : l.length ≤ 20000) : few (ofS l) := by
  have h1 := readsL_len l
  have h2 := writesS_len l
  have h3 : l.length * (l.length + 1) ≤ 20000 * 20001 := Nat.mul_le_mul h (by omega)
  refine ⟨?_, ?_⟩
  · show (ofR l).length ≤ _
    unfold ofR
    split
    · omega
    · simp
  · show (ofW l).length ≤ _
    unfold ofW
    split
    · omega
    · simp
theorem few_par (s : ByteArray) : few (parS s).1 := by
  unfold parS
  split
  · exact few_no
  · rename_i l hl
    have hw := scanB_wt hl
    have hp := splitL_wt 4000 l [] [] (by simp only [wt]; omega) (by simp)
    unfold parL
    split
    · exact few_of _ (by simp)
    · rename_i x hx
      refine few_of x ?_
      have := hp x (by rw [hx]; simp)
      have := wt_len x
      omega
    · exact few_no

end Go.Proofs.Ytkjhfpjjcagecaa
