/- Package slru: what the laws want to know of what a store holds. -/
import Derived.Test.YtekhidibignhbaaSlruK
import Derived.Test.YtekhidibignhbaaRw
import Derived.Deep.Strs
namespace Go.Proofs.Ytekhidibignhbaa
set_option linter.unusedSimpArgs false
set_option linter.unusedVariables false
open Go Go.RowKit

theorem sv_facts {k : Env} {w : World} {b : Nat} {al kp mo : Int} {t kk : List KV} {R : Assn} (h : Sat k w (StoreV b al kp mo t kk * R)) :
    sumV t + sumV kk ≤ al ∧ sumV kk ≤ kp ∧ ((t ++ kk).map (·.1)).Nodup ∧ (t.length : Int) + kk.length ≤ al ∧ al ≤ 1073741824 ∧ (∀ x ∈ t, 1 ≤ x.2) ∧ (∀ x ∈ kk, 1 ≤ x.2) ∧ 0 ≤ sumV t ∧ 0 ≤ sumV kk := by
  obtain ⟨st, T, K, hr, rfl, rfl, rfl, rfl, rfl, hk, _⟩ := sv_open h
  have ht := hr.tot
  simp only [List.append_nil] at ht
  rw [sumA_append] at ht
  have hp := hr.viewPos
  have h3 := sumA_nonneg (A := st.A) (L := T ++ K) (by have := hr.sz; simpa using this)
  rw [sumA_append, List.length_append] at h3
  refine ⟨by rw [sumV_view, sumV_view]; exact ht, hk, ?_, by rw [view_len, view_len]; omega, hr.pa.2.1, hp.1, hp.2, sumV_pos fun x hx => by have := hp.1 x hx; omega, sumV_pos fun x hx => by have := hp.2 x hx; omega⟩
  rw [← view_append]
  have hnd := hr.nd
  rw [List.append_nil] at hnd
  unfold view
  rw [List.map_map]
  show ((T ++ K).map fun i => keyA st.A i).Nodup
  rw [List.Nodup, List.pairwise_map]
  refine List.Pairwise.imp_of_mem ?_ hnd
  intro x y hx hy hxy e
  exact hxy (hr.keys (by simpa using hx) (by simpa using hy) e)

theorem mget_isSome {a : ByteArray} {l : List KV} : (mget a l).isSome = true ↔ a ∈ l.map (·.1) := by
  constructor
  · intro h
    by_cases hm : a ∈ l.map (·.1)
    · exact hm
    · have : mget a l = none := mget_none.2 fun x hx e => hm (by rw [← e]; exact List.mem_map_of_mem hx)
      rw [this] at h; cases h
  · intro h
    cases hg : mget a l with
    | some v => rfl
    | none =>
      obtain ⟨x, hx, e⟩ := List.mem_map.1 h
      exact absurd e (mget_none.1 hg x hx)

theorem backV_perm (kp : Int) (n : Nat) (t k : List KV) : ((backV kp n t k).1 ++ (backV kp n t k).2.1).Perm (t ++ k) := by
  induction n generalizing t k with
  | zero => exact List.Perm.refl _
  | succ n ih =>
    rw [backV]
    split
    · rcases List.eq_nil_or_concat k with rfl | ⟨k1, x, rfl⟩
      · exact List.Perm.refl _
      · rw [List.concat_eq_append]
        simp only [List.getLast?_append, List.getLast?_singleton, Option.some_or, List.dropLast_concat]
        refine (ih (x :: t) k1).trans ?_
        rw [← List.append_assoc]
        exact (List.perm_append_singleton x (t ++ k1)).symm
    · exact List.Perm.refl _

theorem mem_dropV {a x : ByteArray} {l : List KV} : x ∈ (dropV a l).map (·.1) ↔ x ∈ l.map (·.1) ∧ x ≠ a := by
  unfold dropV
  simp only [List.mem_map, List.mem_filter, decide_eq_true_eq]
  constructor
  · rintro ⟨y, ⟨h1, h2⟩, rfl⟩; exact ⟨⟨y, h1, rfl⟩, h2⟩
  · rintro ⟨⟨y, h1, rfl⟩, h2⟩; exact ⟨y, ⟨h1, h2⟩, rfl⟩

theorem touchR_mem (kp : Int) (a : ByteArray) (s : Int) (t k : List KV) : a ∈ ((touchR kp a s t k).1 ++ (touchR kp a s t k).2.1).map (·.1) := by
  unfold touchR
  rw [((backV_perm _ _ _ _).map _).mem_iff]
  unfold touchP
  split <;> simp

section
variable (k : Env) (w : World) (R : Assn) (b : Nat) (al kp mo : Int) (t kk : List KV) (h : Sat k w (StoreV b al kp mo t kk * R))
include h
theorem keys_f : Calls Try.prog 10 #[.pointer (some ⟨b, 0, none⟩), .bool false] w fun e w' => ∃ (a : Option Addr) (c : Nat), e = .returned (.slice a t.length c) ∧ Sat k w' (Own 9 1 (.slice a t.length c) t.length (strs (t.map (·.1))) * (StoreV b al kp mo t kk * R)) := by
  refine (keys_any k w R b al kp mo t kk false h).mono ?_
  rintro e w' ⟨v, rfl, h1⟩
  simp only [Bool.false_eq_true, if_false] at h1
  obtain ⟨a, c, rfl⟩ := own_val h1
  unfold Strs at h1
  rw [List.length_map] at h1 ⊢
  exact ⟨a, c, rfl, h1⟩
theorem keys_t : Calls Try.prog 10 #[.pointer (some ⟨b, 0, none⟩), .bool true] w fun e w' => ∃ (a : Option Addr) (c : Nat), e = .returned (.slice a kk.length c) ∧ Sat k w' (Own 9 1 (.slice a kk.length c) kk.length (strs (kk.map (·.1))) * (StoreV b al kp mo t kk * R)) := by
  refine (keys_any k w R b al kp mo t kk true h).mono ?_
  rintro e w' ⟨v, rfl, h1⟩
  simp only [if_true] at h1
  obtain ⟨a, c, rfl⟩ := own_val h1
  unfold Strs at h1
  rw [List.length_map] at h1 ⊢
  exact ⟨a, c, rfl, h1⟩
theorem bytes_f : Calls Try.prog 13 #[.pointer (some ⟨b, 0, none⟩), .bool false] w fun e w' => e = .returned (.int .i64 (sumV t)) ∧ Sat k w' (StoreV b al kp mo t kk * R) := by
  refine (bytes_any k w R b al kp mo t kk false h).mono ?_
  rintro e w' ⟨rfl, h1⟩
  exact ⟨rfl, h1⟩
theorem bytes_t : Calls Try.prog 13 #[.pointer (some ⟨b, 0, none⟩), .bool true] w fun e w' => e = .returned (.int .i64 (sumV kk)) ∧ Sat k w' (StoreV b al kp mo t kk * R) := by
  refine (bytes_any k w R b al kp mo t kk true h).mono ?_
  rintro e w' ⟨rfl, h1⟩
  exact ⟨rfl, h1⟩
end

def okOp (cs : List Value) : Prop := ∃ (a : Int) (s : ByteArray) (c : Int), cs = [.int .i64 a, .string s, .int .i64 c] ∧ (Lit.int .i64 a).wf = true ∧ s.size ≤ maxLen ∧ (Lit.int .i64 c).wf = true

theorem openOp {H : Type} {enc : TypeId × Value → H} {W : World} {a : Option Addr} {len cap : Nat} {d : DataW H} {p : List MemPlace} {held : Bool}
    (h : DataW.Trod enc Try.prog W 0 (fun _ => true) held 23 (.slice a len cap) d p) : ∃ xs, IsRecs W a len cap 3 okOp xs := by
  refine isRecs_open Try.underlying23 (by kernel_rfl) (fun fuel cs x hx => ?_) h
  obtain ⟨y0, y1, y2, n, _, hl, h0, h1, h2⟩ := Deep.trod_struct3 Try.underlying29 hx
  obtain ⟨a, e0, _, w0⟩ := DataW.trod_int Try.underlying3 h0
  obtain ⟨b, e1, _, w1⟩ := DataW.trod_string Try.underlying9 h1
  obtain ⟨c, e2, _, w2⟩ := DataW.trod_int Try.underlying3 h2
  have hc : Try.prog.cellsOf 29 = 3 := by kernel_rfl
  have hi : Try.prog.cellsOf 3 = 1 := by kernel_rfl
  have hs : Try.prog.cellsOf 9 = 1 := by kernel_rfl
  rw [hc] at hl
  simp only [hi, hs] at e0 e1 e2
  match cs, hl with
  | [c0, c1, c2], _ =>
    simp at e0 e1 e2
    exact ⟨a, b, c, by rw [e0, e1, e2], w0, w1, w2⟩

end Go.Proofs.Ytekhidibignhbaa
