/- Contracts of package line: the representation, New, there, Place, Join, cut. -/
import Derived.Test.YticponkpgaofnaaProg
import Derived.Test.YticponkpgaofnaaOwn
namespace Go.Proofs.Yticponkpgaofnaa
set_option linter.all false
open Go Go.RowKit

abbrev Sp := Int × Int
def spc (s : Sp) : List Value := [.int .i64 s.1, .int .i64 s.2]
def spcs (l : List Sp) : List Value := l.flatMap spc

theorem spcs_len (l : List Sp) : (spcs l).length = l.length * 2 := by
  induction l with
  | nil => rfl
  | cons s r ih => simp only [spcs, List.flatMap_cons, List.length_append, List.length_cons] at *; rw [ih]; simp [spc]; omega

theorem spcs_append (l r : List Sp) : spcs (l ++ r) = spcs l ++ spcs r := by simp [spcs]

theorem spcs_get (l : List Sp) (i : Nat) (h : i < l.length) : (spcs l)[i * 2]? = some (.int .i64 l[i].1) ∧ (spcs l)[i * 2 + 1]? = some (.int .i64 l[i].2) := by
  induction l generalizing i with
  | nil => simp at h
  | cons s r ih =>
    cases i with
    | zero => simp [spcs, spc]
    | succ i =>
      have := ih i (by simpa using h)
      have e1 : (i + 1) * 2 = i * 2 + 1 + 1 := by omega
      simp only [spcs, List.flatMap_cons, spc, List.cons_append, List.nil_append] at *
      rw [e1]
      simpa using this

theorem spcs_one (l : List Sp) : ∀ u ∈ spcs l, u.oneCell' = true := by
  intro u hu
  simp only [spcs, List.mem_flatMap, spc, List.mem_cons, List.not_mem_nil, or_false] at hu
  obtain ⟨s, _, rfl | rfl⟩ := hu <;> rfl

theorem spcs_take (l : List Sp) (i : Nat) : (spcs l).take (i * 2) = spcs (l.take i) := by
  induction l generalizing i with
  | nil => simp [spcs]
  | cons s r ih =>
    cases i with
    | zero => simp [spcs]
    | succ i =>
      have e1 : (i + 1) * 2 = i * 2 + 1 + 1 := by omega
      have := ih i
      simp only [spcs, List.flatMap_cons, spc, List.cons_append, List.nil_append, List.take_succ_cons] at *
      rw [e1, List.take_succ_cons, List.take_succ_cons, this]

theorem spcs_drop (l : List Sp) (i : Nat) : (spcs l).drop (i * 2) = spcs (l.drop i) := by
  induction l generalizing i with
  | nil => simp [spcs]
  | cons s r ih =>
    cases i with
    | zero => simp [spcs]
    | succ i =>
      have e1 : (i + 1) * 2 = i * 2 + 1 + 1 := by omega
      have := ih i
      simp only [spcs, List.flatMap_cons, spc, List.cons_append, List.nil_append, List.drop_succ_cons] at *
      rw [e1, List.drop_succ_cons, List.drop_succ_cons, this]

theorem TSpot : SliceT Try.prog 80 84 (.agg #[.int .i64 0, .int .i64 0]) 2 16 := ⟨by kernel_rfl, by kernel_rfl, rfl, by decide⟩

def LineR (b : Nat) (sp : List Sp) (most : Int) : Assn :=
  ex fun v => pur (0 < most ∧ most ≤ 10000 ∧ (sp.length : Int) ≤ most) * (blk b (.cells #[v, .int .i64 most] 82 (0, 0)) * Own 84 2 v sp.length (spcs sp))

section
variable {k : Env} {w : World} {b : Nat} {sp : List Sp} {most : Int} {R : Assn}

theorem line_open (h : Sat k w (LineR b sp most * R)) :
    ∃ a cap, 0 < most ∧ most ≤ 10000 ∧ (sp.length : Int) ≤ most ∧ Sat k w (Own 84 2 (.slice a sp.length cap) sp.length (spcs sp) * (blk b (.cells #[.slice a sp.length cap, .int .i64 most] 82 (0, 0)) * R)) := by
  obtain ⟨v, h⟩ := Sat.ex.1 h
  simp only [star_assoc] at h
  obtain ⟨⟨a, b, c⟩, h⟩ := Sat.pure.1 h
  rw [star_left_comm] at h
  obtain ⟨a', cap, rfl⟩ := own_val h
  exact ⟨a', cap, a, b, c, h⟩

theorem line_close {v : Value} {n : Nat} {xs : List Value} (h : Sat k w (Own 84 2 v n xs * (blk b (.cells #[v, .int .i64 most] 82 (0, 0)) * R)))
    (hn : n = sp.length) (hx : xs = spcs sp) (h0 : 0 < most) (h1 : most ≤ 10000) (h2 : (sp.length : Int) ≤ most) : Sat k w (LineR b sp most * R) := by
  subst hn; subst hx
  rw [star_left_comm] at h
  exact Sat.ex.2 ⟨v, by simp only [star_assoc]; exact Sat.pure.2 ⟨⟨h0, h1, h2⟩, h⟩⟩

theorem spot_get {E : TypeId} {a : Option Addr} {n cap : Nat} (h : Sat k w (Own E 2 (.slice a n cap) n (spcs sp) * R)) (j : Nat) (hj : j < sp.length) :
    ∃ g, a = some ⟨g, 0, none⟩ ∧ g < w.heap.size ∧ w.cell? ⟨g, j * 2, none⟩ = some (.int .i64 sp[j].1) ∧ w.cell? ⟨g, j * 2 + 1, none⟩ = some (.int .i64 sp[j].2) := by
  have hl := own_len h
  rw [spcs_len] at hl
  obtain ⟨g, rfl, hg, hc, _⟩ := own_get h (by omega)
  obtain ⟨q1, q2⟩ := spcs_get sp j hj
  exact ⟨g, rfl, hg, (hc _ (by omega)).trans q1, (hc _ (by omega)).trans q2⟩
end

theorem there_any (w : World) (b : Nat) (most : Int) (hm : 0 < most) (h : w.cell? ⟨b, 1, none⟩ = some (.int .i64 most)) :
    Calls Try.prog 36 #[.pointer (some ⟨b, 0, none⟩)] w fun e w' => e = .returned (.bool true) ∧ w = w' := by
  go_enter Try.func36, Try.ntmps36
  go_wp2
  go_ret
  exact ⟨rfl, rfl⟩
theorem there_zero (w : World) (b : Nat) (h : w.cell? ⟨b, 1, none⟩ = some (.int .i64 0)) :
    Calls Try.prog 36 #[.pointer (some ⟨b, 0, none⟩)] w fun e w' => e = .returned (.bool false) ∧ w = w' := by
  go_enter Try.func36, Try.ntmps36
  go_wp2
  go_ret
  exact ⟨rfl, rfl⟩
theorem there_nil (w : World) :
    Calls Try.prog 36 #[.pointer none] w fun e w' => e = .returned (.bool false) ∧ w = w' := by
  go_enter Try.func36, Try.ntmps36
  go_wp2
  go_ret
  exact ⟨rfl, rfl⟩

theorem new_bad (w : World) (most : Int) (h : most < 1 ∨ 10000 < most) :
    Calls Try.prog 35 #[.int .i64 most] w fun e w' => e = .returned (.tuple #[.pointer none, .int .i64 1]) ∧ w = w' := by
  rcases h with h | h
  · go_enter Try.func35, Try.ntmps35
    go_wp2
    go_ret2
    exact ⟨rfl, rfl⟩
  · have h' : ¬ most < 1 := by omega
    go_enter Try.func35, Try.ntmps35
    go_wp2
    go_ret2
    exact ⟨rfl, rfl⟩
theorem new_any (k : Env) (w : World) (R : Assn) (most : Int) (h0 : 1 ≤ most) (h1 : most ≤ 10000) (h : Sat k w R) :
    Calls Try.prog 35 #[.int .i64 most] w fun e w' => ∃ b, e = .returned (.tuple #[.pointer (some ⟨b, 0, none⟩), .int .i64 0]) ∧ Sat k w' (LineR b [] most * R) := by
  have h0' : ¬ most < 1 := by omega
  have h1' : ¬ 10000 < most := by omega
  go_enter Try.func35, Try.ntmps35
  go_wp2
  go_ret2
  exact ⟨_, rfl, line_close (own_nil (h.alloc _)) rfl rfl (by omega) h1 (by simp; omega)⟩

def plc (id : Int) : List Sp → Nat → Int
  | [], _ => -1
  | s :: r, i => if s.1 = id then i else plc id r (i + 1)

theorem plc_drop (id : Int) (l : List Sp) (j : Nat) (h : j < l.length) : plc id (l.drop j) j = if l[j].1 = id then (j : Int) else plc id (l.drop (j + 1)) (j + 1) := by
  rw [List.drop_eq_getElem_cons h, plc]

theorem ret_int {k : IntKind} {a b : Int} (h : a = b) : Ending.returned (.int k a) = .returned (.int k b) := by rw [h]

set_option maxHeartbeats 400000 in
theorem place_any (k : Env) (w : World) (R : Assn) (b : Nat) (sp : List Sp) (most id : Int) (h : Sat k w (LineR b sp most * R)) :
    Calls Try.prog 34 #[.pointer (some ⟨b, 0, none⟩), .int .i64 id] w fun e w' => e = .returned (.int .i64 (plc id sp 0)) ∧ Sat k w' (LineR b sp most * R) := by
  obtain ⟨a, cap, hm0, hm1, hlen, hs⟩ := line_open h
  have hs' := hs.drop
  have c1 := hs'.cell 1
  have c0 := hs'.cell 0
  simp at c0 c1
  go_enter Try.func34, Try.ntmps34
  go_wp2_with (go_at_call 36; refine (there_any _ _ _ hm0 c1).mono ?_; rintro e w' ⟨rfl, rfl⟩)
  go_loopw [5, 6, 14] (fun _ _ i wr => ∃ j : Nat, j ≤ sp.length ∧ i = .int .i64 j ∧ plc id sp 0 = plc id (sp.drop j) j ∧ Sat k wr (Own 84 2 (.slice a sp.length cap) sp.length (spcs sp) * (blk b (.cells #[.slice a sp.length cap, .int .i64 most] 82 (0, 0)) * R))) (fun _ _ i _ => sp.length - (intOf i).toNat)
  case atStart => exact ⟨0, Nat.zero_le _, rfl, rfl, hs⟩
  case round =>
    obtain ⟨j, hj, rfl, hp, hr⟩ := hrel
    by_cases hlt : j < sp.length
    · obtain ⟨g, rfl, hg, d0, d1⟩ := spot_get hr j hlt
      have Hp := Lib.hid hp
      clear hp
      go_wp2
      · go_ret
        rename_i hq
        refine ⟨ret_int ?_, line_close (hr.alloc _).drop rfl rfl hm0 hm1 hlen⟩
        rw [Hp.out, plc_drop _ _ _ hlt, if_pos (by simpa using hq)]
      · rename_i hq
        go_roundw
        case rel => exact ⟨j + 1, by omega, by go_num, by rw [Hp.out, plc_drop _ _ _ hlt, if_neg (by simpa using hq)], (hr.alloc _).drop⟩
        case measure => simp [intOf]; omega
    · obtain rfl : j = sp.length := by omega
      have Hp := Lib.hid hp
      clear hp
      go_wp2
      go_ret
      exact ⟨ret_int (by rw [Hp.out]; simp [plc]), line_close hr rfl rfl hm0 hm1 hlen⟩

end Go.Proofs.Yticponkpgaofnaa
