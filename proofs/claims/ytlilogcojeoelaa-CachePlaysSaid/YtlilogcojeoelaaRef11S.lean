/- Contracts of the document's queue of deadlines (pontoonref11): Set. -/
import Derived.Test.YtlilogcojeoelaaRef11
namespace Go.Proofs.Ytlilogcojeoelaa
set_option linter.all false
open Go Go.RowKit

/-- A key with its deadline, behind all that are not later. -/
def insQ (l : List KV) (x : KV) : List KV := l.takeWhile (fun y => decide (y.2 ≤ x.2)) ++ x :: l.dropWhile (fun y => decide (y.2 ≤ x.2))
theorem insQ_at {l : List KV} {x : KV} {j : Nat} (h1 : ∀ y ∈ l.take j, y.2 ≤ x.2) (h2 : ∀ hj : j < l.length, ¬ l[j].2 ≤ x.2) : insQ l x = l.take j ++ x :: l.drop j := by
  induction l generalizing j with
  | nil => simp [insQ]
  | cons y r ih =>
    cases j with
    | zero =>
      have := h2 (by simp)
      simp at this
      simp [insQ, this]
    | succ j =>
      have hy : y.2 ≤ x.2 := h1 y (by simp)
      have := ih (j := j) (fun z hz => h1 z (by simp [hz])) (fun hj => by have := h2 (by simpa using hj); simpa using this)
      unfold insQ at *
      simp [hy, this]

theorem it_tail {k : Env} {w : World} {l : List KV} {R : Assn} {g c : Nat} (j : Nat) (h : Sat k w (Its (.slice (some ⟨g, 0, none⟩) l.length c) l * R)) (hj : 0 < l.length) :
    ∀ i u, (EKV.recs (l.drop j))[i]? = some u → w.cell? ((⟨g, j * 2, none⟩ : Addr).add i) = some u := by
  obtain ⟨ad, e, hs⟩ := own_src h hj
  simp only [Option.some.injEq] at e
  subst e
  intro i u hu
  rw [← EKV.recs_drop, List.getElem?_drop] at hu
  have := hs _ u hu
  rw [Addr.add_lit] at this ⊢
  rw [Nat.zero_add] at this
  exact this
theorem its_of {k : Env} {w : World} {R : Assn} {v : Value} {n : Nat} {xs : List Value} {L : List KV} (h : Sat k w (Own 143 2 v n xs * R)) (hn : n = L.length) (hx : xs = EKV.recs L) : Sat k w (Its v L * R) := by
  subst hn hx; exact h
theorem rqset_bad (w : World) (b : Nat) (s : ByteArray) (t : Int) (h : t < 0 ∨ 1099511627776 < t) :
    Calls Try.prog 56 #[.pointer (some ⟨b, 0, none⟩), .string s, .int .i64 t] w fun e w' => e = .returned (.int .i64 1) ∧ w = w' := by
  have h2 : t < 0 ∨ (¬ t < 0 ∧ 1099511627776 < t) := by omega
  clear h
  rcases h2 with h2 | ⟨h2, h3⟩
  all_goals
    go_enter Try.func56, Try.ntmps56
    go_wp2
    go_ret
    exact ⟨rfl, rfl⟩

set_option maxRecDepth 100000 in
set_option maxHeartbeats 2000000 in
theorem rqset_any (k : Env) (w : World) (R : Assn) (b : Nat) (l : List KV) (s : ByteArray) (t : Int) (ht : 0 ≤ t) (ht2 : t ≤ 1099511627776) (hb : (l.length : Int) ≤ 4294967296) (h : Sat k w (Q11 b l * R)) :
    Calls Try.prog 56 #[.pointer (some ⟨b, 0, none⟩), .string s, .int .i64 t] w fun e w' => e = .returned (.int .i64 0) ∧ Sat k w' (Q11 b (insQ (dropV s l) (s, t)) * R) := by
  have hll := dropV_len s l
  have C := Lib.hid (rqdrop_any k w R b l s hb h)
  clear h
  go_enter Try.func56, Try.ntmps56
  go_wp2_with (go_at_call 85; (with_reducible refine C.out.mono ?_); rintro e w1 ⟨rfl, h1⟩)
  clear C
  obtain ⟨l1, hl1⟩ : ∃ l1, dropV s l = l1 := ⟨_, rfl⟩
  have HL := Lib.hid hl1
  rw [hl1] at h1 hll
  clear hl1
  obtain ⟨a, c, h1⟩ := q11_open h1
  go_loopw [7, 8] (fun v i wr => ∃ (j : Nat) (p : List KV), j ≤ l1.length ∧ i = .int .i64 j ∧ Hid (l1.take j = p) ∧ (p.length : Int) ≤ 4294967296 ∧ Hid (∀ y ∈ l1.take j, y.2 ≤ t) ∧ Sat k wr (Its v p * (blk b (.cells #[.slice a l1.length c] 102 (0, 0)) * (Its (.slice a l1.length c) l1 * R)))) (fun _ i _ => l1.length - (intOf i).toNat)
  case atStart => exact ⟨0, [], Nat.zero_le _, rfl, rfl, by simp, (fun y hy => by simp at hy), rec_nil h1⟩
  case round =>
    clear h1
    obtain ⟨j, p, hj, rfl, HPL, hpl, HP, hr⟩ := hrel
    have d0 : wr.cell? ⟨b, 0, none⟩ = some (.slice a l1.length c) := hr.swap.cell 0
    have hcap := rec_cap hr.get3
    obtain ⟨va, vc, rfl⟩ := rec_val hr
    by_cases hlt : j < l1.length
    · obtain ⟨g, rfl, hg, e0, e1⟩ := it_get hr.get3 j hlt
      have HU := Lib.hid (List.take_succ_eq_append_getElem hlt)
      have hlt' : (j : Int) < l1.length := by omega
      by_cases hq : l1[j].2 ≤ t
      · have HP2 : Hid (∀ y ∈ l1.take (j + 1), y.2 ≤ t) := by
          intro y hy
          rw [HU.out] at hy
          rcases List.mem_append.1 hy with hy | hy
          · exact HP.out y hy
          · simp at hy; subst hy; exact hq
        go_wp2_with (at_builtin; refine wpList_append_sat TIt11 (hr.alloc' _) (.tmp 37) (.tmp 45) _ 1 1 [.string l1[j].1, .int .i64 l1[j].2] rfl rfl rfl rfl rfl (fun _ => ⟨_, rfl, new_cells_at _ _ _ _ (by first | rfl | simp)⟩) (EKV.one (_, _)) (by simp [maxLen]; omega) (by omega) ?_; intro a3 c3 w3 h3)
        go_roundw
        case rel => exact ⟨j + 1, p ++ [l1[j]], by omega, by go_num, by unfold Hid; rw [HU.out, HPL.out], by have := congrArg List.length HPL.out; simp at this ⊢; omega, HP2, rec_push h3⟩
        case measure => simp [intOf]; omega
      · have HQ : Hid (insQ l1 (s, t) = p ++ (s, t) :: l1.drop j) := by
          have := insQ_at (x := (s, t)) HP.out (fun _ => hq)
          rw [HPL.out] at this
          exact this
        have hlen : (EKV.recs (l1.drop j)).length = (l1.length - j) * 2 := by rw [EKV.recs_len, List.length_drop]; rfl
        have HLEN := Lib.hid hlen
        clear hlen
        go_wp2_with (first | (at_builtin; refine wpList_append_sat TIt11 (hr.alloc' _) (.tmp 49) (.tmp 53) _ 1 1 [.string s, .int .i64 t] rfl rfl rfl rfl rfl (fun _ => ⟨_, rfl, new_cells_at _ _ _ _ (by first | rfl | simp)⟩) (EKV.one (_, _)) (by simp [maxLen]; omega) (by omega) ?_; intro a3 c3 w3 h3; have d1 : w3.cell? ⟨b, 0, none⟩ = some (.slice (some ⟨g, 0, none⟩) l1.length c) := h3.swap.cell 0) | (at_builtin; refine wpList_append_sat TIt11 h3 (.tmp 55) (.tmp 61) (some ⟨g, j * 2, none⟩) (l1.length - j) (c - j) (EKV.recs (l1.drop j)) rfl rfl rfl rfl HLEN.out (fun _ => ⟨_, rfl, it_tail j h3.get3 (by omega)⟩) (EKV.recs_ones _) (by simp [maxLen]; omega) (by omega) ?_; intro a4 c4 w4 h4; have d2 : w4.cell? ⟨b, 0, none⟩ = some (.slice (some ⟨g, 0, none⟩) l1.length c) := h4.swap.cell 0; have df := h4.swap.frozen))
        have h5 := h4.swap.set 0 (.slice a4 (p.length + 1 + (l1.length - j)) c4)
        go_ret
        rw [HL.out, HQ.out]
        exact ⟨rfl, q11_close ((its_of h5.swap (by simp; omega) (by simp [Enc.recs, EKV])).swap.drop3) rfl⟩
    · have hjl : j = l1.length := by omega
      subst hjl
      have HQ : Hid (insQ l1 (s, t) = p ++ [(s, t)]) := by
        have := insQ_at (x := (s, t)) HP.out (fun h => absurd h (Nat.lt_irrefl _))
        rw [HPL.out, List.drop_length] at this
        exact this
      rcases own_block hr.get3 with ⟨q1, q2, q3, _⟩ | ⟨g, cur, q2, _⟩
      · subst q1
        obtain rfl : l1 = [] := List.length_eq_zero_iff.1 q2
        obtain rfl : c = 0 := q3
        go_wp2_with (first | (at_builtin; refine wpList_append_sat TIt11 (hr.alloc' _) (.tmp 49) (.tmp 53) _ 1 1 [.string s, .int .i64 t] rfl rfl rfl rfl rfl (fun _ => ⟨_, rfl, new_cells_at _ _ _ _ (by first | rfl | simp)⟩) (EKV.one (_, _)) (by simp [maxLen]; omega) (by omega) ?_; intro a3 c3 w3 h3; have d1 : w3.cell? ⟨b, 0, none⟩ = some (.slice none 0 0) := h3.swap.cell 0) | (at_builtin; refine wpList_append_sat TIt11 h3 (.tmp 55) (.tmp 61) _ 0 _ [] rfl rfl rfl rfl rfl (fun h => absurd h (Nat.lt_irrefl 0)) (fun u hu => by simp at hu) (by simp [maxLen]; omega) (by omega) ?_; intro a4 c4 w4 h4; have d2 : w4.cell? ⟨b, 0, none⟩ = some (.slice none 0 0) := h4.swap.cell 0; have df := h4.swap.frozen))
        have h5 := h4.swap.set 0 (.slice a4 (p.length + 1) c4)
        go_ret
        rw [HL.out, HQ.out]
        exact ⟨rfl, q11_close ((its_of h5.swap (by simp) (by simp [Enc.recs, EKV])).swap.drop3) rfl⟩
      · subst q2
        have hsr : (l1.length : Int) ≤ c := by have := hcap.1; omega
        go_wp2_with (first | (at_builtin; refine wpList_append_sat TIt11 (hr.alloc' _) (.tmp 49) (.tmp 53) _ 1 1 [.string s, .int .i64 t] rfl rfl rfl rfl rfl (fun _ => ⟨_, rfl, new_cells_at _ _ _ _ (by first | rfl | simp)⟩) (EKV.one (_, _)) (by simp [maxLen]; omega) (by omega) ?_; intro a3 c3 w3 h3; have d1 : w3.cell? ⟨b, 0, none⟩ = some (.slice (some ⟨g, 0, none⟩) l1.length c) := h3.swap.cell 0) | (at_builtin; refine wpList_append_sat TIt11 h3 (.tmp 55) (.tmp 61) _ 0 _ [] rfl rfl rfl rfl rfl (fun h => absurd h (Nat.lt_irrefl 0)) (fun u hu => by simp at hu) (by simp [maxLen]; omega) (by omega) ?_; intro a4 c4 w4 h4; have d2 : w4.cell? ⟨b, 0, none⟩ = some (.slice (some ⟨g, 0, none⟩) l1.length c) := h4.swap.cell 0; have df := h4.swap.frozen))
        all_goals
          have h5 := h4.swap.set 0 (.slice a4 (p.length + 1) c4)
          go_ret
          rw [HL.out, HQ.out]
          exact ⟨rfl, q11_close ((its_of h5.swap (by simp) (by simp [Enc.recs, EKV])).swap.drop3) rfl⟩

end Go.Proofs.Ytlilogcojeoelaa
