/- Package slru: stores that are not there; texts compared; the fixed calls of the laws. -/
import Derived.Test.YtekhidibignhbaaSlruI
namespace Go.Proofs.Ytekhidibignhbaa
set_option linter.unusedSimpArgs false
set_option linter.unusedVariables false
open Go Go.RowKit

set_option maxHeartbeats 1000000 in
theorem texts_eq (k : Env) (w : World) (R : Assn) (v1 v2 : Value) (l1 l2 : List ByteArray) (h : Sat k w (Strs v1 l1 * (Strs v2 l2 * R))) :
    Calls Try.prog 15 #[v1, v2] w fun e w' => e = .returned (.bool (decide (l1 = l2))) ∧ Sat k w' (Strs v1 l1 * (Strs v2 l2 * R)) := by
  obtain ⟨a1, c1, rfl⟩ := own_val h
  obtain ⟨a2, c2, rfl⟩ := own_val h.swap
  have hb1 := own_cap h
  have hb2 := own_cap h.swap
  unfold maxLen at hb1 hb2
  by_cases hl : l1.length = l2.length
  · have hlb : (((l1.length : Nat) : Int) != (l2.length : Nat)) = false := by simp [hl]
    have HL := Lib.hid hl
    clear hl
    go_enter Try.func15, Try.ntmps15
    go_wp2
    go_loopw [5] (fun i wr => ∃ j : Nat, j ≤ l1.length ∧ i = .int .i64 j ∧ Hid (l1.take j = l2.take j) ∧ Sat k wr (Strs (.slice a1 l1.length c1) l1 * (Strs (.slice a2 l2.length c2) l2 * R))) (fun i _ => l1.length - (intOf i).toNat)
    case atStart => exact ⟨0, Nat.zero_le _, rfl, rfl, h⟩
    case round =>
      obtain ⟨j, hj, rfl, HT, hr⟩ := hrel
      by_cases hlt : j < l1.length
      · have hlt2 : j < l2.length := by rw [← HL.out]; exact hlt
        obtain ⟨g1, rfl, hg1, d1⟩ := strs_get hr j hlt
        obtain ⟨g2, rfl, hg2, d2⟩ := strs_get hr.swap j hlt2
        have q1 : (j : Int) < l1.length := by omega
        have q2 : (j : Int) < l2.length := by omega
        by_cases hq : l1[j] = l2[j]
        · have hqc : (l1[j].toList == l2[j].toList) = true := by rw [tl_beq]; simp [hq]
          have HQ := Lib.hid hq
          clear hq
          go_wp2_with fail
          go_quiet (fail)
          go_wp2
          go_roundw
          case rel => exact ⟨j + 1, by omega, by go_num, by unfold Hid; rw [List.take_succ_eq_append_getElem hlt, List.take_succ_eq_append_getElem hlt2, HT.out, HQ.out], hr.drewN _⟩
          case measure => simp [intOf]; omega
        · have hqc : (l1[j].toList == l2[j].toList) = false := by rw [tl_beq]; simp [hq]
          have hd : decide (l1 = l2) = false := by
            rw [decide_eq_false_iff_not]; intro he; exact hq (by simp [he])
          clear hq
          go_wp2_with fail
          go_quiet (fail)
          go_wp2
          go_ret
          exact ⟨by rw [hd]; rfl, hr.drewN _⟩
      · obtain rfl : j = l1.length := by omega
        have hd : decide (l1 = l2) = true := by
          have h1 := HT.out
          rw [List.take_length, HL.out, List.take_length] at h1
          simp [h1]
        clear hlb
        go_wp2_with fail
        go_ret
        exact ⟨by rw [hd]; rfl, hr⟩
  · have hlb : (((l1.length : Nat) : Int) != (l2.length : Nat)) = true := by rw [bne_iff_ne]; omega
    have hd : decide (l1 = l2) = false := by
      rw [decide_eq_false_iff_not]; intro he; exact hl (by simp [he])
    rw [hd]
    clear hl hd
    go_enter Try.func15, Try.ntmps15
    go_wp2
    go_ret
    exact ⟨rfl, h⟩

section
variable (w : World) (a : ByteArray) (s : Int) (q : Bool)
theorem put_nil : Calls Try.prog 9 #[.pointer none, .string a, .int .i64 s] w fun e w' => e = .returned (.tuple #[.slice none 0 0, .int .i64 12]) ∧ w = w' := by
  go_enter Try.func9, Try.ntmps9
  go_wp2_with (go_at_call 25; refine (sthere_nil _).mono ?_; rintro e w' ⟨rfl, rfl⟩)
  go_ret2
  exact ⟨rfl, rfl⟩
theorem touch_nil : Calls Try.prog 12 #[.pointer none, .string a] w fun e w' => e = .returned (.tuple #[.slice none 0 0, .bool false]) ∧ w = w' := by
  go_enter Try.func12, Try.ntmps12
  go_wp2_with (go_at_call 25; refine (sthere_nil _).mono ?_; rintro e w' ⟨rfl, rfl⟩)
  go_ret2
  exact ⟨rfl, rfl⟩
theorem has_nil : Calls Try.prog 11 #[.pointer none, .string a] w fun e w' => e = .returned (.tuple #[.int .i64 0, .bool false]) ∧ w = w' := by
  go_enter Try.func11, Try.ntmps11
  go_wp2_with (go_at_call 25; refine (sthere_nil _).mono ?_; rintro e w' ⟨rfl, rfl⟩)
  go_ret2
  exact ⟨rfl, rfl⟩
theorem drop_nil : Calls Try.prog 16 #[.pointer none, .string a] w fun e w' => e = .returned (.bool false) ∧ w = w' := by
  go_enter Try.func16, Try.ntmps16
  go_wp2_with (go_at_call 25; refine (sthere_nil _).mono ?_; rintro e w' ⟨rfl, rfl⟩)
  go_ret
  exact ⟨rfl, rfl⟩
theorem keys_nil : Calls Try.prog 10 #[.pointer none, .bool q] w fun e w' => e = .returned (.slice none 0 0) ∧ w = w' := by
  go_enter Try.func10, Try.ntmps10
  go_wp2_with (go_at_call 25; refine (sthere_nil _).mono ?_; rintro e w' ⟨rfl, rfl⟩)
  go_ret
  exact ⟨rfl, rfl⟩
theorem bytes_nil : Calls Try.prog 13 #[.pointer none, .bool q] w fun e w' => e = .returned (.int .i64 0) ∧ w = w' := by
  go_enter Try.func13, Try.ntmps13
  go_wp2_with (go_at_call 25; refine (sthere_nil _).mono ?_; rintro e w' ⟨rfl, rfl⟩)
  go_ret
  exact ⟨rfl, rfl⟩
theorem copy_nil : Calls Try.prog 21 #[.pointer none] w fun e w' => e = .returned (.pointer none) ∧ w = w' := by
  go_enter Try.func21, Try.ntmps21
  go_wp2_with (go_at_call 25; refine (sthere_nil _).mono ?_; rintro e w' ⟨rfl, rfl⟩)
  go_ret
  exact ⟨rfl, rfl⟩
theorem put_zero {b : Nat} (h : w.cell? ⟨b, 2, none⟩ = some (.map none)) : Calls Try.prog 9 #[.pointer (some ⟨b, 0, none⟩), .string a, .int .i64 s] w fun e w' => e = .returned (.tuple #[.slice none 0 0, .int .i64 12]) ∧ w = w' := by
  go_enter Try.func9, Try.ntmps9
  go_wp2_with (go_at_call 25; refine (sthere_zero _ _ h).mono ?_; rintro e w' ⟨rfl, rfl⟩)
  go_ret2
  exact ⟨rfl, rfl⟩
theorem touch_zero {b : Nat} (h : w.cell? ⟨b, 2, none⟩ = some (.map none)) : Calls Try.prog 12 #[.pointer (some ⟨b, 0, none⟩), .string a] w fun e w' => e = .returned (.tuple #[.slice none 0 0, .bool false]) ∧ w = w' := by
  go_enter Try.func12, Try.ntmps12
  go_wp2_with (go_at_call 25; refine (sthere_zero _ _ h).mono ?_; rintro e w' ⟨rfl, rfl⟩)
  go_ret2
  exact ⟨rfl, rfl⟩
theorem has_zero {b : Nat} (h : w.cell? ⟨b, 2, none⟩ = some (.map none)) : Calls Try.prog 11 #[.pointer (some ⟨b, 0, none⟩), .string a] w fun e w' => e = .returned (.tuple #[.int .i64 0, .bool false]) ∧ w = w' := by
  go_enter Try.func11, Try.ntmps11
  go_wp2_with (go_at_call 25; refine (sthere_zero _ _ h).mono ?_; rintro e w' ⟨rfl, rfl⟩)
  go_ret2
  exact ⟨rfl, rfl⟩
theorem drop_zero {b : Nat} (h : w.cell? ⟨b, 2, none⟩ = some (.map none)) : Calls Try.prog 16 #[.pointer (some ⟨b, 0, none⟩), .string a] w fun e w' => e = .returned (.bool false) ∧ w = w' := by
  go_enter Try.func16, Try.ntmps16
  go_wp2_with (go_at_call 25; refine (sthere_zero _ _ h).mono ?_; rintro e w' ⟨rfl, rfl⟩)
  go_ret
  exact ⟨rfl, rfl⟩
theorem keys_zero {b : Nat} (h : w.cell? ⟨b, 2, none⟩ = some (.map none)) : Calls Try.prog 10 #[.pointer (some ⟨b, 0, none⟩), .bool q] w fun e w' => e = .returned (.slice none 0 0) ∧ w = w' := by
  go_enter Try.func10, Try.ntmps10
  go_wp2_with (go_at_call 25; refine (sthere_zero _ _ h).mono ?_; rintro e w' ⟨rfl, rfl⟩)
  go_ret
  exact ⟨rfl, rfl⟩
theorem bytes_zero {b : Nat} (h : w.cell? ⟨b, 2, none⟩ = some (.map none)) : Calls Try.prog 13 #[.pointer (some ⟨b, 0, none⟩), .bool q] w fun e w' => e = .returned (.int .i64 0) ∧ w = w' := by
  go_enter Try.func13, Try.ntmps13
  go_wp2_with (go_at_call 25; refine (sthere_zero _ _ h).mono ?_; rintro e w' ⟨rfl, rfl⟩)
  go_ret
  exact ⟨rfl, rfl⟩
theorem copy_zero {b : Nat} (h : w.cell? ⟨b, 2, none⟩ = some (.map none)) : Calls Try.prog 21 #[.pointer (some ⟨b, 0, none⟩)] w fun e w' => e = .returned (.pointer none) ∧ w = w' := by
  go_enter Try.func21, Try.ntmps21
  go_wp2_with (go_at_call 25; refine (sthere_zero _ _ h).mono ?_; rintro e w' ⟨rfl, rfl⟩)
  go_ret
  exact ⟨rfl, rfl⟩
end

abbrev sa : ByteArray := ⟨#[97]⟩
abbrev sb : ByteArray := ⟨#[98]⟩
abbrev sc : ByteArray := ⟨#[99]⟩
abbrev sd : ByteArray := ⟨#[100]⟩

set_option maxRecDepth 100000 in
set_option maxHeartbeats 4000000 in
theorem known_any (k : Env) (w : World) (R : Assn) (h : Sat k w R) :
    Calls Try.prog 14 #[] w fun e w' => e = .returned (.bool true) ∧ Sat k w' R := by
  go_enter Try.func14, Try.ntmps14
  go_wp2_with fail
  refine (new_any k w R 10 6 5 (by omega) (by omega) (by omega) (by omega) (by omega) (by omega) h).mono ?_
  rintro e w1 ⟨b, rfl, h1⟩
  go_wp2_with fail
  refine (new_bad w1 10 11 5 (by omega)).mono ?_
  rintro e w2 ⟨rfl, rfl⟩
  go_wp2_with fail
  refine (put_ok k _ R b 10 6 5 [] [] sa 4 (by omega) (by omega) h1).mono ?_
  rintro e w2 ⟨v2, rfl, h2⟩
  rw [show roomR 10 sa 4 [] [] = ([], [], []) from by decide +kernel] at h2
  go_wp2_with fail
  refine (put_ok k _ R b 10 6 5 _ _ sb 4 (by omega) (by omega) h2.drop).mono ?_
  rintro e w3 ⟨v3, rfl, h3⟩
  rw [show roomR 10 sb 4 [(sa, 4)] [] = ([(sa, 4)], [], []) from by decide +kernel] at h3
  go_wp2_with fail
  refine (touch_k k _ R b 10 6 5 _ _ sa 4 (by decide +kernel) (by omega) h3.drop).mono ?_
  rintro e w4 ⟨v4, rfl, h4⟩
  rw [show touchR 6 sa 4 [(sb, 4), (sa, 4)] [] = ([(sb, 4)], [(sa, 4)], []) from by decide +kernel] at h4
  go_wp2_with fail
  refine (put_ok k _ R b 10 6 5 _ _ sc 4 (by omega) (by omega) h4.drop).mono ?_
  rintro e w5 ⟨v5, rfl, h5⟩
  rw [show roomR 10 sc 4 [(sb, 4)] [(sa, 4)] = ([], [(sa, 4)], [sb]) from by decide +kernel] at h5
  go_wp2_with fail
  refine (put_bad k _ _ b 10 6 5 _ _ sd 6 (by omega) h5.swap).mono ?_
  rintro e w6 ⟨rfl, h6⟩
  rw [show putE 5 6 = 2 from by decide]
  go_wp2_with fail
  refine (has_any k _ _ b 10 6 5 _ _ sa h6).mono ?_
  rintro e w7 ⟨rfl, h7⟩
  rw [show mget sa ([(sc, 4)] ++ [(sa, 4)]) = some (4 : Int) from by decide +kernel]
  go_wp2_with fail
  refine (has_any k _ _ b 10 6 5 _ _ sb h7).mono ?_
  rintro e w8 ⟨rfl, h8⟩
  rw [show mget sb ([(sc, 4)] ++ [(sa, 4)]) = (none : Option Int) from by decide +kernel]
  go_wp2_with fail
  refine (texts_eq k _ _ _ _ _ _ ((strs_lit [sb] (by simp [maxLen]) h8 _ rfl).swap2.swap)).mono ?_
  rintro e w9 ⟨rfl, h9⟩
  go_wp2_with fail
  refine (keys_any k _ _ b 10 6 5 _ _ true h9.drop.swap).mono ?_
  rintro e w10 ⟨v10, rfl, h10⟩
  go_wp2_with fail
  refine (texts_eq k _ _ _ _ _ _ ((strs_lit [sa] (by simp [maxLen]) h10 _ rfl).swap)).mono ?_
  rintro e w11 ⟨rfl, h11⟩
  go_wp2_with fail
  refine (keys_any k _ _ b 10 6 5 _ _ false h11.drop.swap).mono ?_
  rintro e w12 ⟨v12, rfl, h12⟩
  go_wp2_with fail
  refine (texts_eq k _ _ _ _ _ _ ((strs_lit [sc] (by simp [maxLen]) h12 _ rfl).swap)).mono ?_
  rintro e w13 ⟨rfl, h13⟩
  go_wp2_with fail
  refine (bytes_any k _ _ b 10 6 5 _ _ true h13.drop.swap).mono ?_
  rintro e w14 ⟨rfl, h14⟩
  rw [show sumV (if true = true then [(sa, 4)] else [(sc, 4)]) = 4 from by decide +kernel]
  go_wp2_with fail
  refine (drop_any k _ _ b 10 6 5 _ _ sc h14).mono ?_
  rintro e w15 ⟨rfl, h15⟩
  rw [show (mget sc ([(sc, 4)] ++ [(sa, 4)]) : Option Int).isSome = true from by decide +kernel]
  rw [show dropV sc [(sc, 4)] = [] from by decide +kernel, show dropV sc [(sa, 4)] = [(sa, 4)] from by decide +kernel] at h15
  go_wp2_with fail
  refine (drop_any k _ _ b 10 6 5 _ _ sc h15).mono ?_
  rintro e w16 ⟨rfl, h16⟩
  rw [show (mget sc ([] ++ [(sa, 4)]) : Option Int).isSome = false from by decide +kernel]
  go_wp2_with fail
  go_ret
  exact ⟨rfl, h16.drop.drop.drop.drop⟩

end Go.Proofs.Ytekhidibignhbaa
