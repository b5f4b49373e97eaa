/- Contracts of package pontoonref01: texts and numbers of two bytes. -/
import Derived.Test.YtlilogcojeoelaaMD
namespace Go.Proofs.Ytlilogcojeoelaa
set_option linter.all false
open Go Go.RowKit

theorem getT_ok {s : ByteArray} {n i : Nat} (hn : n ≤ s.size) (h : endB (s.extract n s.size) = i) : getT s n = (s.extract n (n + i), (n : Int) + i + 1, 0) := by
  unfold getT
  rw [if_neg (by omega)]
  simp only [Int.toNat_natCast]
  rw [h, if_neg (by omega)]
  have : ((n : Int) + (i : Int)).toNat = n + i := by omega
  rw [this]
theorem getT_none {s : ByteArray} {n : Nat} (hn : n ≤ s.size) (h : endB (s.extract n s.size) = -1) : getT s n = (⟨#[]⟩, 0, 3) := by
  unfold getT
  rw [if_neg (by omega)]
  simp only [Int.toNat_natCast]
  rw [if_pos h]
theorem ext_list (s : ByteArray) (n : Nat) : (s.extract n s.size).data.toList = s.data.toList.drop n := by
  rw [ByteArray.data_extract, Array.toList_extract, List.extract_eq_take_drop, size_list s, List.take_of_length_le]
  simp

set_option maxHeartbeats 2000000 in
theorem rgetText_any (w : World) (s : ByteArray) (a : Int) (hs : s.size ≤ 1000000000) :
    Calls Try.prog 38 #[.string s, .int .i64 a] w fun e w' => e = .returned (getTV (getT s a)) ∧ w = w' := by
  by_cases h1 : a < 0
  · have hg : getT s a = (⟨#[]⟩, 0, 1) := if_pos (.inl h1)
    rw [hg]
    go_enter Try.func38, Try.ntmps38
    go_wp2_with fail
    go_ret3
    exact ⟨rfl, rfl⟩
  by_cases h2 : (s.size : Int) < a
  · have hg : getT s a = (⟨#[]⟩, 0, 1) := if_pos (.inr h2)
    rw [hg]
    go_enter Try.func38, Try.ntmps38
    go_wp2_with fail
    go_ret3
    exact ⟨rfl, rfl⟩
  obtain ⟨n, rfl⟩ : ∃ n : Nat, a = n := ⟨a.toNat, by omega⟩
  have hn : n ≤ s.size := by omega
  clear h1 h2
  go_enter Try.func38, Try.ntmps38
  go_wp2_with fail
  go_loopw [7] (fun u7 wr => ∃ j : Nat, n ≤ j ∧ j ≤ s.size ∧ u7 = .int .i64 j ∧ Hid (endL (s.data.toList.drop j) (j - n) = endB (s.extract n s.size)) ∧ w = wr) (fun u7 _ => s.size - (intOf u7).toNat)
  case atStart => exact ⟨n, Nat.le_refl _, hn, rfl, by unfold Hid endB; rw [ext_list, Nat.sub_self], rfl⟩
  case round =>
    obtain ⟨j, hnj, hj, rfl, HE, rfl⟩ := hrel
    by_cases hlt : j < s.size
    · have hlt' : (j : Int) < s.size := by omega
      have hd : s.data.toList.drop j = s[j] :: s.data.toList.drop (j + 1) := by
        rw [List.drop_eq_getElem_cons (by simpa using hlt)]; rfl
      have HD : Hid (endL (s[j] :: s.data.toList.drop (j + 1)) (j - n) = endB (s.extract n s.size)) := by
        unfold Hid; rw [← hd]; exact HE.out
      clear hd HE
      by_cases hc : s[j] = 0
      · have hb : ((s[j].toNat : Int) == 0) = true := by simp [hc]
        have HR : Hid (getT s n = (s.extract n j, (j : Int) + 1, 0)) := by
          have e : endB (s.extract n s.size) = ((j - n : Nat) : Int) := by rw [← HD.out, endL, if_pos hc]
          unfold Hid
          rw [getT_ok hn e]
          have q1 : n + (j - n) = j := by omega
          have q2 : (n : Int) + ((j - n : Nat) : Int) + 1 = (j : Int) + 1 := by omega
          rw [q1, q2]
        clear HD hc
        go_wp2_with fail
        go_ret3
        rw [HR.out]
        exact ⟨rfl, rfl⟩
      · have hb : ((s[j].toNat : Int) == 0) = false := by
          have : s[j].toNat ≠ 0 := fun e => hc (UInt8.toNat_inj.1 (by simpa using e))
          simpa using this
        have HR : Hid (endL (s.data.toList.drop (j + 1)) (j + 1 - n) = endB (s.extract n s.size)) := by
          unfold Hid; rw [← HD.out, endL, if_neg hc]; congr 1; omega
        clear HD hc
        go_wp2_with fail
        go_roundw
        case rel => exact ⟨j + 1, by omega, by omega, by go_num, HR, trivial⟩
        case measure => simp [intOf]; omega
    · have hjs : j = s.size := by omega
      have HR : Hid (getT s n = (⟨#[]⟩, 0, 3)) := by
        unfold Hid
        refine getT_none hn ?_
        rw [← HE.out, List.drop_eq_nil_of_le (by simp [hjs])]; rfl
      have hlt' : ¬ (j : Int) < s.size := by omega
      clear HE hlt
      go_wp2_with fail
      go_ret3
      rw [HR.out]
      exact ⟨rfl, rfl⟩

/-- A number of two bytes, with its sign. -/
def num2 (a b : UInt8) : Int := if 128 ≤ a.toNat then 256 * a.toNat + b.toNat - 65536 else 256 * a.toNat + b.toNat
def g16 (s : ByteArray) (a : Int) : Int × Int × Int :=
  if a < 0 ∨ (s.size : Int) < a then (0, 0, 1) else if (s.size : Int) - a < 2 then (0, 0, 3) else (num2 ((s.extract a.toNat (a.toNat + 2)).data.toList.getD 0 0) ((s.extract a.toNat (a.toNat + 2)).data.toList.getD 1 0), a + 2, 0)
def g16V (p : Int × Int × Int) : Value := .tuple #[.int .i64 p.1, .int .i64 p.2.1, .int .i64 p.2.2]

theorem two_bytes {s : ByteArray} {n : Nat} (h : n + 2 ≤ s.size) : ∃ c0 c1 : UInt8, s.extract n (n + 2) = ⟨#[c0, c1]⟩ := by
  have hl : (s.extract n (n + 2)).data.toList.length = 2 := by
    rw [← size_list]; simp; omega
  match hq : (s.extract n (n + 2)).data.toList, hl with
  | [c0, c1], _ =>
    refine ⟨c0, c1, ?_⟩
    apply ByteArray.ext
    apply Array.ext'
    exact hq
theorem g16_ok {s : ByteArray} {n : Nat} {c0 c1 : UInt8} (h : n + 2 ≤ s.size) (hc : s.extract n (n + 2) = ⟨#[c0, c1]⟩) : g16 s n = (num2 c0 c1, (n : Int) + 2, 0) := by
  unfold g16
  rw [if_neg (by omega), if_neg (by omega)]
  simp only [Int.toNat_natCast]
  rw [hc]
  rfl

theorem num2_eq (c0 c1 : UInt8) : num2 c0 c1 = if 128 ≤ c0.toNat then 256 * (c0.toNat : Int) + c1.toNat - 65536 else 256 * (c0.toNat : Int) + c1.toNat := rfl

theorem rgetBytes_ok (w : World) (s x : ByteArray) (a : Nat) (ha : a + 2 ≤ s.size) (hs : s.size ≤ 1000000000) (hx : s.extract a (a + 2) = x) :
    Calls Try.prog 70 #[.string s, .int .i64 a, .int .i64 2] w fun e w' => e = .returned (.tuple #[.string x, .int .i64 ((a : Int) + 2), .int .i64 0]) ∧ w = w' := by
  have ha' : (a : Int) + 2 ≤ s.size := by omega
  have HX := Lib.hid hx
  clear hx
  go_enter Try.func70, Try.ntmps70
  go_wp2_with fail
  go_ret3
  rw [← HX.out]
  exact ⟨rfl, rfl⟩

theorem rgetBytes_bad (w : World) (s : ByteArray) (a : Int) (hs : s.size ≤ 1000000000) (h : a < 0 ∨ (s.size : Int) < a + 2) :
    Calls Try.prog 70 #[.string s, .int .i64 a, .int .i64 2] w fun e w' => e = .returned (.tuple #[.string ⟨#[]⟩, .int .i64 0, .int .i64 (g16 s a).2.2]) ∧ w = w' := by
  by_cases h1 : a < 0
  · have hg : g16 s a = (0, 0, 1) := if_pos (.inl h1)
    rw [hg]
    clear h
    go_enter Try.func70, Try.ntmps70
    go_wp2_with fail
    go_ret3
    exact ⟨rfl, rfl⟩
  by_cases h2 : (s.size : Int) < a
  · have hg : g16 s a = (0, 0, 1) := if_pos (.inr h2)
    rw [hg]
    clear h
    go_enter Try.func70, Try.ntmps70
    go_wp2_with fail
    go_ret3
    exact ⟨rfl, rfl⟩
  have h3 : (s.size : Int) - a < 2 := by omega
  have hg : g16 s a = (0, 0, 3) := by unfold g16; rw [if_neg (by omega), if_pos h3]
  rw [hg]
  obtain ⟨n, rfl⟩ : ∃ n : Nat, a = n := ⟨a.toNat, by omega⟩
  clear h
  go_enter Try.func70, Try.ntmps70
  go_wp2_with fail
  go_ret3
  exact ⟨rfl, rfl⟩

theorem g16_bad {s : ByteArray} {a : Int} (h : a < 0 ∨ (s.size : Int) < a + 2) : g16 s a = (0, 0, (g16 s a).2.2) ∧ (g16 s a).2.2 ≠ 0 := by
  unfold g16
  split
  · exact ⟨rfl, by decide⟩
  · rw [if_pos (by omega)]; exact ⟨rfl, by decide⟩

set_option maxRecDepth 100000 in
set_option maxHeartbeats 2000000 in
theorem rget16_any (k : Env) (w : World) (R : Assn) (s : ByteArray) (a : Int) (hs : s.size ≤ 1000000000) (h : Sat k w R) :
    Calls Try.prog 39 #[.string s, .int .i64 a] w fun e w' => e = .returned (g16V (g16 s a)) ∧ Sat k w' R := by
  by_cases hb : a < 0 ∨ (s.size : Int) < a + 2
  · obtain ⟨e1, e2⟩ := g16_bad hb
    rw [e1]
    have C := Lib.hid (rgetBytes_bad w s a hs hb)
    generalize (g16 s a).2.2 = er at *
    have e2' : (er == 0) = false := by simpa using e2
    clear e1 hb
    go_enter Try.func39, Try.ntmps39
    go_wp2_with (go_at_call 70; (with_reducible refine C.out.mono ?_); rintro e w' ⟨rfl, rfl⟩)
    go_ret3
    exact ⟨rfl, h⟩
  · obtain ⟨n, rfl⟩ : ∃ n : Nat, a = n := ⟨a.toNat, by omega⟩
    have hn : n + 2 ≤ s.size := by omega
    obtain ⟨c0, c1, hc⟩ := two_bytes hn
    rw [g16_ok hn hc]
    have C := Lib.hid (rgetBytes_ok w s _ n hn hs hc)
    have HN := Lib.hid (num2_eq c0 c1)
    have b0 := c0.toNat_lt
    have b1 := c1.toNat_lt
    obtain ⟨x, q0, q1, q2, hx⟩ : ∃ x : ByteArray, ∃ q0 : x.size = 2, x[0]'(by omega) = c0 ∧ x[1]'(by omega) = c1 ∧ (⟨#[c0, c1]⟩ : ByteArray) = x := ⟨_, rfl, rfl, rfl, rfl⟩
    rw [hx] at C
    clear hx
    have w1 : IntKind.i64.wrap (256 * (c0.toNat : Int)) = 256 * (c0.toNat : Int) := IntWalk.i64_in _ (by omega)
    have w2 : IntKind.i64.wrap (256 * (c0.toNat : Int) + c1.toNat) = 256 * (c0.toNat : Int) + c1.toNat := IntWalk.i64_in _ (by omega)
    clear hb hc hn
    by_cases h8 : 128 ≤ c0.toNat
    · rw [if_pos h8] at HN
      have m1 : 32768 ≤ 256 * (c0.toNat : Int) + c1.toNat := by omega
      have m2 : 256 * (c0.toNat : Int) + c1.toNat ≤ 65535 := by omega
      clear h8 b0 b1
      go_enter Try.func39, Try.ntmps39
      go_wp2_with (go_at_call 70; (with_reducible refine C.out.mono ?_); rintro e w' ⟨rfl, rfl⟩)
      go_quiet (fail)
      clear w1 w2 q1 q2 C
      generalize 256 * (c0.toNat : Int) + c1.toNat = m at *
      go_wp2_with fail
      go_ret3
      rw [HN.out]
      exact ⟨rfl, h.drewN _⟩
    · rw [if_neg h8] at HN
      have m1 : ¬ 32768 ≤ 256 * (c0.toNat : Int) + c1.toNat := by omega
      have m2 : 0 ≤ 256 * (c0.toNat : Int) + c1.toNat := by omega
      clear h8 b0 b1
      go_enter Try.func39, Try.ntmps39
      go_wp2_with (go_at_call 70; (with_reducible refine C.out.mono ?_); rintro e w' ⟨rfl, rfl⟩)
      go_quiet (fail)
      clear w1 w2 q1 q2 C
      generalize 256 * (c0.toNat : Int) + c1.toNat = m at *
      go_wp2_with fail
      go_ret3
      rw [HN.out]
      exact ⟨rfl, h.drewN _⟩

end Go.Proofs.Ytlilogcojeoelaa
