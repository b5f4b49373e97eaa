/- Contracts of package norm: number's closures. -/
import Derived.Test.YtkjhfpjjcagecaaNormM
namespace Go.Proofs.Ytkjhfpjjcagecaa
set_option linter.all false
open Go Go.RowKit

def Txt (b : Nat) (s : ByteArray) : Assn := blk b (.cells #[.string s] 9 (0, 0))
def soL : List UInt8 → Bool
  | a :: b :: _ => decide (a.toNat = 48) && decide (b.toNat ≠ 46)
  | _ => false
theorem lead_step (l : List UInt8) : lead l = if soL l = true then lead (l.drop 1) else l := by
  match l with
  | [] => rfl
  | [a] => rfl
  | a :: b :: r =>
    rw [lead]
    simp only [soL, Bool.and_eq_true, decide_eq_true_eq]
    rfl
theorem soL_long {l : List UInt8} (h : soL l = true) : 1 < l.length := by
  match l with
  | [] => cases h
  | [a] => cases h
  | a :: b :: r => simp

set_option maxHeartbeats 2000000 in
theorem so1_any (w : World) (b : Nat) (s : ByteArray) (h : w.cell? ⟨b, 0, none⟩ = some (.string s)) :
    Calls Try.prog 76 #[pq b] w fun e w' => e = .returned (.bool (soL (bl s))) ∧ w = w' := by
  by_cases h1 : 1 < s.size
  · have hl : (bl s) = s[0] :: s[1] :: (bl s).drop 2 := by
      have := bl_drop s 0 (by omega)
      rw [List.drop_zero] at this
      rw [← bl_drop s 1 h1]; exact this
    have hso : soL (bl s) = (decide (s[0].toNat = 48) && decide (s[1].toNat ≠ 46)) := by rw [hl]; rfl
    rw [hso]
    have h1' : (1 : Int) < s.size := by omega
    have h0' : (0 : Int) < s.size := by omega
    clear hso hl
    by_cases k0 : s[0].toNat = 48
    · have b0 : ((s[0].toNat : Int) == 48) = true := by simp [k0]
      rw [decide_eq_true k0]
      clear k0
      go_enter Try.func76, Try.ntmps76
      go_wp2
      go_ret
      refine ⟨congrArg (fun b => Ending.returned (Value.bool b)) ?_, rfl⟩
      rw [Bool.eq_iff_iff]
      simp
      try omega
    · have b0 : ((s[0].toNat : Int) == 48) = false := by simp; omega
      rw [decide_eq_false k0]
      clear k0
      go_enter Try.func76, Try.ntmps76
      go_wp2
      go_ret
      exact ⟨rfl, rfl⟩
  · have hso : soL (bl s) = false := by
      cases hq : soL (bl s) with
      | false => rfl
      | true => have := soL_long hq; rw [bl_len] at this; omega
    rw [hso]
    have h1' : ¬ (1 : Int) < s.size := by omega
    clear hso h1
    go_enter Try.func76, Try.ntmps76
    go_wp2
    go_ret
    exact ⟨rfl, rfl⟩
theorem do1_any (k : Env) (w : World) (R : Assn) (b : Nat) (s : ByteArray) (h1 : 1 ≤ s.size) (h : Sat k w (Txt b s * R)) :
    Calls Try.prog 77 #[pq b] w fun e w' => e = .returned (.tuple #[]) ∧ Sat k w' (Txt b (s.extract 1 s.size) * R) := by
  unfold Txt at *
  have c0 : w.cell? ⟨b, 0, none⟩ = some (.string s) := h.cell 0
  have rf := h.frozen
  have h1' : (1 : Int) ≤ s.size := by omega
  have h2 := h.set 0 (.string (s.extract 1 s.size))
  clear h
  go_enter Try.func77, Try.ntmps77
  go_wp2
  go_end0
  exact ⟨rfl, h2⟩
/-- How long the text is. -/
def txtLen (w : World) (b : Nat) : Nat := match w.cell? ⟨b, 0, none⟩ with
  | some (.string t) => t.size
  | _ => 0
theorem txt_cell {k : Env} {w : World} {R : Assn} {b : Nat} {s : ByteArray} (h : Sat k w (Txt b s * R)) : w.cell? ⟨b, 0, none⟩ = some (.string s) := h.cell 0
theorem txt_len {k : Env} {w : World} {R : Assn} {b : Nat} {s : ByteArray} (h : Sat k w (Txt b s * R)) : txtLen w b = s.size := by
  unfold txtLen; rw [txt_cell h]
set_option maxHeartbeats 2000000 in
theorem cut1_any (k : Env) (w : World) (R : Assn) (b : Nat) (s : ByteArray) (hs : s.size ≤ 1000000000) (h : Sat k w (Txt b s * R)) :
    Calls Try.prog 75 #[.func (.func 76) #[] #[pq b], .func (.func 77) #[] #[pq b]] w fun e w' => e = .returned (.tuple #[]) ∧ Sat k w' (Txt b (mk (lead (bl s))) * R) := by
  obtain ⟨res, HX⟩ : ∃ res, Hid (lead (bl s) = res) := ⟨_, rfl⟩
  rw [HX.out]
  go_enter Try.func75, Try.ntmps75
  go_wp2_with fail
  go_loopw [4] (fun _ wr => ∃ t : ByteArray, t.size ≤ s.size ∧ Hid (lead (bl t) = res) ∧ Sat k wr (Txt b t * R)) (fun _ wr => txtLen wr b)
  case atStart => exact ⟨s, Nat.le_refl _, HX, h⟩
  case round =>
    clear h HX
    obtain ⟨t, ht, HT, hr⟩ := hrel
    have c0 := txt_cell hr
    have hlen := txt_len hr
    have C := so1_any wr b t c0
    have hst := lead_step (bl t)
    cases hso : soL (bl t) with
    | true =>
      have h1 := soL_long hso
      rw [bl_len] at h1
      have HN : Hid (lead (bl (t.extract 1 t.size)) = res) := by
        unfold Hid; rw [← HT.out, hst, if_pos hso, bl_ex_end]
      rw [hso] at C
      have D := Lib.hid C
      have D2 := Lib.hid (do1_any k wr R b t (by omega) hr)
      have HLEN := Lib.hid hlen
      clear C hso hst HT c0 hlen
      go_wp2_with (first | (go_at_call 76; (with_reducible refine (D.out).mono ?_); rintro e w1 ⟨rfl, rfl⟩) | (go_at_call 77; (with_reducible refine (D2.out).mono ?_); rintro e w2 ⟨rfl, h2⟩))
      go_roundw
      case rel => exact ⟨t.extract 1 t.size, by simp; omega, HN, h2⟩
      case measure => rw [txt_len h2, HLEN.out]; simp; omega
    | false =>
      have HN : res = bl t := by rw [← HT.out, hst, if_neg (by rw [hso]; decide)]
      subst HN
      rw [hso] at C
      have D := Lib.hid C
      clear C hso hst HT c0 hlen
      go_wp2_with (go_at_call 76; (with_reducible refine (D.out).mono ?_); rintro e w1 ⟨rfl, rfl⟩)
      go_end0
      rw [mk_bl]
      exact ⟨rfl, hr⟩

/-- The last byte of a text. -/
theorem bl_last (s : ByteArray) (h : 0 < s.size) : bl s = (bl s).take (s.size - 1) ++ [s[s.size - 1]] := by
  have e := (List.take_append_drop (s.size - 1) (bl s)).symm
  rw [bl_drop s (s.size - 1) (by omega), List.drop_eq_nil_of_le (by rw [bl_len]; omega)] at e
  exact e
theorem bl_init (s : ByteArray) : bl (s.extract 0 (s.size - 1)) = (bl s).take (s.size - 1) := by rw [bl_ex, List.drop_zero, Nat.sub_zero]

set_option maxHeartbeats 2000000 in
theorem do2_any (k : Env) (w : World) (R : Assn) (b : Nat) (s : ByteArray) (h1 : 1 ≤ s.size) (hs : s.size ≤ 1000000000) (h : Sat k w (Txt b s * R)) :
    Calls Try.prog 78 #[pq b] w fun e w' => e = .returned (.tuple #[]) ∧ Sat k w' (Txt b (s.extract 0 (s.size - 1)) * R) := by
  unfold Txt at *
  obtain ⟨m, hm⟩ : ∃ m, m = s.size - 1 := ⟨_, rfl⟩
  rw [← hm]
  have hw : IntKind.i64.wrap ((s.size : Int) - 1) = m := by rw [IntWalk.i64_in _ (by omega)]; omega
  have hmI : (m : Int) ≤ s.size := by omega
  have c0 : w.cell? ⟨b, 0, none⟩ = some (.string s) := h.cell 0
  have rf := h.frozen
  have h2 := h.set 0 (.string (s.extract 0 m))
  clear h hm
  go_enter Try.func78, Try.ntmps78
  go_wp2
  go_end0
  exact ⟨rfl, h2⟩
set_option maxHeartbeats 2000000 in
theorem so2_any (w : World) (b : Nat) (s : ByteArray) (h1 : 1 ≤ s.size) (hs : s.size ≤ 1000000000) (h : w.cell? ⟨b, 0, none⟩ = some (.string s)) :
    Calls Try.prog 79 #[pq b] w fun e w' => e = .returned (.bool (decide ((s[s.size - 1]'(by omega)).toNat = 48))) ∧ w = w' := by
  obtain ⟨m, hm⟩ : ∃ m, m = s.size - 1 := ⟨_, rfl⟩
  have hms : m < s.size := by omega
  have e : (s[s.size - 1]'(by omega)) = s[m] := by subst hm; rfl
  rw [e]
  have hw : IntKind.i64.wrap ((s.size : Int) - 1) = m := by rw [IntWalk.i64_in _ (by omega)]; omega
  have hmI : (m : Int) < s.size := by omega
  clear e hm
  go_enter Try.func79, Try.ntmps79
  go_wp2
  go_ret
  refine ⟨congrArg (fun b => Ending.returned (Value.bool b)) ?_, rfl⟩
  rw [Bool.eq_iff_iff]
  simp
  try omega

set_option maxHeartbeats 2000000 in
theorem cut2_any (k : Env) (w : World) (R : Assn) (b : Nat) (s : ByteArray) (hs : s.size ≤ 1000000000) (hd : dots (bl s) = 1) (h : Sat k w (Txt b s * R)) :
    Calls Try.prog 75 #[.func (.func 79) #[] #[pq b], .func (.func 78) #[] #[pq b]] w fun e w' => e = .returned (.tuple #[]) ∧ Sat k w' (Txt b (mk (strip0 (bl s))) * R) := by
  obtain ⟨res, HX⟩ : ∃ res, Hid (strip0 (bl s) = res) := ⟨_, rfl⟩
  rw [HX.out]
  go_enter Try.func75, Try.ntmps75
  go_wp2_with fail
  go_loopw [4] (fun _ wr => ∃ t : ByteArray, t.size ≤ s.size ∧ Hid (strip0 (bl t) = res ∧ dots (bl t) = 1) ∧ Sat k wr (Txt b t * R)) (fun _ wr => txtLen wr b)
  case atStart => exact ⟨s, Nat.le_refl _, ⟨HX.out, hd⟩, h⟩
  case round =>
    clear h HX hd
    obtain ⟨t, ht, HT, hr⟩ := hrel
    have c0 := txt_cell hr
    have hlen := txt_len hr
    have h1 : 1 ≤ t.size := by
      have h := HT.out.2
      rcases Nat.lt_or_ge 0 t.size with q | q
      · exact q
      · have : bl t = [] := List.length_eq_zero_iff.1 (by rw [bl_len]; omega)
        rw [this] at h; cases h
    have C := so2_any wr b t h1 (by omega) c0
    have hlast := bl_last t h1
    have hst := HT.out
    rw [hlast, strip0_snoc, dots_snoc] at hst
    by_cases hc : (t[t.size - 1]'(by omega)).toNat = 48
    · rw [if_pos hc, if_neg (by omega)] at hst
      have HN : Hid (strip0 (bl (t.extract 0 (t.size - 1))) = res ∧ dots (bl (t.extract 0 (t.size - 1))) = 1) := by
        unfold Hid; rw [bl_init]; exact hst
      rw [decide_eq_true hc] at C
      have D := Lib.hid C
      have D2 := Lib.hid (do2_any k wr R b t h1 (by omega) hr)
      have HLEN := Lib.hid hlen
      clear C hc hst HT c0 hlen hlast
      go_wp2_with (first | (go_at_call 79; (with_reducible refine (D.out).mono ?_); rintro e w1 ⟨rfl, rfl⟩) | (go_at_call 78; (with_reducible refine (D2.out).mono ?_); rintro e w2 ⟨rfl, h2⟩))
      go_roundw
      case rel => exact ⟨t.extract 0 (t.size - 1), by simp; omega, HN, h2⟩
      case measure => rw [txt_len h2, HLEN.out]; simp; omega
    · rw [if_neg hc, ← hlast] at hst
      have HN : res = bl t := hst.1.symm
      subst HN
      rw [decide_eq_false hc] at C
      have D := Lib.hid C
      clear C hc hst HT c0 hlen hlast
      go_wp2_with (go_at_call 79; (with_reducible refine (D.out).mono ?_); rintro e w1 ⟨rfl, rfl⟩)
      go_end0
      rw [mk_bl]
      exact ⟨rfl, hr⟩

end Go.Proofs.Ytkjhfpjjcagecaa
