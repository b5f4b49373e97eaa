/- Contracts of package cache: which keys can be, their texts. -/
import Derived.Test.YtbeidnddahglbaaOctC
namespace Go.Proofs.Ytbeidnddahglbaa
set_option linter.all false
open Go Go.RowKit

/-- What a value is kept by. -/
structure Ky where
  db : ByteArray
  ro : ByteArray
  fm : Int
  nm : ByteArray
deriving DecidableEq
def kyc (k : Ky) : List Value := [.string k.db, .string k.ro, .int .i64 k.fm, .string k.nm]
def kyV (k : Ky) : Value := .agg #[.string k.db, .string k.ro, .int .i64 k.fm, .string k.nm]
def noZ (s : ByteArray) : Bool := decide (endB s = -1)
def rightK (k : Ky) : Bool := noZ k.db && noZ k.ro && noZ k.nm && decide (k.fm = 0 ∨ k.fm = 1)
def tiny (k : Ky) : Prop := k.db.size + k.ro.size + k.nm.size ≤ 1000000
def textK (k : Ky) : ByteArray := if rightK k = true then k.db ++ zb ++ k.ro ++ zb ++ bin2 k.fm ++ k.nm ++ zb else ⟨#[]⟩

theorem noZ_t {s : ByteArray} (h : noZ s = true) : endB s = -1 := by simpa [noZ] using h
theorem rightK_f1 {k : Ky} {i : Nat} (hi : i < 3) (h : endB ([k.db, k.ro, k.nm][i]'(by simpa using hi)) ≠ -1) : rightK k = false := by
  unfold rightK noZ
  match i, hi with
  | 0, _ => simp at h; simp [h]
  | 1, _ => simp at h; simp [h]
  | 2, _ => simp at h; simp [h]
theorem rightK_t {k : Ky} (h : ∀ i (hi : i < 3), endB ([k.db, k.ro, k.nm][i]'(by simpa using hi)) = -1) : rightK k = decide (k.fm = 0 ∨ k.fm = 1) := by
  have h0 := h 0 (by decide)
  have h1 := h 1 (by decide)
  have h2 := h 2 (by decide)
  simp at h0 h1 h2
  simp [rightK, noZ, h0, h1, h2]

set_option maxRecDepth 100000 in
set_option maxHeartbeats 2000000 in
theorem right_any (k : Env) (w : World) (R : Assn) (y : Ky) (ht : tiny y) (h : Sat k w R) :
    Calls Try.prog 49 #[kyV y] w fun e w' => e = .returned (.bool (rightK y)) ∧ Sat k w' R := by
  unfold tiny at ht
  have h1 := h.alloc (.cells (kyc y).toArray 30)
  have hR1 := Lib.hid (fun i hi => rightK_f1 (k := y) (i := i) hi)
  have hR2 := Lib.hid (rightK_t (k := y))
  obtain ⟨db, ro, fm, nm⟩ := y
  simp only [kyc, kyV] at *
  clear h
  go_enter Try.func49, Try.ntmps49
  go_upto_region 1 with fail
  generalize w.alloc (.cells #[.string db, .string ro, .int .i64 fm, .string nm] 30) = w1 at *
  generalize w.heap.size = o at *
  have d0 : w1.cell? ⟨o, 0, none⟩ = some (.string db) := h1.cell 0
  have d1 : w1.cell? ⟨o, 1, none⟩ = some (.string ro) := h1.cell 1
  have d3 : w1.cell? ⟨o, 3, none⟩ = some (.string nm) := h1.cell 3
  have h2 := strs_lit [db, ro, nm] (by simp [maxLen]) h1 _ rfl
  simp only [strs, List.map_cons, List.map_nil] at h2
  go_wp2_with fail
  generalize w1.alloc (.cells #[.string db, .string ro, .string nm] 9) = w2 at *
  generalize w1.heap.size = os at *
  clear d0 d1 d3 h1
  go_loopw [4, 5, 14, 20] (fun _ _ i _ wr => ∃ j : Nat, j ≤ 3 ∧ i = .int .i64 j ∧ Hid (∀ i (hi : i < 3), i < j → endB ([db, ro, nm][i]'(by simpa using hi)) = -1) ∧ w2 = wr) (fun _ _ i _ _ => 3 - (intOf i).toNat)
  case atStart => exact ⟨0, by decide, rfl, fun i hi hj => by omega, rfl⟩
  case round =>
    obtain ⟨j, hj, rfl, HP, rfl⟩ := hrel
    by_cases hlt : j < 3
    · obtain ⟨g, hg, hgl, dj⟩ := strs_get h2 j hlt
      simp only [Option.some.injEq, Addr.mk.injEq, and_true] at hg
      subst hg
      have hR1' := Lib.hid (hR1.out j hlt)
      have hsz : ([db, ro, nm][j]'hlt).size ≤ 1000000 := by
        match j, hlt with
        | 0, _ => simp; omega
        | 1, _ => simp; omega
        | 2, _ => simp; omega
      have HP' : ∀ (q : endB ([db, ro, nm][j]'hlt) = -1), Hid (∀ i (hi : i < 3), i < j + 1 → endB ([db, ro, nm][i]'(by simpa using hi)) = -1) := by
        intro q i hi hij
        by_cases e : i = j
        · subst e; exact q
        · exact HP.out i hi (by omega)
      have HPP := Lib.hid HP'
      generalize ([db, ro, nm][j]'hlt) = s at *
      clear HP' HP
      have hlt' : (j : Int) < 3 := by omega
      go_wp2_with fail
      go_loopw [5, 20] (fun _ u6 wr => ∃ q : Nat, q ≤ s.size ∧ u6 = .int .i64 q ∧ Hid (endL (s.data.toList.drop q) q = endB s) ∧ w2 = wr) (fun _ u6 _ => s.size - (intOf u6).toNat)
      case atStart => exact ⟨0, Nat.zero_le _, rfl, rfl, rfl⟩
      case round =>
        obtain ⟨q, hq, rfl, HE, rfl⟩ := hrel
        by_cases hqs : q < s.size
        · have hqs' : (q : Int) < s.size := by omega
          have hd : s.data.toList.drop q = s[q] :: s.data.toList.drop (q + 1) := by
            rw [List.drop_eq_getElem_cons (by simpa using hqs)]; rfl
          have HD : Hid (endL (s[q] :: s.data.toList.drop (q + 1)) q = endB s) := by
            unfold Hid; rw [← hd]; exact HE.out
          clear hd HE
          by_cases hc : s[q] = 0
          · have hb : ((s[q].toNat : Int) == 0) = true := by simp [hc]
            have HR : Hid (endB s = q) := by unfold Hid; rw [← HD.out, endL, if_pos hc]
            have HF := Lib.hid (hR1'.out (by rw [HR.out]; omega))
            clear HD hc
            go_wp2_with fail
            go_ret
            rw [HF.out]
            exact ⟨rfl, h2.drop.drop⟩
          · have hb : ((s[q].toNat : Int) == 0) = false := by
              have : s[q].toNat ≠ 0 := fun e => hc (UInt8.toNat_inj.1 (by simpa using e))
              simpa using this
            have HR : Hid (endL (s.data.toList.drop (q + 1)) (q + 1) = endB s) := by unfold Hid; rw [← HD.out, endL, if_neg hc]
            clear HD hc
            go_wp2_with fail
            go_roundw
            case rel => exact ⟨q + 1, by omega, by go_num, HR, trivial⟩
            case measure => simp [intOf]; omega
        · have hqq : q = s.size := by omega
          have HR : Hid (endB s = -1) := by
            unfold Hid
            rw [← HE.out, List.drop_eq_nil_of_le (by simp [hqq])]; rfl
          have hq' : ¬ (q : Int) < s.size := by omega
          have HN := HPP.out HR.out
          clear HE hqs HPP HR
          go_wp2_with fail
          go_roundw
          case rel => exact ⟨j + 1, by omega, by go_num, HN, trivial⟩
          case measure => simp [intOf]; omega
    · have hj3 : j = 3 := by omega
      subst hj3
      have HR := Lib.hid (hR2.out (fun i hi => HP.out i hi hi))
      have d2 : w2.cell? ⟨o, 2, none⟩ = some (.int .i64 fm) := h2.drop.cell 2
      clear HP hR1 hR2
      by_cases f0 : fm = 0
      · subst f0
        go_wp2_with fail
        go_ret
        rw [HR.out]
        exact ⟨rfl, h2.drop.drop⟩
      · have f0' : (fm == 0) = false := by simpa using f0
        have f0d : decide (fm = 0 ∨ fm = 1) = (fm == 1) := by simp [f0]; rfl
        have HF := Lib.hid f0d
        clear f0d
        go_wp2_with fail
        go_ret
        rw [HR.out, HF.out]
        exact ⟨rfl, h2.drop.drop⟩

end Go.Proofs.Ytbeidnddahglbaa
