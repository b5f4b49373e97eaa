/- Contracts of package lexer: sign, one. -/
import Derived.Test.YtoeepbjnbgpmpaaLexC
namespace Go.Proofs.Ytoeepbjnbgpmpaa
set_option linter.all false
open Go Go.RowKit

def sigB : ByteArray := ⟨#[40, 41, 44, 59, 46, 61, 60, 62, 43, 45, 42, 47, 37, 38, 124, 94, 126, 33, 64, 35, 63, 58, 91, 93]⟩
def signN (c : UInt8) (r : List UInt8) : Nat := if c.toNat = 36 then (if 0 < runL isDig r then runL isDig r + 1 else 0) else if c ∈ signSet then 1 else 0
theorem sig_ascii : ∀ j (h : j < 24), (sigB[j]'(by exact h)).toNat < 128 := by decide
theorem sig_mem (c : UInt8) : c ∈ signSet ↔ ∃ j, ∃ h : j < 24, sigB[j]'(by exact h) = c := by
  have : signSet = bl sigB := rfl
  rw [this, List.mem_iff_getElem]
  constructor
  · rintro ⟨i, hi, e⟩; exact ⟨i, hi, e⟩
  · rintro ⟨i, hi, e⟩; exact ⟨i, hi, e⟩

set_option maxRecDepth 100000 in
set_option maxHeartbeats 4000000 in
theorem sign_any (k : Env) (w : World) (R : Assn) (s : ByteArray) (c : UInt8) (r : List UInt8) (hsr : bl s = c :: r) (hs : s.size ≤ 1000000000) (h : Sat k w R) :
    Calls Try.prog 90 #[.string s] w fun e w' => e = .returned (.int .i64 (signN c r : Nat)) ∧ Sat k w' R := by
  have hsz : s.size = r.length + 1 := by rw [← bl_len, hsr]; rfl
  have h0 : 0 < s.size := by omega
  have hs0 : (0 : Int) < s.size := by omega
  have hs1 : (1 : Int) ≤ s.size := by omega
  have hc0 : s[0] = c := by
    rw [← bl_get s 0 h0]
    simp only [hsr]
    rfl
  have hd1 : bl (s.extract 1 s.size) = r := by rw [bl_ex_end, hsr]; rfl
  have hw : wrap32 (c.toNat : Int) = c.toNat := by have := c.toNat_lt; unfold wrap32; omega
  by_cases h36 : c.toNat = 36
  · have C := run_digit w (s.extract 1 s.size) (by simp; omega)
    rw [hd1] at C
    have hle := runL_le isDig r
    have hn : runL isDig r ≤ 1000000000 := by omega
    have hsn : signN c r = if 0 < runL isDig r then runL isDig r + 1 else 0 := if_pos h36
    generalize runL isDig r = n at *
    generalize signN c r = v at *
    have hb : ((c.toNat : Int) == 36) = true := by simp [h36]
    have D := Lib.hid C
    clear hsr C hd1 h36 hsz hle
    by_cases hp : 0 < n
    · rw [if_pos hp] at hsn
      subst hsn
      have hp' : (0 : Int) < n := by omega
      go_enter Try.func90, Try.ntmps90
      go_wp2_with (go_at_call 71; (with_reducible refine (D.out).mono ?_); rintro e w1 ⟨rfl, rfl⟩)
      go_ret
      exact ⟨by go_num, h⟩
    · rw [if_neg hp] at hsn
      subst hsn
      have hn0 : n = 0 := by omega
      subst hn0
      go_enter Try.func90, Try.ntmps90
      go_wp2_with (go_at_call 71; (with_reducible refine (D.out).mono ?_); rintro e w1 ⟨rfl, rfl⟩)
      go_ret
      exact ⟨rfl, h⟩
  · have hsn : signN c r = if c ∈ signSet then 1 else 0 := if_neg h36
    generalize signN c r = v at *
    have hb : ((c.toNat : Int) == 36) = false := by simp; omega
    have h1 := h.alloc (.stringIter sigB 0)
    clear hsr hd1 h36 hsz
    go_enter Try.func90, Try.ntmps90
    go_wp2_with fail
    generalize w.heap.size = o at *
    go_loopw [5] (fun _ wr => ∃ j : Nat, j ≤ 24 ∧ Hid (∀ i (hi : i < 24), i < j → sigB[i]'(by exact hi) ≠ c) ∧ Sat k wr (blk o (.stringIter sigB j) * R)) (fun _ wr => 24 - wr.iterPos o)
    case atStart => exact ⟨0, Nat.zero_le _, fun i _ hi => absurd hi (by omega), h1⟩
    case round =>
      clear h1
      obtain ⟨j, hj, HN, hr⟩ := hrel
      by_cases hlt : j < 24
      · have hlt2 : j < sigB.size := hlt
        have hnx : ∀ ty, (Instr.next (.pointer (some ⟨o, 0, none⟩)) true ty).run Try.prog wr = _ := fun ty => Lib.run_next_ascii_at wr o sigB j ty hr.get hlt2 (sig_ascii j hlt)
        have h2 : Sat k (wr.iterAt o sigB (j + 1)) (blk o (.stringIter sigB (j + 1)) * R) := hr.setObj
        have HP : Hid ((wr.iterAt o sigB (j + 1)).iterPos o < wr.iterPos o + 1 + 1 ∧ 24 - (wr.iterAt o sigB (j + 1)).iterPos o < 24 - wr.iterPos o) := by
          have e1 : wr.iterPos o = j := by unfold World.iterPos; rw [hr.get]
          have e2 : (wr.iterAt o sigB (j + 1)).iterPos o = j + 1 := by unfold World.iterPos; rw [h2.get]
          unfold Hid; omega
        have HC : Hid (∀ (q : sigB[j]'(by exact hlt) = c), c ∈ signSet) := fun q => (sig_mem c).2 ⟨j, hlt, q⟩
        have HN2 : Hid (sigB[j]'(by exact hlt) ≠ c → ∀ i (hi : i < 24), i < j + 1 → sigB[i]'(by exact hi) ≠ c) := by
          intro q i hi hij
          by_cases e : i = j
          · subst e; exact q
          · exact HN.out i hi (by omega)
        generalize wr.iterAt o sigB (j + 1) = w2 at *
        generalize sigB[j]'(by exact hlt) = d at *
        by_cases hd : d = c
        · have hin := HC.out hd
          rw [if_pos hin] at hsn
          subst hsn
          subst hd
          have hbd : ((d.toNat : Int) == d.toNat) = true := by simp
          clear HC HN2 HN hin
          go_wp2_with fail
          go_ret
          exact ⟨rfl, h2.drop⟩
        · have HN3 := Lib.hid (HN2.out hd)
          have hbd : ((c.toNat : Int) == d.toNat) = false := by
            simp only [beq_eq_false_iff_ne, ne_eq, Int.natCast_inj]; exact fun e => hd (UInt8.toNat_inj.1 e).symm
          have hn0 := Lib.hid hsn
          clear HC HN2 HN hsn hd
          go_wp2_with fail
          go_roundw
          case rel => exact ⟨j + 1, by omega, HN3, h2⟩
          case measure => have := HP.out; simpa using this.2
      · have hj24 : j = 24 := by omega
        subst hj24
        have hnin : ¬ c ∈ signSet := by
          rw [sig_mem]
          rintro ⟨i, hi, e⟩
          exact HN.out i hi hi e
        rw [if_neg hnin] at hsn
        subst hsn
        have hnx : ∀ ty, (Instr.next (.pointer (some ⟨o, 0, none⟩)) true ty).run Try.prog wr = _ := fun ty => Lib.run_next_end_at wr o sigB 24 ty hr.get (by decide)
        clear HN hnin
        go_wp2_with fail
        go_ret
        exact ⟨rfl, hr.drop⟩

end Go.Proofs.Ytoeepbjnbgpmpaa
