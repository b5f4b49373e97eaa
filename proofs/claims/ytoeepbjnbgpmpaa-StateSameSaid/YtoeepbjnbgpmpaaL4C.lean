/- Contracts of the document's lexer (pontoonref04): quoted, tag, dollar, small. -/
import Derived.Test.YtoeepbjnbgpmpaaL4B
import Derived.Laws.Concat
namespace Go.Proofs.Ytoeepbjnbgpmpaa
set_option linter.all false
open Go Go.RowKit

def qA (a : Nat) : Option (List UInt8 × Nat) → Int
  | some x => (a + x.2 : Nat)
  | none => -1
theorem cat1 (l : List UInt8) (s : ByteArray) (i : Nat) (h : i < s.size) : mk l ++ s.extract i (i + 1) = mk (l ++ [s[i]]) := by
  apply ByteArray.ext
  apply Array.ext'
  rw [ex_eq, bl_drop s i h]
  simp [mk]

set_option maxRecDepth 100000 in
set_option maxHeartbeats 4000000 in
theorem rquoted_any (w : World) (s : ByteArray) (a : Nat) (ha : a < s.size) (hs : s.size ≤ 1000000000) :
    Calls Try.prog 66 #[.string s, .int .i64 a] w fun e w' => e = .returned (.tuple #[.string (qT (quotL s[a] ((bl s).drop (a + 1)) [] 1)), .int .i64 (qA a (quotL s[a] ((bl s).drop (a + 1)) [] 1))]) ∧ w = w' := by
  obtain ⟨q, hq⟩ : ∃ q, s[a] = q := ⟨_, rfl⟩
  rw [hq]
  obtain ⟨res, HX⟩ : ∃ res, Hid (quotL q ((bl s).drop (a + 1)) [] 1 = res) := ⟨_, rfl⟩
  rw [HX.out]
  have haI : (a : Int) < s.size := by omega
  go_enter Try.func66, Try.ntmps66
  go_wp2_with fail
  go_loopw [7, 8] (fun s7 s8 wr => ∃ (i : Nat) (l : List UInt8), 1 ≤ i ∧ a + i ≤ s.size ∧ s8 = .int .i64 (a + i : Nat) ∧ s7 = .string (mk l) ∧ l.length < i ∧ Hid (quotL q ((bl s).drop (a + i)) l i = res) ∧ w = wr) (fun _ s8 _ => s.size - (intOf s8).toNat)
  case atStart => exact ⟨1, [], Nat.le_refl _, ha, by go_num, rfl, by simp, HX, rfl⟩
  case round =>
    clear HX
    obtain ⟨i, l, hi1, hi, rfl, rfl, hll, HR, rfl⟩ := hrel
    obtain ⟨j, hj⟩ : ∃ j, j = a + i := ⟨_, rfl⟩
    have HJ := Lib.hid hj
    rw [← hj] at hi HR
    rw [← hj]
    have hia : i ≤ j := by omega
    by_cases hlt : j < s.size
    · have hlt' : (j : Int) < s.size := by omega
      have hjI : (j : Int) ≤ s.size := by omega
      have hj1 : (j : Int) + 1 ≤ s.size := by omega
      have HS := Lib.hid (quotL_step q ((bl s).drop j) l i)
      rw [bl_drop s j hlt] at HS
      have hcat := cat1 l s j hlt
      have hszl : (mk l).size = l.length := mk_size l
      by_cases hq2 : s[j] = q
      · have hb : ((s[j].toNat : Int) == q.toNat) = true := by rw [hq2]; simp
        have hbn : (!((s[j].toNat : Int) == q.toNat)) = false := by rw [hb]; rfl
        by_cases hl2 : j + 1 < s.size
        · have hl2' : (j : Int) + 1 < s.size := by omega
          rw [bl_drop s (j + 1) hl2] at HS
          by_cases hq3 : s[j + 1] = q
          · have HN : Hid (quotL q ((bl s).drop (j + 2)) (l ++ [s[j]]) (i + 2) = res) := by
              unfold Hid
              rw [← HR.out, bl_drop s j hlt, bl_drop s (j + 1) hl2, HS.out]
              simp only [hq2, hq3, if_true]
            have hb2 : ((s[j + 1].toNat : Int) == q.toNat) = true := by rw [hq3]; simp
            have HC := Lib.hid hcat
            clear HR HS hq2 hq3 hj hcat
            go_wp2_with fail
            go_roundw
            case rel => exact ⟨i + 2, l ++ [s[j]], by omega, by have := HJ.out; omega, by have := HJ.out; go_num, by rw [HC.out], by simp; omega, by have := HJ.out; rw [show a + (i + 2) = j + 2 by omega]; exact HN, trivial⟩
            case measure => simp [intOf]; omega
          · have hx : res = some (l, i + 1) := by
              rw [← HR.out, bl_drop s j hlt, bl_drop s (j + 1) hl2, HS.out]
              simp only [hq2, if_true, if_neg hq3]
            subst hx
            have hb2 : ((s[j + 1].toNat : Int) == q.toNat) = false := by
              simp only [beq_eq_false_iff_ne, ne_eq, Int.natCast_inj]; exact fun e => hq3 (UInt8.toNat_inj.1 e)
            clear HR HS hq2 hq3 hj hcat
            go_wp2_with fail
            go_ret2
            exact ⟨by have := HJ.out; simp only [qT, qA]; go_num, rfl⟩
        · have hx : res = some (l, i + 1) := by
            rw [← HR.out, bl_drop s j hlt, HS.out, List.drop_eq_nil_of_le (by rw [bl_len]; omega)]
            simp only [hq2, if_true]
          subst hx
          have hl2' : ¬ (j : Int) + 1 < s.size := by omega
          clear HR HS hq2 hj hcat
          go_wp2_with fail
          go_ret2
          exact ⟨by have := HJ.out; simp only [qT, qA]; go_num, rfl⟩
      · have HN : Hid (quotL q ((bl s).drop (j + 1)) (l ++ [s[j]]) (i + 1) = res) := by
          unfold Hid
          rw [← HR.out, bl_drop s j hlt, HS.out]
          simp only [if_neg hq2]
        have hb : ((s[j].toNat : Int) == q.toNat) = false := by
          simp only [beq_eq_false_iff_ne, ne_eq, Int.natCast_inj]; exact fun e => hq2 (UInt8.toNat_inj.1 e)
        have hbn : (!((s[j].toNat : Int) == q.toNat)) = true := by rw [hb]; rfl
        have HC := Lib.hid hcat
        clear HR HS hq2 hj hcat
        go_wp2_with fail
        go_roundw
        case rel => exact ⟨i + 1, l ++ [s[j]], by omega, by have := HJ.out; omega, by have := HJ.out; go_num, by rw [HC.out], by simp; omega, by have := HJ.out; rw [show a + (i + 1) = j + 1 by omega]; exact HN, trivial⟩
        case measure => simp [intOf]; omega
    · have HE : res = none := by
        rw [← HR.out, List.drop_eq_nil_of_le (by rw [bl_len]; omega)]; rfl
      subst HE
      have hlt' : ¬ (j : Int) < s.size := by omega
      clear HR hlt hj
      go_wp2_with fail
      go_ret2
      exact ⟨rfl, rfl⟩

end Go.Proofs.Ytoeepbjnbgpmpaa
