/- Contracts of the document's lexer (pontoonref04): dollar, small. -/
import Derived.Test.YtoeepbjnbgpmpaaL4D
namespace Go.Proofs.Ytoeepbjnbgpmpaa
set_option linter.all false
open Go Go.RowKit

def dA (a m : Nat) : Option Nat → Int
  | some i => (a + i + m : Nat)
  | none => -1
set_option maxRecDepth 100000 in
set_option maxHeartbeats 4000000 in
theorem rdollar_any (w : World) (s : ByteArray) (a n : Nat) (hn : 1 ≤ n) (hm : a + n ≤ s.size) (hs : s.size ≤ 1000000000) (b : Int) (hb : b = (a + n : Nat)) :
    Calls Try.prog 68 #[.string s, .int .i64 a, .int .i64 b] w fun e w' => e = .returned (.tuple #[.string (dT ((bl s).drop a) n (dolF (((bl s).drop a).take n) (((bl s).drop a).drop n) n)), .int .i64 (dA a n (dolF (((bl s).drop a).take n) (((bl s).drop a).drop n) n))]) ∧ w = w' := by
  obtain ⟨T, hT⟩ : ∃ T, ((bl s).drop a).take n = T := ⟨_, rfl⟩
  have hTl : T.length = n := by rw [← hT, List.length_take, List.length_drop, bl_len]; omega
  have HTL := Lib.hid hTl
  rw [hT]
  obtain ⟨res, HRES⟩ : ∃ res, Hid (dolF T (((bl s).drop a).drop n) n = res) := ⟨_, rfl⟩
  rw [HRES.out]
  obtain ⟨o, ho⟩ : ∃ o, o = a + n := ⟨_, rfl⟩
  have hbo : b = (o : Int) := by rw [hb, ho]
  subst hbo
  clear hb
  have HX : Hid (dolF T ((bl s).drop (a + n)) n = res) := by unfold Hid; rw [← HRES.out, List.drop_drop]
  have HO := Lib.hid ho
  have hbl : bl (s.extract a o) = T := by rw [bl_ex, ho, Nat.add_sub_cancel_left]; exact hT
  have hxs : (s.extract a o).size = n := by rw [← bl_len, hbl, hTl]
  have haI : (a : Int) ≤ o := by omega
  have hoI : (o : Int) ≤ s.size := by omega
  have CS := Lib.hid (fun w (j : Nat) (hj : j ≤ s.size) => starts_any w s (s.extract a o) j hs (by omega) hj)
  rw [hbl] at CS
  clear HRES hT hxs hbl
  go_enter Try.func68, Try.ntmps68
  go_wp2_with fail
  go_loopw [8] (fun s8 wr => ∃ i : Nat, n ≤ i ∧ a + i ≤ s.size + 1 ∧ s8 = .int .i64 (a + i : Nat) ∧ Hid (dolF T ((bl s).drop (a + i)) i = res) ∧ w = wr) (fun s8 _ => s.size + 1 - (intOf s8).toNat)
  case atStart => exact ⟨n, Nat.le_refl _, by omega, by rw [ho], HX, rfl⟩
  case round =>
    clear HX ho
    obtain ⟨i, hni, hi, rfl, HR, rfl⟩ := hrel
    obtain ⟨j, hj⟩ : ∃ j, j = a + i := ⟨_, rfl⟩
    have HJ := Lib.hid hj
    rw [← hj] at hi HR
    rw [← hj]
    have hoj : (o : Int) ≤ j := by have := HO.out; omega
    by_cases hend : j = s.size + 1
    · have hx : res = none := by
        rw [← HR.out, List.drop_eq_nil_of_le (by rw [bl_len]; omega)]; rfl
      subst hx
      have hlt' : ¬ (j : Int) ≤ s.size := by omega
      clear HR hj hend
      go_wp2_with fail
      go_ret2
      exact ⟨rfl, rfl⟩
    replace hi : j ≤ s.size := by omega
    clear hend
    have hjI : (j : Int) ≤ s.size := by omega
    have C := CS.out w j hi
    have hexq : s.extract o j = mk (((((bl s).drop a).take i)).drop n) := by
      have := HO.out
      rw [ex_eq, List.drop_take, List.drop_drop]
      rw [show a + n = o by omega, show j - o = i - n by omega]
    cases hp : T.isPrefixOf ((bl s).drop j) with
    | true =>
      have hne : (bl s).drop j ≠ [] := by
        intro q
        have := (List.isPrefixOf_iff_prefix.1 hp).length_le
        have h2 := HTL.out
        rw [q, h2] at this
        simp at this
        omega
      have hlt : j < s.size := by
        refine Classical.byContradiction fun q => hne (List.drop_eq_nil_of_le (by rw [bl_len]; omega))
      have hx : res = some i := by
        rw [← HR.out]
        have := hp
        rw [bl_drop s j hlt] at this ⊢
        rw [dolF, if_pos this]
      subst hx
      rw [hp] at C
      have D := Lib.hid C
      have HE := Lib.hid hexq
      clear C hp HR hne hj hexq
      go_wp2_with (go_at_call 60; (with_reducible refine (D.out).mono ?_); rintro e w1 ⟨rfl, rfl⟩)
      go_ret2
      exact ⟨by have := HJ.out; have := HO.out; simp only [dT, dA]; rw [← HE.out]; go_num, rfl⟩
    | false =>
      rw [hp] at C
      have D := Lib.hid C
      by_cases hlt : j < s.size
      · have HN : Hid (dolF T ((bl s).drop (j + 1)) (i + 1) = res) := by
          have h1 := hp
          unfold Hid
          rw [← HR.out]
          rw [bl_drop s j hlt] at h1 ⊢
          conv => rhs; rw [dolF]
          rw [if_neg (by rw [h1]; decide)]
        clear C hp HR hj hexq
        go_wp2_with (go_at_call 60; (with_reducible refine (D.out).mono ?_); rintro e w1 ⟨rfl, rfl⟩)
        go_roundw
        case rel => exact ⟨i + 1, by omega, by have := HJ.out; omega, by have := HJ.out; go_num, by have := HJ.out; rw [show a + (i + 1) = j + 1 by omega]; exact HN, trivial⟩
        case measure => simp [intOf]; omega
      · have HN : Hid (dolF T ((bl s).drop (j + 1)) (i + 1) = res) := by
          unfold Hid
          rw [← HR.out, List.drop_eq_nil_of_le (by rw [bl_len]; omega), List.drop_eq_nil_of_le (by rw [bl_len]; omega)]; rfl
        clear C hp HR hj hexq hlt
        go_wp2_with (go_at_call 60; (with_reducible refine (D.out).mono ?_); rintro e w1 ⟨rfl, rfl⟩)
        go_roundw
        case rel => exact ⟨i + 1, by omega, by have := HJ.out; omega, by have := HJ.out; go_num, by have := HJ.out; rw [show a + (i + 1) = j + 1 by omega]; exact HN, trivial⟩
        case measure => simp [intOf]; omega

set_option maxRecDepth 100000 in
set_option maxHeartbeats 4000000 in
theorem rsmall_any (k : Env) (w : World) (R : Assn) (s : ByteArray) (hs : s.size ≤ 1000000000) (h : Sat k w R) :
    Calls Try.prog 64 #[.string s] w fun e w' => e = .returned (.string (lowS s)) ∧ Sat k w' R := by
  have hb := run_bytes_of_string (P := Try.prog) w 9 82 5 s Try.underlying9 Try.underlying82 Try.underlying5
  have hcap := grownCap_ge w s.size 0 5
  go_enter Try.func64, Try.ntmps64
  go_wp2_with fail
  have h1 := bytes_made (e := 5) h s (grownCap w s.size 0 5) hcap (grownCap_le_maxLen w s.size 0 _ (by unfold maxLen; omega)) ((bytesRow s (grownCap w s.size 0 5)).size, (bytesRow s (grownCap w s.size 0 5)).size + 1) (by unfold bytesRow; have : s.data.size = s.size := rfl; simp; omega)
  clear hb hcap
  generalize grownCap w s.size 0 5 = cap at *
  generalize w.heap.size = g at *
  have h2 : Sat k (w.drew.alloc (.cells (bytesRow s cap) 5 ((bytesRow s cap).size, (bytesRow s cap).size + 1))) (OwnF 5 (.slice (some ⟨g, 0, none⟩) s.size cap) s.size (byteVs (half (bl s) 0)) * R) := h1
  clear h1 h
  go_loopw [4] (fun s4 wr => ∃ j : Nat, j ≤ s.size ∧ s4 = .int .i64 j ∧ Sat k wr (OwnF 5 (.slice (some ⟨g, 0, none⟩) s.size cap) s.size (byteVs (half (bl s) j)) * R)) (fun s4 _ => s.size - (intOf s4).toNat)
  case atStart => exact ⟨0, Nat.zero_le _, rfl, h2⟩
  case round =>
    clear h2
    obtain ⟨j, hj, rfl, hr⟩ := hrel
    by_cases hlt : j < s.size
    · have hlt' : (j : Int) < s.size := by omega
      have hjl : j < (bl s).length := by rw [bl_len]; exact hlt
      have d0 : wr.cell? ⟨g, j, none⟩ = some (byteV s[j]) := by
        rw [ownF_cell hr j hlt]
        have := half_get (bl s) j hjl
        unfold byteVs
        rw [List.getElem?_map, List.getElem?_eq_getElem (by rw [half_len]; exact hjl), this]; rfl
      unfold byteV at d0
      by_cases hc : 65 ≤ s[j].toNat ∧ s[j].toNat ≤ 90
      · have hc1 : (65 : Int) ≤ s[j].toNat := by omega
        have hc2 : (s[j].toNat : Int) ≤ 90 := by omega
        have hlow := low_toNat s[j] hc
        have hw1 : IntKind.u8.wrap ((s[j].toNat : Int) + 32) = s[j].toNat + 32 := by have : IntKind.u8.wrap ((s[j].toNat : Int) + 32) = ((s[j].toNat : Int) + 32) % 256 := rfl; omega
        obtain ⟨hf, h3⟩ := ownF_set hr j hlt (byteV (low s[j]))
        rw [byteVs_set, ← bl_get s j hlt, half_set (bl s) j hjl] at h3
        unfold byteV at h3
        rw [bl_get s j hlt, hlow] at h3
        clear hlow hc
        go_wp2_with fail
        go_roundw
        case rel => exact ⟨j + 1, by omega, by go_num, h3⟩
        case measure => simp [intOf]; omega
      · have HS : Hid (half (bl s) j = half (bl s) (j + 1)) := half_same (bl s) j hjl (low_same _ hc)
        by_cases hc1 : 65 ≤ s[j].toNat
        · have hc2 : ¬ s[j].toNat ≤ 90 := fun q => hc ⟨hc1, q⟩
          have hc1' : (65 : Int) ≤ s[j].toNat := by omega
          have hc2' : ¬ (s[j].toNat : Int) ≤ 90 := by omega
          clear hc hc1 hc2
          go_wp2_with fail
          go_roundw
          case rel => exact ⟨j + 1, by omega, by go_num, by rw [← HS.out]; exact hr⟩
          case measure => simp [intOf]; omega
        · have hc1' : ¬ (65 : Int) ≤ s[j].toNat := by omega
          clear hc hc1
          go_wp2_with fail
          go_roundw
          case rel => exact ⟨j + 1, by omega, by go_num, by rw [← HS.out]; exact hr⟩
          case measure => simp [intOf]; omega
    · have hjs : j = s.size := by omega
      have he : half (bl s) j = (bl s).map low := by
        unfold half
        rw [List.take_of_length_le (by rw [bl_len]; omega), List.drop_eq_nil_of_le (by rw [bl_len]; omega), List.append_nil]
      rw [he] at hr
      have hlt' : ¬ (j : Int) < s.size := by omega
      have hb2 := bytes_back (P := Try.prog) (l := (bl s).map low) 82 9 Try.underlying82 Try.underlying5 Try.underlying9 (by rw [List.length_map, bl_len]; exact hr)
      rw [List.length_map, bl_len] at hb2
      clear hlt hjs he
      go_wp2_with fail
      go_ret
      exact ⟨rfl, hr.drop⟩

end Go.Proofs.Ytoeepbjnbgpmpaa
