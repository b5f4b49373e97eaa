/- Contracts of package lexer: quoted, small, sign. -/
import Derived.Test.YtoeepbjnbgpmpaaLexB
import Derived.Test.YtoeepbjnbgpmpaaBytesS
import Derived.Laws.BytesString
import Derived.Laws.RangeAny
import Derived.Lib.OthersKept
namespace Go.Proofs.Ytoeepbjnbgpmpaa
set_option linter.all false
open Go Go.RowKit

theorem TBytes : SliceT Try.prog 82 5 (.int .u8 0) 1 1 := ⟨Try.underlying82, by kernel_rfl, rfl, by decide⟩
theorem byteVs_snoc (l : List UInt8) (c : UInt8) : byteVs l ++ [byteV c] = byteVs (l ++ [c]) := by simp [byteVs]
/-- 'string(b)' of bytes that are owned. -/
theorem own_back {P : Program} {k : Env} {w : World} {R : Assn} {e : TypeId} {a : Option Addr} {n cap : Nat} {l : List UInt8} (src dst : TypeId) (hs : P.underlying src = some (.slice e)) (he : P.underlying e = some (.int .u8)) (hd : P.underlying dst = some .string)
    (hn : n = l.length) (h : Sat k w (Own e 1 (.slice a n cap) n (byteVs l) * R)) : (convert src dst (.slice a n cap)).run P w = .ok (.string (mk l)) w := by
  subst hn
  by_cases hl : 0 < l.length
  · obtain ⟨g, rfl, _, hc, _⟩ := own_get h hl
    exact run_convert_bytes_back w src dst e ⟨g, 0, none⟩ cap l hs he hd fun j hj => by
      rw [Addr.add_lit, Nat.zero_add, hc j (by omega)]
      simp [byteVs, byteV, hj]
  · have h0 : l = [] := List.length_eq_zero_iff.1 (by omega)
    subst h0
    rcases own_block h with ⟨rfl, _, rfl, _⟩ | ⟨g, cur, rfl, _⟩
    · rw [List.length_nil, run_convert_bytes_string w src dst e none 0 0 hs he hd]; rfl
    · exact run_convert_bytes_back w src dst e ⟨g, 0, none⟩ cap [] hs he hd fun j hj => by cases hj

theorem quotL_step (q : UInt8) (l acc : List UInt8) (i : Nat) : quotL q l acc i = match l with
    | [] => none
    | c :: r => if c = q then (match r with | [] => some (acc, i + 1) | d :: r' => if d = q then quotL q r' (acc ++ [q]) (i + 2) else some (acc, i + 1)) else quotL q r (acc ++ [c]) (i + 1) := by
  match l with
  | [] => rfl
  | [c] => by_cases hc : c = q <;> simp [quotL, hc]
  | c :: d :: r => conv => lhs; rw [quotL.eq_def]

def qT : Option (List UInt8 × Nat) → ByteArray
  | some x => mk x.1
  | none => ⟨#[]⟩
def qN : Option (List UInt8 × Nat) → Int
  | some x => x.2
  | none => -1

set_option maxRecDepth 100000 in
set_option maxHeartbeats 4000000 in
theorem quoted_any (k : Env) (w : World) (R : Assn) (s : ByteArray) (c : UInt8) (r : List UInt8) (hsr : bl s = c :: r) (hs : s.size ≤ 1000000000) (h : Sat k w R) :
    Calls Try.prog 87 #[.string s] w fun e w' => e = .returned (.tuple #[.string (qT (quotL c r [] 1)), .int .i64 (qN (quotL c r [] 1))]) ∧ Sat k w' R := by
  obtain ⟨res, HRES⟩ : ∃ res, Hid (quotL c r [] 1 = res) := ⟨_, rfl⟩
  rw [HRES.out]
  have hsz : s.size = r.length + 1 := by rw [← bl_len, hsr]; rfl
  have h0 : 0 < s.size := by omega
  have hc0 : s[0] = c := by
    rw [← bl_get s 0 h0]
    simp only [hsr]
    rfl
  have hs0 : (0 : Int) < s.size := by omega
  have HD : Hid ((bl s).drop 1 = r) := by unfold Hid; rw [hsr]; rfl
  have hnil := own_nil (e := 5) (size := 1) h
  clear hsr h hsz
  go_enter Try.func87, Try.ntmps87
  go_wp2_with fail
  go_loopw [4, 5] (fun s4 s5 wr => ∃ (j : Nat) (l : List UInt8), 1 ≤ j ∧ j ≤ s.size ∧ s5 = .int .i64 j ∧ l.length < j ∧ Hid (quotL c ((bl s).drop j) l j = res) ∧ Sat k wr (Own 5 1 s4 l.length (byteVs l) * R)) (fun _ s5 _ => s.size - (intOf s5).toNat)
  case atStart => exact ⟨1, [], Nat.le_refl _, h0, rfl, by simp, by unfold Hid; rw [HD.out]; exact HRES.out, hnil⟩
  case round =>
    clear hnil HRES HD
    obtain ⟨j, l, hj, hj2, rfl, hll, HR, hr⟩ := hrel
    obtain ⟨la, lc, rfl⟩ := own_val hr
    by_cases hlt : j < s.size
    · have hlt' : (j : Int) < s.size := by omega
      have HS := Lib.hid (quotL_step c ((bl s).drop j) l j)
      obtain ⟨i2, hi2⟩ : ∃ i2 : Nat, i2 = j + 1 := ⟨_, rfl⟩
      have hwj : IntKind.i64.wrap ((j : Int) + 1) = i2 := by rw [IntWalk.i64_in _ (by omega)]; omega
      rw [bl_drop s j hlt] at HS
      by_cases hq : s[j] = c
      · have hb : ((s[j].toNat : Int) == c.toNat) = true := by rw [hq]; simp
        by_cases hl2 : i2 < s.size
        · have hl2' : (i2 : Int) < s.size := by omega
          have hne : ((i2 : Int) == s.size) = false := by simp; omega
          rw [← hi2, bl_drop s i2 hl2] at HS
          by_cases hq2 : s[i2] = c
          · have HX : Hid (quotL c ((bl s).drop (i2 + 1)) (l ++ [s[i2]]) (i2 + 1) = res) := by
              unfold Hid
              rw [← HR.out, bl_drop s j hlt, ← hi2, bl_drop s i2 hl2, HS.out]
              simp only [hq, hq2, if_true]
              rw [hi2]
            have hb2 : ((s[i2].toNat : Int) == c.toNat) = true := by rw [hq2]; simp
            have HI := Lib.hid hi2
            clear HR HS hq hq2 hi2
            go_wp2_with fail
            go_quiet (fail)
            replace hr := hr.drewN nq
            generalize wr.drewN nq = wr at *
            go_wp2_with fail
            go_quiet (fail)
            replace hr := hr.drewN nq
            generalize wr.drewN nq = wr at *
            go_wp2_with (at_builtin; refine wpList_append_sat TBytes (hr.alloc' _) (.tmp 38) (.tmp 42) _ 1 1 [byteV s[i2]] rfl rfl rfl rfl rfl (fun _ => ⟨_, rfl, new_cells_at _ _ _ _ (by first | rfl | simp)⟩) (fun u hu => by simp [byteV] at hu; subst hu; rfl) (by simp [maxLen]; omega) (by omega) ?_; intro a7 c7 w7 h7)
            go_roundw
            case rel => exact ⟨i2 + 1, l ++ [s[i2]], by omega, by omega, by have := HI.out; go_num, by have := HI.out; simp; omega, HX, h7.of_eq (by rw [byteVs_snoc, List.length_append]; rfl)⟩
            case measure => have := HI.out; simp [intOf]; omega
          · have HX : res = some (l, i2) := by
              rw [← HR.out, bl_drop s j hlt, ← hi2, bl_drop s i2 hl2, HS.out]
              simp only [hq, if_true, if_neg hq2]
              try rw [hi2]
            subst HX
            have hb2 : ((s[i2].toNat : Int) == c.toNat) = false := by
              simp only [beq_eq_false_iff_ne, ne_eq, Int.natCast_inj]; exact fun e => hq2 (UInt8.toNat_inj.1 e)
            have HI := Lib.hid hi2
            clear HR HS hq hq2 hi2
            go_wp2_with fail
            go_quiet (fail)
            replace hr := hr.drewN nq
            generalize wr.drewN nq = wr at *
            go_wp2_with fail
            go_quiet (fail)
            replace hr := hr.drewN nq
            generalize wr.drewN nq = wr at *
            have hb := own_back (P := Try.prog) 82 9 Try.underlying82 Try.underlying5 Try.underlying9 rfl hr
            go_wp2_with fail
            go_ret2
            exact ⟨rfl, hr.drop⟩
        · have HX : res = some (l, i2) := by
            rw [← HR.out, bl_drop s j hlt, HS.out, List.drop_eq_nil_of_le (by rw [bl_len]; omega)]
            simp only [hq, if_true]
            try rw [hi2]
          subst HX
          have hne : ((i2 : Int) == s.size) = true := by simp; omega
          have HI := Lib.hid hi2
          clear HR HS hq hi2
          go_wp2_with fail
          go_quiet (fail)
          replace hr := hr.drewN nq
          generalize wr.drewN nq = wr at *
          go_wp2_with fail
          go_quiet (fail)
          replace hr := hr.drewN nq
          generalize wr.drewN nq = wr at *
          have hb := own_back (P := Try.prog) 82 9 Try.underlying82 Try.underlying5 Try.underlying9 rfl hr
          go_wp2_with fail
          go_ret2
          exact ⟨rfl, hr.drop⟩
      · have HX : Hid (quotL c ((bl s).drop (j + 1)) (l ++ [s[j]]) (j + 1) = res) := by
          unfold Hid
          rw [← HR.out, bl_drop s j hlt, HS.out]
          simp only [if_neg hq]
        have hb : ((s[j].toNat : Int) == c.toNat) = false := by
          simp only [beq_eq_false_iff_ne, ne_eq, Int.natCast_inj]; exact fun e => hq (UInt8.toNat_inj.1 e)
        clear HR HS hq
        go_wp2_with fail
        go_quiet (fail)
        replace hr := hr.drewN nq
        generalize wr.drewN nq = wr at *
        go_wp2_with (at_builtin; refine wpList_append_sat TBytes (hr.alloc' _) (.tmp 38) (.tmp 42) _ 1 1 [byteV s[j]] rfl rfl rfl rfl rfl (fun _ => ⟨_, rfl, new_cells_at _ _ _ _ (by first | rfl | simp)⟩) (fun u hu => by simp [byteV] at hu; subst hu; rfl) (by simp [maxLen]; omega) (by omega) ?_; intro a7 c7 w7 h7)
        go_roundw
        case rel => exact ⟨j + 1, l ++ [s[j]], by omega, by omega, by go_num, by simp; omega, HX, h7.of_eq (by rw [byteVs_snoc, List.length_append]; rfl)⟩
        case measure => simp [intOf]; omega
    · have HX : res = none := by
        rw [← HR.out, List.drop_eq_nil_of_le (by rw [bl_len]; omega)]; rfl
      subst HX
      have hlt' : ¬ (j : Int) < s.size := by omega
      clear HR hlt
      go_wp2_with fail
      go_ret2
      exact ⟨rfl, hr.drop⟩

/-- One byte more of bytes that are owned is written. -/
theorem ownF_set {k : Env} {w : World} {R : Assn} {e : TypeId} {g cap n : Nat} {xs : List Value} (h : Sat k w (OwnF e (.slice (some ⟨g, 0, none⟩) n cap) n xs * R)) (j : Nat) (hj : j < n) (v : Value) :
    w.frozen? ⟨g, j, none⟩ = false ∧ Sat k (w.setCell ⟨g, j, none⟩ v) (OwnF e (.slice (some ⟨g, 0, none⟩) n cap) n (xs.set j v) * R) := by
  obtain ⟨g', cap', cur, fr, he, h1, h2, h3, h4, h5, h6, hs⟩ := ownF_open h
  simp only [Value.slice.injEq, Option.some.injEq, Addr.mk.injEq, and_true, true_and] at he
  obtain ⟨rfl, rfl⟩ := he
  refine ⟨frozen_at hs j (h6 j (by omega)), ownF_mk (hs.set j v) h1 h2 (by simp; omega) (by simp; omega) ?_ h6⟩
  rw [Array.toList_setIfInBounds, List.take_set, h5]
theorem low_toNat (c : UInt8) (h : 65 ≤ c.toNat ∧ c.toNat ≤ 90) : ((low c).toNat : Int) = c.toNat + 32 := by
  unfold low
  rw [if_pos h, UInt8.toNat_add]
  have : (32 : UInt8).toNat = 32 := rfl
  rw [this]; omega
theorem low_same (c : UInt8) (h : ¬ (65 ≤ c.toNat ∧ c.toNat ≤ 90)) : low c = c := by unfold low; rw [if_neg h]

def lowS (s : ByteArray) : ByteArray := mk ((bl s).map low)
/-- The bytes of a text of which some are small already. -/
def half (l : List UInt8) (j : Nat) : List UInt8 := (l.take j).map low ++ l.drop j
theorem half_len (l : List UInt8) (j : Nat) : (half l j).length = l.length := by unfold half; simp; omega
theorem half_get (l : List UInt8) (j : Nat) (h : j < l.length) : (half l j)[j]'(by rw [half_len]; exact h) = l[j] := by
  have hm : min j l.length = j := Nat.min_eq_left (by omega)
  have e : (half l j)[j]? = l[j]? := by
    unfold half
    rw [List.getElem?_append_right (by simp [hm])]
    simp [hm]
  rw [List.getElem?_eq_getElem (by rw [half_len]; exact h), List.getElem?_eq_getElem h] at e
  exact Option.some.inj e
theorem half_set (l : List UInt8) (j : Nat) (h : j < l.length) : (half l j).set j (low l[j]) = half l (j + 1) := by
  have hm : min j l.length = j := Nat.min_eq_left (by omega)
  unfold half
  rw [List.drop_eq_getElem_cons h, List.take_succ, List.getElem?_eq_getElem h]
  simp only [Option.toList_some, List.map_append, List.map_cons, List.map_nil]
  rw [List.set_append_right _ _ (by simp [hm])]
  simp only [List.length_map, List.length_take, hm, Nat.sub_self, List.append_assoc, List.singleton_append]
  rw [← List.drop_eq_getElem_cons h]
  rw [show (l.drop j).set 0 (low l[j]) = low l[j] :: l.drop (j + 1) from by rw [List.drop_eq_getElem_cons h]; rfl]
theorem half_same (l : List UInt8) (j : Nat) (h : j < l.length) (hl : low l[j] = l[j]) : half l j = half l (j + 1) := by
  rw [← half_set l j h, hl, ← half_get l j h, List.set_getElem_self]
theorem byteVs_set (l : List UInt8) (j : Nat) (c : UInt8) : (byteVs l).set j (byteV c) = byteVs (l.set j c) := by
  unfold byteVs; rw [List.map_set]

set_option maxRecDepth 100000 in
set_option maxHeartbeats 4000000 in
theorem small_any (k : Env) (w : World) (R : Assn) (s : ByteArray) (hs : s.size ≤ 1000000000) (h : Sat k w R) :
    Calls Try.prog 85 #[.string s] w fun e w' => e = .returned (.string (lowS s)) ∧ Sat k w' R := by
  have hb := run_bytes_of_string (P := Try.prog) w 9 82 5 s Try.underlying9 Try.underlying82 Try.underlying5
  have hcap := grownCap_ge w s.size 0 5
  go_enter Try.func85, Try.ntmps85
  go_wp2_with fail
  have h1 := bytes_made (e := 5) h s (grownCap w s.size 0 5) hcap (grownCap_le_maxLen w s.size 0 _ (by unfold maxLen; omega)) ((bytesRow s (grownCap w s.size 0 5)).size, (bytesRow s (grownCap w s.size 0 5)).size + 1) (by unfold bytesRow; have : s.data.size = s.size := rfl; simp; omega)
  clear hb hcap
  generalize grownCap w s.size 0 5 = cap at *
  generalize w.heap.size = g at *
  have h2 : Sat k (w.drew.alloc (.cells (bytesRow s cap) 5 ((bytesRow s cap).size, (bytesRow s cap).size + 1))) (OwnF 5 (.slice (some ⟨g, 0, none⟩) s.size cap) s.size (byteVs (half (bl s) 0)) * R) := h1
  clear h1 h
  go_loopw [4, 5, 10] (fun _ _ s10 wr => ∃ j : Nat, j ≤ s.size ∧ s10 = .int .i64 j ∧ Sat k wr (OwnF 5 (.slice (some ⟨g, 0, none⟩) s.size cap) s.size (byteVs (half (bl s) j)) * R)) (fun _ _ s10 _ => s.size - (intOf s10).toNat)
  case atStart => exact ⟨0, Nat.zero_le _, rfl, h2⟩
  case round =>
    clear h2
    obtain ⟨j, hj, rfl, hr⟩ := hrel
    by_cases hlt : j < s.size
    · have hlt' : (j : Int) < s.size := by omega
      have hjl : j < (bl s).length := by rw [bl_len]; exact hlt
      have d0 : wr.cell? ⟨g, j, none⟩ = some (byteV s[j]) := by
        rw [ownF_cell hr j hlt]
        have := half_get (bl s) j hjl
        unfold byteVs
        rw [List.getElem?_map, List.getElem?_eq_getElem (by rw [half_len]; exact hjl), this]; rfl
      unfold byteV at d0
      by_cases hc : 65 ≤ s[j].toNat ∧ s[j].toNat ≤ 90
      · have hc1 : (65 : Int) ≤ s[j].toNat := by omega
        have hc2 : (s[j].toNat : Int) ≤ 90 := by omega
        have hlow := low_toNat s[j] hc
        have hw1 : IntKind.u8.wrap ((s[j].toNat : Int) + 97) = s[j].toNat + 97 := by have : IntKind.u8.wrap ((s[j].toNat : Int) + 97) = ((s[j].toNat : Int) + 97) % 256 := rfl; omega
        have hw2 : IntKind.u8.wrap ((s[j].toNat : Int) + 97 - 65) = s[j].toNat + 32 := by have : IntKind.u8.wrap ((s[j].toNat : Int) + 97 - 65) = ((s[j].toNat : Int) + 97 - 65) % 256 := rfl; omega
        obtain ⟨hf, h3⟩ := ownF_set hr j hlt (byteV (low s[j]))
        rw [byteVs_set, ← bl_get s j hlt, half_set (bl s) j hjl] at h3
        unfold byteV at h3
        rw [bl_get s j hlt, hlow] at h3
        clear hlow hc
        go_wp2_with fail
        go_roundw
        case rel => exact ⟨j + 1, by omega, by go_num, h3⟩
        case measure => simp [intOf]; omega
      · have HS : Hid (half (bl s) j = half (bl s) (j + 1)) := half_same (bl s) j hjl (low_same _ hc)
        by_cases hc1 : 65 ≤ s[j].toNat
        · have hc2 : ¬ s[j].toNat ≤ 90 := fun q => hc ⟨hc1, q⟩
          have hc1' : (65 : Int) ≤ s[j].toNat := by omega
          have hc2' : ¬ (s[j].toNat : Int) ≤ 90 := by omega
          clear hc hc1 hc2
          go_wp2_with fail
          go_roundw
          case rel => exact ⟨j + 1, by omega, by go_num, by rw [← HS.out]; exact hr⟩
          case measure => simp [intOf]; omega
        · have hc1' : ¬ (65 : Int) ≤ s[j].toNat := by omega
          clear hc hc1
          go_wp2_with fail
          go_roundw
          case rel => exact ⟨j + 1, by omega, by go_num, by rw [← HS.out]; exact hr⟩
          case measure => simp [intOf]; omega
    · have hjs : j = s.size := by omega
      have he : half (bl s) j = (bl s).map low := by
        unfold half
        rw [List.take_of_length_le (by rw [bl_len]; omega), List.drop_eq_nil_of_le (by rw [bl_len]; omega), List.append_nil]
      rw [he] at hr
      have hlt' : ¬ (j : Int) < s.size := by omega
      have hb2 := bytes_back (P := Try.prog) (l := (bl s).map low) 82 9 Try.underlying82 Try.underlying5 Try.underlying9 (by rw [List.length_map, bl_len]; exact hr)
      rw [List.length_map, bl_len] at hb2
      clear hlt hjs he
      go_wp2_with fail
      go_ret
      exact ⟨rfl, hr.drop⟩

end Go.Proofs.Ytoeepbjnbgpmpaa
