/- Contracts of package class: in, words. -/
import Derived.Test.YtkjhfpjjcagecaaClassM
import Derived.Laws.MakeOwn
namespace Go.Proofs.Ytkjhfpjjcagecaa
set_option linter.all false
open Go Go.RowKit

theorem memB_cons_false {s x : ByteArray} {l : List ByteArray} (h : ¬ x = s) : memB s (x :: l) = memB s l := by
  unfold memB; rw [List.any_cons, decide_eq_false h]; rfl

set_option maxHeartbeats 2000000 in
theorem cin_any (k : Env) (w : World) (R : Assn) (a : Option Addr) (cap : Nat) (l : List ByteArray) (s : ByteArray) (hr : Rd k R a l) (hn : l.length ≤ 1000000000) (h : Sat k w R) :
    Calls Try.prog 49 #[.string s, .slice a l.length cap] w fun e w' => e = .returned (.bool (memB s l)) ∧ Sat k w' R := by
  have HR := Lib.hid hr
  clear hr
  go_enter Try.func49, Try.ntmps49
  go_wp2_with fail
  go_loopw [6, 9] (fun _ s9 wr => ∃ j : Nat, j ≤ l.length ∧ s9 = .int .i64 j ∧ Hid (memB s (l.take j) = false) ∧ Sat k wr R) (fun _ s9 _ => l.length - (intOf s9).toNat)
  case atStart => exact ⟨0, Nat.zero_le _, rfl, rfl, h⟩
  case round =>
    clear h
    obtain ⟨j, hj, rfl, HB, hs⟩ := hrel
    by_cases hlt : j < l.length
    · have hlt' : (j : Int) < l.length := by omega
      obtain ⟨g, o, rfl, d⟩ := rd_get HR.out hs j hlt
      have HSN : Hid (memB s (l.take (j + 1)) = (memB s (l.take j) || decide (l[j] = s))) := by
        have hsn : l.take (j + 1) = l.take j ++ [l[j]] := by rw [List.take_succ]; simp [hlt]
        unfold Hid; rw [hsn, memB_snoc]
      have HM : Hid (l[j] ∈ l) := List.getElem_mem hlt
      generalize l[j] = x at *
      have hcmp : (x.toList == s.toList) = decide (x = s) := tl_beq _ _
      by_cases hx : x = s
      · rw [decide_eq_true hx] at hcmp
        have HX := Lib.hid hx
        clear hx
        have HT : Hid (memB s l = true) := by
          have h1 := HM.out
          have h2 := HX.out
          rw [h2] at h1
          exact memB_iff.2 h1
        go_wp2_with fail
        go_ret
        exact ⟨by rw [HT.out]; rfl, hs⟩
      · rw [decide_eq_false hx] at hcmp
        rw [decide_eq_false hx] at HSN
        have HX := Lib.hid hx
        clear hx
        go_wp2_with fail
        go_roundw
        case rel => exact ⟨j + 1, by omega, by go_num, by unfold Hid; rw [HSN.out, HB.out]; rfl, hs⟩
        case measure => simp [intOf]; omega
    · have hjl : j = l.length := by omega
      subst hjl
      rw [List.take_length] at HB
      go_wp2_with fail
      go_ret
      exact ⟨by rw [HB.out]; rfl, hs⟩

theorem strs_made {k : Env} {w : World} {R : Assn} (n : Nat) (hn : n ≤ maxLen) (cs : Array Value) (hc : cs = (strs (List.replicate n ⟨#[]⟩)).toArray) (h : Sat k w R) : Sat k (w.alloc (.cells cs 9)) (Strs (.slice (some ⟨w.heap.size, 0, none⟩) n n) (List.replicate n ⟨#[]⟩) * R) := by
  subst hc
  have := strs_lit (k := k) (w := w) (R := R) (List.replicate n ⟨#[]⟩) (by simpa using hn) h w.heap.size rfl
  simpa using this
/-- Some words are there already. -/
def halfW (l : List Tok) (j : Nat) : List ByteArray := (l.take j).map wd ++ List.replicate (l.length - j) ⟨#[]⟩
theorem halfW_len (l : List Tok) (j : Nat) (h : j ≤ l.length) : (halfW l j).length = l.length := by unfold halfW; simp; omega
theorem halfW_set (l : List Tok) (j : Nat) (h : j < l.length) : (halfW l j).set j (wd l[j]) = halfW l (j + 1) := by
  have hm : min j l.length = j := Nat.min_eq_left (by omega)
  unfold halfW
  rw [List.take_succ, List.getElem?_eq_getElem h]
  simp only [Option.toList_some, List.map_append, List.map_cons, List.map_nil]
  rw [List.set_append_right _ _ (by simp [hm])]
  simp only [List.length_map, List.length_take, hm, Nat.sub_self, List.append_assoc, List.singleton_append]
  congr 1
  rw [show l.length - j = (l.length - (j + 1)) + 1 by omega, List.replicate_succ]
  rfl
theorem halfW_same (l : List Tok) (j : Nat) (h : j < l.length) (hk : l[j].k ≠ 1) : halfW l j = halfW l (j + 1) := by
  have hw : wd l[j] = ⟨#[]⟩ := if_neg hk
  unfold halfW
  rw [List.take_succ, List.getElem?_eq_getElem h]
  simp only [Option.toList_some, List.map_append, List.map_cons, List.map_nil, List.append_assoc, List.singleton_append]
  congr 1
  rw [show l.length - j = (l.length - (j + 1)) + 1 by omega, List.replicate_succ, hw]
theorem made_strs (n : Nat) : madeCells (Value.string ByteArray.empty).cells n = (strs (List.replicate n ⟨#[]⟩)).toArray := by
  apply Array.ext'
  unfold madeCells strs
  rw [Array.toList_map, Array.toList_range, List.map_replicate, List.eq_replicate_iff]
  refine ⟨by simp, fun b hb => ?_⟩
  obtain ⟨x, _, rfl⟩ := List.mem_map.1 hb
  have : (Value.string ByteArray.empty).cells = #[Value.string ByteArray.empty] := rfl
  rw [this]
  simp [Nat.mod_one]
  rfl

set_option maxRecDepth 100000 in
set_option maxHeartbeats 8000000 in
theorem words_any (k : Env) (w : World) (R : Assn) (a : Option Addr) (cap : Nat) (l : List Tok) (hr : RdT k R a l) (hl : l.length ≤ 1000000) (h : Sat k w R) :
    Calls Try.prog 47 #[.slice a l.length cap] w fun e w' => ∃ b, e = .returned (.slice b l.length l.length) ∧ Sat k w' (Strs (.slice b l.length l.length) (l.map wd) * R) := by
  have HR := Lib.hid hr
  obtain ⟨i, hi, hz0, hz1, hz2⟩ := info_parts TStrs.info
  have hmk := run_make (P := Try.prog) w 26 9 i (.string ByteArray.empty) TStrs.und hi hz0 .i64 .i64 l.length l.length (by omega) (by omega) (by rw [hz2]; omega) (by omega)
  rw [hz1] at hmk
  simp only [Int.toNat_natCast, Nat.mul_one] at hmk
  obtain ⟨cs, hcs⟩ : ∃ cs, cs = madeCells (Value.string ByteArray.empty).cells l.length := ⟨_, rfl⟩
  rw [← hcs] at hmk
  have hcs2 : cs = (strs (List.replicate l.length ⟨#[]⟩)).toArray := by
    rw [hcs]; exact made_strs _
  have h1 := strs_made l.length (by simp [maxLen]; omega) cs hcs2 h
  clear hr hcs hcs2 hi hz0 hz1 hz2
  go_enter Try.func47, Try.ntmps47
  go_wp2_with fail
  generalize w.alloc (.cells cs 9) = w1 at *
  generalize w.heap.size = g0 at *
  have h2 : Sat k w1 (Strs (.slice (some ⟨g0, 0, none⟩) l.length l.length) (halfW l 0) * R) := by
    have e : halfW l 0 = List.replicate l.length ⟨#[]⟩ := by unfold halfW; simp
    rw [e]; exact h1
  clear h1 h
  go_loopw [4, 5, 11] (fun _ _ s11 wr => ∃ j : Nat, j ≤ l.length ∧ s11 = .int .i64 j ∧ Sat k wr (Strs (.slice (some ⟨g0, 0, none⟩) l.length l.length) (halfW l j) * R)) (fun _ _ s11 _ => l.length - (intOf s11).toNat)
  case atStart => exact ⟨0, Nat.zero_le _, rfl, h2⟩
  case round =>
    clear h2
    obtain ⟨j, hj, rfl, hs⟩ := hrel
    by_cases hlt : j < l.length
    · have hlt' : (j : Int) < l.length := by omega
      obtain ⟨g, o, rfl, c0, c1, c2⟩ := rdt_get HR.out hs.drop j hlt
      have hset := halfW_set l j hlt
      have hsame := halfW_same l j hlt
      have hlen := halfW_len l j hj
      generalize l[j] = x at *
      obtain ⟨xk, xt, xa⟩ := x
      simp only at c0 c1 c2 hsame
      have h4 := hs.alloc (.cells #[.int .i64 xk, .string xt, .int .i64 xa] 40)
      go_upto_region 5 with fail
      generalize wr.alloc (.cells #[.int .i64 xk, .string xt, .int .i64 xa] 40) = w4 at *
      generalize wr.heap.size = oo at *
      have d0 : w4.cell? ⟨oo, 0, none⟩ = some (.int .i64 xk) := h4.cell 0
      have d1 : w4.cell? ⟨oo, 1, none⟩ = some (.string xt) := h4.cell 1
      replace h4 := h4.drop
      clear c0 c1 c2 hs
      by_cases hk : xk = 1
      · have b1 : (xk == 1) = true := by simp [hk]
        have hw : wd ⟨xk, xt, xa⟩ = xt := if_pos hk
        rw [hw] at hset
        have h4' : Sat k w4 (Own 9 1 (.slice (some ⟨g0, 0, none⟩) l.length l.length) l.length (strs (halfW l j)) * R) := h4.of_eq (by unfold Strs; rw [hlen])
        obtain ⟨g', hg', _, hcell, hfr⟩ := own_get h4' (by omega)
        obtain rfl : g0 = g' := by simpa using hg'
        have e0 := hcell j (by omega)
        have e1 := hfr j
        obtain ⟨u, hu⟩ : ∃ u, w4.cell? ⟨g0, j, none⟩ = some u := by
          rw [e0]
          exact ⟨_, List.getElem?_eq_getElem (by rw [strs, List.length_map, hlen]; exact hlt)⟩
        have h5 := own_set2 h4' j (.string xt)
        have h6 : Sat k (w4.setCell ⟨g0, j, none⟩ (.string xt)) (Strs (.slice (some ⟨g0, 0, none⟩) l.length l.length) (halfW l (j + 1)) * R) := h5.of_eq (by
          unfold Strs
          rw [halfW_len l (j + 1) (by omega), ← hset]
          unfold strs
          rw [List.map_set])
        clear hset hsame hlen hk hw e0 hg' hcell hfr h4' h5
        go_wp2_with fail
        go_roundw
        case rel => exact ⟨j + 1, by omega, by go_num, h6⟩
        case measure => simp [intOf]; omega
      · have b1 : (xk == 1) = false := by simpa using hk
        rw [hsame hk] at h4
        clear hset hsame hlen hk
        go_wp2_with fail
        go_roundw
        case rel => exact ⟨j + 1, by omega, by go_num, h4⟩
        case measure => simp [intOf]; omega
    · have hjl : j = l.length := by omega
      have e : halfW l j = l.map wd := by rw [hjl]; unfold halfW; simp
      rw [e] at hs
      have hlt' : ¬ (j : Int) < l.length := by omega
      clear hjl hlt e
      go_wp2_with fail
      go_ret
      exact ⟨_, rfl, hs⟩

end Go.Proofs.Ytkjhfpjjcagecaa
