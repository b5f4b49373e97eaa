/- Contracts: norm.Tokens, pontoonref05.Tokens. -/
import Derived.Test.YtkjhfpjjcagecaaNormC
namespace Go.Proofs.Ytkjhfpjjcagecaa
set_option linter.all false
open Go Go.RowKit

theorem noTl : (⟨#[]⟩ : ByteArray).toList = [] := by first | rfl | decide | (rw [ByteArray.toList_eq]) | simp
def sliceLen : Value → Nat
  | .slice _ n _ => n
  | _ => 0
theorem take_last (l : List Tok) (n : Nat) (h0 : 0 < n) (hn : n ≤ l.length) : l.take n = l.take (n - 1) ++ [l[n - 1]'(by omega)] := by
  have : n = (n - 1) + 1 := by omega
  conv => lhs; rw [this]
  rw [List.take_succ, List.getElem?_eq_getElem (by omega)]; rfl
/-- What a list of which the end is looked at comes to. -/
theorem noSemi_take (l : List Tok) (n : Nat) (hn : n ≤ l.length) : noSemi (l.take n) = if h : 0 < n then (if isSemi (l[n - 1]'(by omega)) = true then noSemi (l.take (n - 1)) else l.take n) else [] := by
  by_cases h : 0 < n
  · rw [dif_pos h]
    have e := take_last l n h hn
    conv => lhs; rw [e]
    rw [noSemi_snoc, ← e]
  · rw [dif_neg h]
    have : n = 0 := by omega
    subst this; rfl
theorem normT_size {x : Tok} (h : x.t.size ≤ 1000000) : (normT x).t.size ≤ 1000000 := by
  unfold normT
  split
  · show (mk (numL (bl x.t))).size ≤ _
    rw [mk_size]; have := numL_len (bl x.t); rw [bl_len] at this; omega
  · exact h
theorem mapT_snoc (l : List Tok) (j : Nat) (hj : j < l.length) : (l.take (j + 1)).map normT = (l.take j).map normT ++ [normT l[j]] := by
  rw [List.take_succ, List.getElem?_eq_getElem hj, List.map_append]; rfl
theorem tl_iff (a b : ByteArray) : a.toList = b.toList ↔ a = b := by
  constructor
  · intro h
    have := tl_beq a b
    rw [h] at this
    simpa using this
  · rintro rfl; rfl
theorem empty_list (t : ByteArray) : (t.toList = [] ↔ t = ⟨#[]⟩) := by
  have h := tl_iff t ⟨#[]⟩
  rw [noTl] at h
  exact h
def semiOf (k : Int) (t : ByteArray) : Bool := (k == 5) && (t.toList == [59])
theorem semi_of (x : Tok) : isSemi x = semiOf x.k x.t := by
  unfold isSemi semiOf
  have h := tl_beq x.t (mk [59])
  have e : (mk [59]).toList = [59] := by decide +kernel
  rw [e] at h
  rw [h]
  congr 1

set_option maxRecDepth 100000 in
set_option maxHeartbeats 16000000 in
theorem tokens_any (k : Env) (w : World) (R : Assn) (a : Option Addr) (cap : Nat) (l : List Tok) (hr : RdT k R a l) (hl : l.length ≤ 100000) (hc : l.length ≤ cap) (hB : (normL l).length ≤ 1000000) (hT : ∀ x ∈ l, x.t.size ≤ 1000000) (h : Sat k w R) :
    Calls Try.prog 34 #[.slice a l.length cap] w fun e w' => e = .returned (.string (mk (normL l))) ∧ Sat k w' R := by
  have HR := Lib.hid hr
  have HT := Lib.hid hT
  have HBB := Lib.hid hB
  clear hr hB hT
  go_enter Try.func34, Try.ntmps34
  go_upto_block 0 with fail
  go_cut [0] (fun s0 wx => ∃ n : Nat, n ≤ l.length ∧ s0 = .slice a n cap ∧ Hid (noSemi l = l.take n) ∧ Sat k wx R)
  case first =>
    go_wp2_with fail
    go_loopw [0] (fun s0 wr => ∃ n : Nat, n ≤ l.length ∧ s0 = .slice a n cap ∧ Hid (noSemi l = noSemi (l.take n)) ∧ Sat k wr R) (fun s0 _ => sliceLen s0)
    case atStart => exact ⟨l.length, Nat.le_refl _, rfl, by unfold Hid; rw [List.take_length], h⟩
    case round =>
      clear h HT HBB
      obtain ⟨n, hn, rfl, HN, hs⟩ := hrel
      have hst := noSemi_take l n hn
      by_cases h0 : 0 < n
      · have h0' : (0 : Int) < n := by omega
        obtain ⟨m, hm⟩ : ∃ m, m = n - 1 := ⟨_, rfl⟩
        have hml : m < l.length := by omega
        have hmn : (m : Int) < n := by omega
        have hmI : (m : Int) ≤ cap := by omega
        have hmn2 : (m : Int) ≤ n := by omega
        have hwm : IntKind.i64.wrap ((n : Int) - 1) = m := by rw [IntWalk.i64_in _ (by omega)]; omega
        rw [dif_pos h0] at hst
        simp only [← hm] at hst
        rw [semi_of] at hst
        obtain ⟨g, o, rfl, c0, c1, c2⟩ := rdt_get HR.out hs m hml
        generalize l[m] = x at *
        obtain ⟨xk, xt, xa⟩ := x
        simp only at c0 c1 c2 hst
        have HM := Lib.hid hm
        by_cases k5 : xk = 5
        · have b5 : (xk == 5) = true := by simp [k5]
          cases h59 : (xt.toList == [59]) with
          | true =>
            have HN2 : Hid (noSemi l = noSemi (l.take m)) := by unfold Hid; rw [HN.out, hst, if_pos (by unfold semiOf; rw [b5, h59]; rfl)]
            clear hst k5 hm
            go_wp2_with fail
            go_roundw
            case rel => exact ⟨m, by omega, rfl, HN2, hs⟩
            case measure => have := HM.out; simp [sliceLen]; omega
          | false =>
            have HN2 : Hid (noSemi l = l.take n) := by unfold Hid; rw [HN.out, hst, if_neg (by unfold semiOf; rw [b5, h59]; decide)]
            clear hst k5 hm
            go_wp2_with fail
            go_meet
            case rel => exact ⟨n, hn, rfl, HN2, hs⟩
        · have b5 : (xk == 5) = false := by simpa using k5
          have HN2 : Hid (noSemi l = l.take n) := by unfold Hid; rw [HN.out, hst, if_neg (by unfold semiOf; rw [b5]; simp)]
          clear hst k5 hm
          go_wp2_with fail
          go_meet
          case rel => exact ⟨n, hn, rfl, HN2, hs⟩
      · have hz : n = 0 := by omega
        subst hz
        have HN2 : Hid (noSemi l = l.take 0) := by unfold Hid; rw [HN.out]; rfl
        clear hst h0
        go_wp2_with fail
        go_meet
        case rel => exact ⟨0, hn, rfl, HN2, hs⟩
  case rest => as_aux_lemma =>
    clear h
    obtain ⟨n, hn, rfl, HN, h⟩ := hcut
    have h1 := rec_nil (E := ETok) (t := 40) h
    clear h
    go_wp2_with fail
    go_loopw [3, 5, 36] (fun s3 _ s36 wr => ∃ j : Nat, j ≤ n ∧ s36 = .int .i64 j ∧ Sat k wr (Toks s3 ((l.take j).map normT) * R)) (fun _ _ s36 _ => n - (intOf s36).toNat)
    case atStart => exact ⟨0, Nat.zero_le _, rfl, h1⟩
    case round =>
      clear h1
      obtain ⟨j, hj, rfl, hs⟩ := hrel
      obtain ⟨va, vc, hv⟩ := rec_val hs
      have hml : ((l.take j).map normT).length = j := by rw [List.length_map, List.length_take]; omega
      rw [hml] at hv
      subst hv
      by_cases hlt : j < n
      · have hlt' : (j : Int) < n := by omega
        have hjl : j < l.length := by omega
        obtain ⟨g, o, rfl, c0, c1, c2⟩ := rdt_get HR.out hs.drop j hjl
        have hsn := mapT_snoc l j hjl
        have hts := HT.out l[j] (List.getElem_mem hjl)
        generalize l[j] = x at *
        obtain ⟨xk, xt, xa⟩ := x
        simp only at c0 c1 c2 hts
        have HSN := Lib.hid hsn
        have HNT : Hid (normT ⟨xk, xt, xa⟩ = if xk = 4 ∧ xt ≠ ⟨#[]⟩ then ⟨xk, mk (numL (bl xt)), xa⟩ else ⟨xk, xt, xa⟩) := rfl
        generalize (l.take j).map normT = acc at *
        generalize hA2 : (l.take (j + 1)).map normT = acc2 at *
        have HA2 := Lib.hid hA2
        clear hA2
        have hac : acc.length = j := hml
        have HAC := Lib.hid hac
        clear hsn hml hac
        have h4 := hs.alloc (.cells #[.int .i64 xk, .string xt, .int .i64 xa] 40)
        go_upto_region 7 with fail
        generalize wr.alloc (.cells #[.int .i64 xk, .string xt, .int .i64 xa] 40) = w4 at *
        generalize wr.heap.size = oo at *
        have d0 : w4.cell? ⟨oo, 0, none⟩ = some (.int .i64 xk) := h4.cell 0
        have d1 : w4.cell? ⟨oo, 1, none⟩ = some (.string xt) := h4.cell 1
        have d2 : w4.cell? ⟨oo, 2, none⟩ = some (.int .i64 xa) := h4.cell 2
        have rf := h4.frozen
        clear c0 c1 c2 hs
        by_cases hk : xk = 4 ∧ xt ≠ ⟨#[]⟩
        · have hN := HNT.out.trans (if_pos hk)
          obtain ⟨hk4, hke⟩ := hk
          have b4 : (xk == 4) = true := by simp [hk4]
          have he1 : ¬ xt.toList = [] := fun q => hke ((empty_list xt).1 q)
          have he2 : (xt.toList == []) = false := by simpa using he1
          have he3 : xt.toList.isEmpty = false := by simpa using he1
          have HN2 : Hid (acc2 = acc ++ [⟨xk, mk (numL (bl xt)), xa⟩]) := by unfold Hid; rw [HSN.out, hN]
          have CN := Lib.hid (number_any k w4 _ xt hts h4)
          generalize mk (numL (bl xt)) = nt at *
          clear hN hk4 hke HNT
          go_upto_region 9 with (go_at_call 51; (with_reducible refine (CN.out).mono ?_); rintro e w5 ⟨rfl, h5⟩; have d0 : w5.cell? ⟨oo, 0, none⟩ = some (.int .i64 xk) := h5.cell 0; have d1 : w5.cell? ⟨oo, 1, none⟩ = some (.string xt) := h5.cell 1; have d2 : w5.cell? ⟨oo, 2, none⟩ = some (.int .i64 xa) := h5.cell 2; have rf := h5.frozen)
          have h6 := h5.set 1 (.string nt)
          generalize w5.setCell ⟨oo, 1, none⟩ (.string nt) = w6 at *
          clear d0 d1 d2 rf
          have d0 : w6.cell? ⟨oo, 0, none⟩ = some (.int .i64 xk) := h6.cell 0
          have d1 : w6.cell? ⟨oo, 1, none⟩ = some (.string nt) := h6.cell 1
          have d2 : w6.cell? ⟨oo, 2, none⟩ = some (.int .i64 xa) := h6.cell 2
          replace h6 := h6.drop
          go_wp2_with (at_builtin; refine wpList_append_sat TTok (h6.alloc' _) (.tmp 52) (.tmp 54) _ 1 1 (tokc ⟨xk, nt, xa⟩) rfl rfl rfl rfl rfl (fun _ => ⟨_, rfl, new_cells_at _ _ _ _ (by first | rfl | simp)⟩) (ETok.one ⟨xk, nt, xa⟩) (by have := HAC.out; simp [maxLen]; omega) (by have := HAC.out; omega) ?_; intro a7 c7 w7 h7)
          go_roundw
          case rel => exact ⟨j + 1, by omega, by go_num, by rw [HA2.out]; exact (rec_push (E := ETok) h7).of_eq (by rw [HN2.out]; simp [Toks])⟩
          case measure => simp [intOf]; omega
        · have hN := HNT.out.trans (if_neg hk)
          have HN2 : Hid (acc2 = acc ++ [⟨xk, xt, xa⟩]) := by unfold Hid; rw [HSN.out, hN]
          replace h4 := h4.drop
          have hcs : (xk ≠ 4) ∨ (xk = 4 ∧ xt = ⟨#[]⟩) := by
            by_cases q : xk = 4
            · right; exact ⟨q, Classical.byContradiction fun e => hk ⟨q, e⟩⟩
            · exact .inl q
          clear hN hk HNT
          rcases hcs with q | ⟨q, qe⟩
          · have b4 : (xk == 4) = false := by simpa using q
            clear q
            go_wp2_with (at_builtin; refine wpList_append_sat TTok (h4.alloc' _) (.tmp 52) (.tmp 54) _ 1 1 (tokc ⟨xk, xt, xa⟩) rfl rfl rfl rfl rfl (fun _ => ⟨_, rfl, new_cells_at _ _ _ _ (by first | rfl | simp)⟩) (ETok.one ⟨xk, xt, xa⟩) (by have := HAC.out; simp [maxLen]; omega) (by have := HAC.out; omega) ?_; intro a7 c7 w7 h7)
            go_roundw
            case rel => exact ⟨j + 1, by omega, by go_num, by rw [HA2.out]; exact (rec_push (E := ETok) h7).of_eq (by rw [HN2.out]; simp [Toks])⟩
            case measure => simp [intOf]; omega
          · have b4 : (xk == 4) = true := by simp [q]
            have he1 : xt.toList = [] := (empty_list xt).2 qe
            have he2 : (xt.toList == []) = true := by simpa using he1
            have he3 : xt.toList.isEmpty = true := by simpa using he1
            clear q qe
            go_wp2_with (at_builtin; refine wpList_append_sat TTok (h4.alloc' _) (.tmp 52) (.tmp 54) _ 1 1 (tokc ⟨xk, xt, xa⟩) rfl rfl rfl rfl rfl (fun _ => ⟨_, rfl, new_cells_at _ _ _ _ (by first | rfl | simp)⟩) (ETok.one ⟨xk, xt, xa⟩) (by have := HAC.out; simp [maxLen]; omega) (by have := HAC.out; omega) ?_; intro a7 c7 w7 h7)
            go_roundw
            case rel => exact ⟨j + 1, by omega, by go_num, by rw [HA2.out]; exact (rec_push (E := ETok) h7).of_eq (by rw [HN2.out]; simp [Toks])⟩
            case measure => simp [intOf]; omega
      · have hjn : j = n := by omega
        have hlt' : ¬ (j : Int) < n := by omega
        have hnl : (l.take j).map normT = (noSemi l).map normT := by rw [HN.out, hjn]
        have hLj : ((noSemi l).map normT).length = j := by rw [← hnl]; exact hml
        rw [hnl] at hs
        obtain ⟨L, hL⟩ : ∃ L, L = (noSemi l).map normT := ⟨_, rfl⟩
        have hNL : normL l = showL L := by rw [hL]; rfl
        have hLl : L.length ≤ 100000 := by rw [hL, List.length_map, HN.out, List.length_take]; omega
        have hLT : ∀ x ∈ L, x.t.size ≤ 1000000 := by
          intro x hx
          rw [hL, HN.out] at hx
          obtain ⟨y, hy, rfl⟩ := List.mem_map.1 hx
          exact normT_size (HT.out y (List.mem_of_mem_take hy))
        rw [← hL] at hs hLj
        have hs' : Sat k wr (Toks (.slice va L.length vc) L * R) := by rw [hLj]; exact hs
        have hb := HBB.out
        rw [hNL] at hb
        have HNL := Lib.hid hNL
        clear hNL
        have CS0 := show_any k wr _ va vc L (rdt_own hs') (by omega) hb hLT hs'
        rw [hLj] at CS0
        have CS := Lib.hid CS0
        clear CS0 hs' hLj hml hnl hjn
        go_wp2_with (go_at_call 52; (with_reducible refine (CS.out).mono ?_); rintro e w9 ⟨rfl, h9⟩)
        go_ret
        exact ⟨rfl, h9.drop⟩

set_option maxRecDepth 100000 in
set_option maxHeartbeats 16000000 in
theorem rtokens_any (k : Env) (w : World) (R : Assn) (a : Option Addr) (cap : Nat) (l : List Tok) (hr : RdT k R a l) (hl : l.length ≤ 100000) (hc : l.length ≤ cap) (hB : (normL l).length ≤ 1000000) (hT : ∀ x ∈ l, x.t.size ≤ 1000000) (h : Sat k w R) :
    Calls Try.prog 36 #[.slice a l.length cap] w fun e w' => e = .returned (.string (mk (normL l))) ∧ Sat k w' R := by
  have HR := Lib.hid hr
  have HT := Lib.hid hT
  have HBB := Lib.hid hB
  clear hr hB hT
  go_enter Try.func36, Try.ntmps36
  go_upto_block 0 with fail
  go_cut [3] (fun s3 wx => ∃ n : Nat, n ≤ l.length ∧ s3 = .int .i64 n ∧ Hid (noSemi l = l.take n) ∧ Sat k wx R)
  case first =>
    go_wp2_with fail
    go_loopw [3] (fun s3 wr => ∃ n : Nat, n ≤ l.length ∧ s3 = .int .i64 n ∧ Hid (noSemi l = noSemi (l.take n)) ∧ Sat k wr R) (fun s3 _ => (intOf s3).toNat)
    case atStart => exact ⟨l.length, Nat.le_refl _, rfl, by unfold Hid; rw [List.take_length], h⟩
    case round =>
      clear h HT HBB
      obtain ⟨n, hn, rfl, HN, hs⟩ := hrel
      have hst := noSemi_take l n hn
      by_cases h0 : 0 < n
      · have h0' : (0 : Int) < n := by omega
        obtain ⟨m, hm⟩ : ∃ m, m = n - 1 := ⟨_, rfl⟩
        have hml : m < l.length := by omega
        have hmn : (m : Int) < n := by omega
        have hmI : (m : Int) ≤ cap := by omega
        have hmn2 : (m : Int) ≤ n := by omega
        have hwm : IntKind.i64.wrap ((n : Int) - 1) = m := by rw [IntWalk.i64_in _ (by omega)]; omega
        rw [dif_pos h0] at hst
        simp only [← hm] at hst
        rw [semi_of] at hst
        obtain ⟨g, o, rfl, c0, c1, c2⟩ := rdt_get HR.out hs m hml
        generalize l[m] = x at *
        obtain ⟨xk, xt, xa⟩ := x
        simp only at c0 c1 c2 hst
        have HM := Lib.hid hm
        by_cases k5 : xk = 5
        · have b5 : (xk == 5) = true := by simp [k5]
          cases h59 : (xt.toList == [59]) with
          | true =>
            have HN2 : Hid (noSemi l = noSemi (l.take m)) := by unfold Hid; rw [HN.out, hst, if_pos (by unfold semiOf; rw [b5, h59]; rfl)]
            clear hst k5 hm
            go_wp2_with fail
            go_roundw
            case rel => exact ⟨m, by omega, rfl, HN2, hs⟩
            case measure => have := HM.out; simp [intOf]; omega
          | false =>
            have HN2 : Hid (noSemi l = l.take n) := by unfold Hid; rw [HN.out, hst, if_neg (by unfold semiOf; rw [b5, h59]; decide)]
            clear hst k5 hm
            go_wp2_with fail
            go_meet
            case rel => exact ⟨n, hn, rfl, HN2, hs⟩
        · have b5 : (xk == 5) = false := by simpa using k5
          have HN2 : Hid (noSemi l = l.take n) := by unfold Hid; rw [HN.out, hst, if_neg (by unfold semiOf; rw [b5]; simp)]
          clear hst k5 hm
          go_wp2_with fail
          go_meet
          case rel => exact ⟨n, hn, rfl, HN2, hs⟩
      · have hz : n = 0 := by omega
        subst hz
        have HN2 : Hid (noSemi l = l.take 0) := by unfold Hid; rw [HN.out]; rfl
        clear hst h0
        go_wp2_with fail
        go_meet
        case rel => exact ⟨0, hn, rfl, HN2, hs⟩
  case rest => as_aux_lemma =>
    clear h
    obtain ⟨n, hn, rfl, HN, h⟩ := hcut
    have h1 := rec_nil (E := ETok) (t := 40) h
    clear h
    go_wp2_with fail
    go_loopw [4, 5, 6] (fun s4 s5 _ wr => ∃ j : Nat, j ≤ n ∧ s5 = .int .i64 j ∧ Sat k wr (Toks s4 ((l.take j).map normT) * R)) (fun _ s5 _ _ => n - (intOf s5).toNat)
    case atStart => exact ⟨0, Nat.zero_le _, rfl, h1⟩
    case round =>
      clear h1
      obtain ⟨j, hj, rfl, hs⟩ := hrel
      obtain ⟨va, vc, hv⟩ := rec_val hs
      have hml : ((l.take j).map normT).length = j := by rw [List.length_map, List.length_take]; omega
      rw [hml] at hv
      subst hv
      by_cases hlt : j < n
      · have hlt' : (j : Int) < n := by omega
        have hjl : j < l.length := by omega
        obtain ⟨g, o, rfl, c0, c1, c2⟩ := rdt_get HR.out hs.drop j hjl
        have hsn := mapT_snoc l j hjl
        have hts := HT.out l[j] (List.getElem_mem hjl)
        generalize l[j] = x at *
        obtain ⟨xk, xt, xa⟩ := x
        simp only at c0 c1 c2 hts
        have HSN := Lib.hid hsn
        have HNT : Hid (normT ⟨xk, xt, xa⟩ = if xk = 4 ∧ xt ≠ ⟨#[]⟩ then ⟨xk, mk (numL (bl xt)), xa⟩ else ⟨xk, xt, xa⟩) := rfl
        generalize (l.take j).map normT = acc at *
        generalize hA2 : (l.take (j + 1)).map normT = acc2 at *
        have HA2 := Lib.hid hA2
        clear hA2
        have hac : acc.length = j := hml
        have HAC := Lib.hid hac
        clear hsn hml hac
        have h4 := hs.alloc (.cells #[.int .i64 xk, .string xt, .int .i64 xa] 40)
        go_upto_region 9 with fail
        generalize wr.alloc (.cells #[.int .i64 xk, .string xt, .int .i64 xa] 40) = w4 at *
        generalize wr.heap.size = oo at *
        have d0 : w4.cell? ⟨oo, 0, none⟩ = some (.int .i64 xk) := h4.cell 0
        have d1 : w4.cell? ⟨oo, 1, none⟩ = some (.string xt) := h4.cell 1
        have d2 : w4.cell? ⟨oo, 2, none⟩ = some (.int .i64 xa) := h4.cell 2
        have rf := h4.frozen
        clear c0 c1 c2 hs
        by_cases hk : xk = 4 ∧ xt ≠ ⟨#[]⟩
        · have hN := HNT.out.trans (if_pos hk)
          obtain ⟨hk4, hke⟩ := hk
          have b4 : (xk == 4) = true := by simp [hk4]
          have he1 : ¬ xt.toList = [] := fun q => hke ((empty_list xt).1 q)
          have he2 : (xt.toList == []) = false := by simpa using he1
          have he3 : xt.toList.isEmpty = false := by simpa using he1
          have HN2 : Hid (acc2 = acc ++ [⟨xk, mk (numL (bl xt)), xa⟩]) := by unfold Hid; rw [HSN.out, hN]
          have CN := Lib.hid (fun w => rnumber_any w xt hts)
          generalize mk (numL (bl xt)) = nt at *
          clear hN hk4 hke HNT
          go_upto_region 11 with (go_at_call 59; (with_reducible refine (CN.out _).mono ?_); rintro e w5 ⟨rfl, rfl⟩)
          have h6 := h4.set 1 (.string nt)
          generalize w4.setCell ⟨oo, 1, none⟩ (.string nt) = w6 at *
          clear d0 d1 d2 rf
          have d0 : w6.cell? ⟨oo, 0, none⟩ = some (.int .i64 xk) := h6.cell 0
          have d1 : w6.cell? ⟨oo, 1, none⟩ = some (.string nt) := h6.cell 1
          have d2 : w6.cell? ⟨oo, 2, none⟩ = some (.int .i64 xa) := h6.cell 2
          replace h6 := h6.drop
          go_wp2_with (at_builtin; refine wpList_append_sat TTok (h6.alloc' _) (.tmp 52) (.tmp 54) _ 1 1 (tokc ⟨xk, nt, xa⟩) rfl rfl rfl rfl rfl (fun _ => ⟨_, rfl, new_cells_at _ _ _ _ (by first | rfl | simp)⟩) (ETok.one ⟨xk, nt, xa⟩) (by have := HAC.out; simp [maxLen]; omega) (by have := HAC.out; omega) ?_; intro a7 c7 w7 h7)
          go_roundw
          case rel => exact ⟨j + 1, by omega, by go_num, by rw [HA2.out]; exact (rec_push (E := ETok) h7).of_eq (by rw [HN2.out]; simp [Toks])⟩
          case measure => simp [intOf]; omega
        · have hN := HNT.out.trans (if_neg hk)
          have HN2 : Hid (acc2 = acc ++ [⟨xk, xt, xa⟩]) := by unfold Hid; rw [HSN.out, hN]
          replace h4 := h4.drop
          have hcs : (xk ≠ 4) ∨ (xk = 4 ∧ xt = ⟨#[]⟩) := by
            by_cases q : xk = 4
            · right; exact ⟨q, Classical.byContradiction fun e => hk ⟨q, e⟩⟩
            · exact .inl q
          clear hN hk HNT
          rcases hcs with q | ⟨q, qe⟩
          · have b4 : (xk == 4) = false := by simpa using q
            clear q
            go_wp2_with (at_builtin; refine wpList_append_sat TTok (h4.alloc' _) (.tmp 52) (.tmp 54) _ 1 1 (tokc ⟨xk, xt, xa⟩) rfl rfl rfl rfl rfl (fun _ => ⟨_, rfl, new_cells_at _ _ _ _ (by first | rfl | simp)⟩) (ETok.one ⟨xk, xt, xa⟩) (by have := HAC.out; simp [maxLen]; omega) (by have := HAC.out; omega) ?_; intro a7 c7 w7 h7)
            go_roundw
            case rel => exact ⟨j + 1, by omega, by go_num, by rw [HA2.out]; exact (rec_push (E := ETok) h7).of_eq (by rw [HN2.out]; simp [Toks])⟩
            case measure => simp [intOf]; omega
          · have b4 : (xk == 4) = true := by simp [q]
            have he1 : xt.toList = [] := (empty_list xt).2 qe
            have he2 : (xt.toList == []) = true := by simpa using he1
            have he3 : xt.toList.isEmpty = true := by simpa using he1
            clear q qe
            go_wp2_with (at_builtin; refine wpList_append_sat TTok (h4.alloc' _) (.tmp 52) (.tmp 54) _ 1 1 (tokc ⟨xk, xt, xa⟩) rfl rfl rfl rfl rfl (fun _ => ⟨_, rfl, new_cells_at _ _ _ _ (by first | rfl | simp)⟩) (ETok.one ⟨xk, xt, xa⟩) (by have := HAC.out; simp [maxLen]; omega) (by have := HAC.out; omega) ?_; intro a7 c7 w7 h7)
            go_roundw
            case rel => exact ⟨j + 1, by omega, by go_num, by rw [HA2.out]; exact (rec_push (E := ETok) h7).of_eq (by rw [HN2.out]; simp [Toks])⟩
            case measure => simp [intOf]; omega
      · have hjn : j = n := by omega
        have hlt' : ¬ (j : Int) < n := by omega
        have hnl : (l.take j).map normT = (noSemi l).map normT := by rw [HN.out, hjn]
        have hLj : ((noSemi l).map normT).length = j := by rw [← hnl]; exact hml
        rw [hnl] at hs
        obtain ⟨L, hL⟩ : ∃ L, L = (noSemi l).map normT := ⟨_, rfl⟩
        have hNL : normL l = showL L := by rw [hL]; rfl
        have hLl : L.length ≤ 100000 := by rw [hL, List.length_map, HN.out, List.length_take]; omega
        have hLT : ∀ x ∈ L, x.t.size ≤ 1000000 := by
          intro x hx
          rw [hL, HN.out] at hx
          obtain ⟨y, hy, rfl⟩ := List.mem_map.1 hx
          exact normT_size (HT.out y (List.mem_of_mem_take hy))
        rw [← hL] at hs hLj
        have hs' : Sat k wr (Toks (.slice va L.length vc) L * R) := by rw [hLj]; exact hs
        have hb := HBB.out
        rw [hNL] at hb
        have HNL := Lib.hid hNL
        clear hNL
        have CS0 := rshow_any k wr _ va vc L (rdt_own hs') (by omega) hb hLT hs'
        rw [hLj] at CS0
        have CS := Lib.hid CS0
        clear CS0 hs' hLj hml hnl hjn
        go_wp2_with (go_at_call 60; (with_reducible refine (CS.out).mono ?_); rintro e w9 ⟨rfl, h9⟩)
        go_ret
        exact ⟨rfl, h9.drop⟩

end Go.Proofs.Ytkjhfpjjcagecaa
