/- Tokens that are read wherever they lie. Contracts of package lexer: double, Show. -/
import Derived.Test.YtkjhfpjjcagecaaL4G
namespace Go.Proofs.Ytkjhfpjjcagecaa
set_option linter.all false
open Go Go.RowKit

/-- What a slice of tokens reads as, whatever else is done. -/
def RdT (k : Env) (R : Assn) (a : Option Addr) (l : List Tok) : Prop :=
  ∃ g o, (l ≠ [] → a = some ⟨g, o, none⟩) ∧ ∀ w' : World, Sat k w' R → ∀ j (hj : j < l.length), w'.cell? ⟨g, o + j * 3, none⟩ = some (.int .i64 l[j].k) ∧ w'.cell? ⟨g, o + j * 3 + 1, none⟩ = some (.string l[j].t) ∧ w'.cell? ⟨g, o + j * 3 + 2, none⟩ = some (.int .i64 l[j].at')
theorem rdt_nil (k : Env) (R : Assn) (a : Option Addr) : RdT k R a [] := ⟨0, 0, fun h => absurd rfl h, fun _ _ j hj => by cases hj⟩
theorem rdt_get {k : Env} {w : World} {R : Assn} {a : Option Addr} {l : List Tok} (h : RdT k R a l) (hs : Sat k w R) (j : Nat) (hj : j < l.length) :
    ∃ g o, a = some ⟨g, o, none⟩ ∧ w.cell? ⟨g, o + j * 3, none⟩ = some (.int .i64 l[j].k) ∧ w.cell? ⟨g, o + j * 3 + 1, none⟩ = some (.string l[j].t) ∧ w.cell? ⟨g, o + j * 3 + 2, none⟩ = some (.int .i64 l[j].at') := by
  obtain ⟨g, o, h1, h2⟩ := h
  exact ⟨g, o, h1 (by rintro rfl; cases hj), h2 w hs j hj⟩
/-- The same place for all worlds. -/
theorem rdt_at {k : Env} {R : Assn} {a : Option Addr} {l : List Tok} (h : RdT k R a l) (hl : l ≠ []) : ∃ g o, a = some ⟨g, o, none⟩ ∧ ∀ w' : World, Sat k w' R → ∀ j (hj : j < l.length), w'.cell? ⟨g, o + j * 3, none⟩ = some (.int .i64 l[j].k) ∧ w'.cell? ⟨g, o + j * 3 + 1, none⟩ = some (.string l[j].t) ∧ w'.cell? ⟨g, o + j * 3 + 2, none⟩ = some (.int .i64 l[j].at') := by
  obtain ⟨g, o, h1, h2⟩ := h
  exact ⟨g, o, h1 hl, h2⟩
theorem RdT.mono {k : Env} {R R' : Assn} {a : Option Addr} {l : List Tok} (h : RdT k R a l) (hm : ∀ w', Sat k w' R' → Sat k w' R) : RdT k R' a l := by
  obtain ⟨g, o, h1, h2⟩ := h
  exact ⟨g, o, h1, fun w' h' => h2 w' (hm w' h')⟩
theorem RdT.take {k : Env} {R : Assn} {a : Option Addr} {l : List Tok} (h : RdT k R a l) (n : Nat) : RdT k R a (l.take n) := by
  obtain ⟨g, o, h1, h2⟩ := h
  refine ⟨g, o, fun hn => h1 (by rintro rfl; simp at hn), fun w' h' j hj => ?_⟩
  rw [List.length_take] at hj
  have := h2 w' h' j (by omega)
  simpa using this
theorem rdt_own {k : Env} {w : World} {R : Assn} {a : Option Addr} {c : Nat} {l : List Tok} (h : Sat k w (Toks (.slice a l.length c) l * R)) : RdT k (Toks (.slice a l.length c) l * R) a l := by
  cases l with
  | nil => exact rdt_nil k _ a
  | cons x r =>
    obtain ⟨g, rfl, _, _⟩ := rec_get h (by decide) 0 (by simp)
    refine ⟨g, 0, fun _ => rfl, fun w' h' j hj => ?_⟩
    obtain ⟨g', hg, _, hc⟩ := rec_get h' (by decide) j hj
    simp only [Option.some.injEq, Addr.mk.injEq, and_true] at hg
    subst hg
    rw [Nat.zero_add]
    exact ⟨hc 0 (by decide), hc 1 (by decide), hc 2 (by decide)⟩

def fq (q : UInt8) (c : UInt8) : List UInt8 := if c = q then [q, c] else [c]
theorem dbl_eq (q : UInt8) (l : List UInt8) : dbl q l = q :: l.flatMap (fq q) ++ [q] := rfl
theorem fq_len (q : UInt8) (l : List UInt8) : (l.flatMap (fq q)).length ≤ 2 * l.length := by
  induction l with
  | nil => simp
  | cons c r ih =>
    rw [List.flatMap_cons, List.length_append, List.length_cons]
    have : (fq q c).length ≤ 2 := by unfold fq; split <;> simp
    omega
theorem dbl_len (q : UInt8) (l : List UInt8) : (dbl q l).length ≤ 2 * l.length + 2 := by
  rw [dbl_eq]
  have := fq_len q l
  rw [List.length_append, List.length_cons]
  simp only [List.length_singleton]
  omega

set_option maxRecDepth 100000 in
set_option maxHeartbeats 4000000 in
theorem double_any (k : Env) (w : World) (R : Assn) (s : ByteArray) (q : UInt8) (hs : s.size ≤ 1000000) (h : Sat k w R) :
    Calls Try.prog 80 #[.string s, .int .u8 q.toNat] w fun e w' => e = .returned (.string (mk (dbl q (bl s)))) ∧ Sat k w' R := by
  have h1 := own_mk (n := 1) (cap := 1) (size := 1) (xs := byteVs [q]) (h.alloc (.cells #[byteV q] 5)) (Nat.le_refl _) (by decide) (by simp) rfl rfl
  unfold byteV at h1
  go_enter Try.func80, Try.ntmps80
  go_wp2_with fail
  go_loopw [5, 6, 11] (fun s5 _ s11 wr => ∃ (j : Nat) (l : List UInt8), j ≤ s.size ∧ s11 = .int .i64 j ∧ Hid (l = q :: ((bl s).take j).flatMap (fq q)) ∧ l.length ≤ 2 * j + 1 ∧ Sat k wr (Own 5 1 s5 l.length (byteVs l) * R)) (fun _ _ s11 _ => s.size - (intOf s11).toNat)
  case atStart => exact ⟨0, [q], Nat.zero_le _, rfl, by unfold Hid; simp, by simp, h1⟩
  case round =>
    clear h1
    obtain ⟨j, l, hj, rfl, HL, hll, hr⟩ := hrel
    obtain ⟨la, lc, rfl⟩ := own_val hr
    by_cases hlt : j < s.size
    · have hlt' : (j : Int) < s.size := by omega
      have htk : (bl s).take (j + 1) = (bl s).take j ++ [s[j]] := by
        rw [List.take_succ, List.getElem?_eq_getElem (by rw [bl_len]; exact hlt)]; rfl
      by_cases hq : s[j] = q
      · have hb : ((s[j].toNat : Int) == q.toNat) = true := by rw [hq]; simp
        have HN : Hid (l ++ [q] ++ [s[j]] = q :: ((bl s).take (j + 1)).flatMap (fq q)) := by
          unfold Hid
          rw [htk, HL.out]
          simp [fq, hq]
        clear hq HL htk
        go_upto_region 7 with (at_builtin; refine wpList_append_sat TBytes (hr.alloc' _) (.tmp 19) (.tmp 21) _ 1 1 [byteV q] rfl rfl rfl rfl rfl (fun _ => ⟨_, rfl, new_cells_at _ _ _ _ (by first | rfl | simp)⟩) (fun u hu => by simp [byteV] at hu; subst hu; rfl) (by simp [maxLen]; omega) (by omega) ?_; intro a6 c6 w6 h6)
        go_wp2_with (at_builtin; refine wpList_append_sat TBytes (h6.alloc' _) (.tmp 23) (.tmp 27) _ 1 1 [byteV s[j]] rfl rfl rfl rfl rfl (fun _ => ⟨_, rfl, new_cells_at _ _ _ _ (by first | rfl | simp)⟩) (fun u hu => by simp [byteV] at hu; subst hu; rfl) (by simp [maxLen]; omega) (by omega) ?_; intro a7 c7 w7 h7)
        go_roundw
        case rel => exact ⟨j + 1, l ++ [q] ++ [s[j]], by omega, by go_num, HN, by simp; omega, h7.of_eq (by rw [byteVs_snoc, byteVs_snoc, List.length_append, List.length_append]; rfl)⟩
        case measure => simp [intOf]; omega
      · have hb : ((s[j].toNat : Int) == q.toNat) = false := by
          simp only [beq_eq_false_iff_ne, ne_eq, Int.natCast_inj]; exact fun e => hq (UInt8.toNat_inj.1 e)
        have HN : Hid (l ++ [s[j]] = q :: ((bl s).take (j + 1)).flatMap (fq q)) := by
          unfold Hid
          rw [htk, HL.out]
          simp [fq, hq]
        clear hq HL htk
        go_wp2_with (at_builtin; refine wpList_append_sat TBytes (hr.alloc' _) (.tmp 23) (.tmp 27) _ 1 1 [byteV s[j]] rfl rfl rfl rfl rfl (fun _ => ⟨_, rfl, new_cells_at _ _ _ _ (by first | rfl | simp)⟩) (fun u hu => by simp [byteV] at hu; subst hu; rfl) (by simp [maxLen]; omega) (by omega) ?_; intro a7 c7 w7 h7)
        go_roundw
        case rel => exact ⟨j + 1, l ++ [s[j]], by omega, by go_num, HN, by simp; omega, h7.of_eq (by rw [byteVs_snoc, List.length_append]; rfl)⟩
        case measure => simp [intOf]; omega
    · have HE : Hid (mk (l ++ [q]) = mk (dbl q (bl s))) := by
        unfold Hid
        rw [HL.out, List.take_of_length_le (by rw [bl_len]; omega), dbl_eq]
      have hlt' : ¬ (j : Int) < s.size := by omega
      clear HL hlt
      go_wp2_with (at_builtin; refine wpList_append_sat TBytes (hr.alloc' _) (.tmp 30) (.tmp 32) _ 1 1 [byteV q] rfl rfl rfl rfl rfl (fun _ => ⟨_, rfl, new_cells_at _ _ _ _ (by first | rfl | simp)⟩) (fun u hu => by simp [byteV] at hu; subst hu; rfl) (by simp [maxLen]; omega) (by omega) ?_; intro a7 c7 w7 h7; have hb := own_back (P := Try.prog) (n := l.length + 1) (l := l ++ [q]) 88 9 Try.underlying88 Try.underlying5 Try.underlying9 (by simp) (h7.of_eq (by rw [byteVs_snoc])))
      go_ret
      exact ⟨by rw [HE.out]; rfl, h7.drop⟩

theorem showL_snoc (l : List Tok) (x : Tok) : showL (l ++ [x]) = if l = [] then showT x else showL l ++ 32 :: showT x := by
  cases l with
  | nil => simp [showL]
  | cons y r => simp [showL]
theorem showL_le (l : List Tok) (n : Nat) : (showL (l.take n)).length ≤ (showL l).length := by
  cases l with
  | nil => simp
  | cons y r =>
    cases n with
    | zero => simp [showL]
    | succ n =>
      simp only [List.take_succ_cons, showL, List.length_append]
      have : ((r.take n).flatMap fun y => 32 :: showT y).length ≤ (r.flatMap fun y => 32 :: showT y).length := by
        conv => rhs; rw [← List.take_append_drop n r]
        rw [List.flatMap_append, List.length_append]; omega
      omega
theorem cat_mk (l : List UInt8) (s : ByteArray) : mk l ++ s = mk (l ++ bl s) := by
  apply ByteArray.ext
  apply Array.ext'
  simp [mk, bl]

set_option maxRecDepth 100000 in
set_option maxHeartbeats 8000000 in
theorem show_any (k : Env) (w : World) (R : Assn) (a : Option Addr) (cap : Nat) (l : List Tok) (hr : RdT k R a l) (hl : l.length ≤ 1000000) (hB : (showL l).length ≤ 1000000) (hT : ∀ x ∈ l, x.t.size ≤ 1000000) (h : Sat k w R) :
    Calls Try.prog 52 #[.slice a l.length cap] w fun e w' => e = .returned (.string (mk (showL l))) ∧ Sat k w' R := by
  have HR := Lib.hid hr
  have CD := Lib.hid (fun w' s q hs h' => double_any k w' R s q hs h')
  have HT := Lib.hid hT
  have HBB := Lib.hid hB
  clear hr hT hB
  go_enter Try.func52, Try.ntmps52
  go_wp2_with fail
  go_loopw [3, 4, 5, 8] (fun s3 _ _ s8 wr => ∃ j : Nat, j ≤ l.length ∧ s8 = .int .i64 j ∧ s3 = .string (mk (showL (l.take j))) ∧ Sat k wr R) (fun _ _ _ s8 _ => l.length - (intOf s8).toNat)
  case atStart => exact ⟨0, Nat.zero_le _, rfl, rfl, h⟩
  case round =>
    clear h
    obtain ⟨j, hj, rfl, rfl, hs⟩ := hrel
    by_cases hlt : j < l.length
    · have hlt' : (j : Int) < l.length := by omega
      obtain ⟨g, o, rfl, c0, c1, c2⟩ := rdt_get HR.out hs j hlt
      have htk : l.take (j + 1) = l.take j ++ [l[j]] := by rw [List.take_succ]; simp [hlt]
      have HS : Hid (showL (l.take (j + 1)) = if j = 0 then showT l[j] else showL (l.take j) ++ 32 :: showT l[j]) := by
        unfold Hid
        rw [htk, showL_snoc]
        congr 1
        apply propext
        rw [← List.length_eq_zero_iff, List.length_take]
        omega
      have hle1 := showL_le l (j + 1)
      have hle := showL_le l j
      have hts := HT.out l[j] (List.getElem_mem hlt)
      have hbb := HBB.out
      generalize l[j] = x at *
      obtain ⟨xk, xt, xa⟩ := x
      simp only at hts c0 c1 c2
      generalize hY : showL (l.take j) = Y at *
      generalize hZ : showL (l.take (j + 1)) = Z at *
      clear htk
      have hYs : (mk Y).size ≤ 1000000 := by rw [mk_size]; omega
      have hshow : showT ⟨xk, xt, xa⟩ = if xk = 2 then dbl 34 (bl xt) else if xk = 3 then dbl 39 (bl xt) else bl xt := rfl
      have hd2 : (mk (dbl 34 (bl xt))).size ≤ 3000000 := by rw [mk_size]; have := dbl_len 34 (bl xt); rw [bl_len] at this; omega
      have hd3 : (mk (dbl 39 (bl xt))).size ≤ 3000000 := by rw [mk_size]; have := dbl_len 39 (bl xt); rw [bl_len] at this; omega
      have hlit : (⟨#[32]⟩ : ByteArray).size = 1 := rfl
      have HC : Hid (∀ v : List UInt8, showT ⟨xk, xt, xa⟩ = v → (if j = 0 then mk Y ++ mk v else mk Y ++ ⟨#[32]⟩ ++ mk v) = mk Z) := by
        intro v hv
        rw [HS.out, hv]
        by_cases h0 : j = 0
        · rw [if_pos h0, if_pos h0]
          have : Y = [] := by rw [← hY, h0]; rfl
          rw [this, cat_mk]; rfl
        · rw [if_neg h0, if_neg h0, cat_mk, cat_mk]
          simp [bl, mk]
      have h4 := hs.alloc (.cells #[.int .i64 xk, .string xt, .int .i64 xa] 40)
      go_upto_region 5 with fail
      generalize wr.alloc (.cells #[.int .i64 xk, .string xt, .int .i64 xa] 40) = w4 at *
      generalize wr.heap.size = oo at *
      have d0 : w4.cell? ⟨oo, 0, none⟩ = some (.int .i64 xk) := h4.cell 0
      have d1 : w4.cell? ⟨oo, 1, none⟩ = some (.string xt) := h4.cell 1
      replace h4 := h4.drop
      have HZ := Lib.hid hZ
      have hY32 : (mk Y ++ (⟨#[32]⟩ : ByteArray)).size ≤ 1000001 := by rw [ByteArray.size_append]; omega
      clear c0 c1 c2 hs hle hle1 hbb HS hY hZ
      have hx1 : xt.size ≤ 1000000 := hts
      have C34 : Hid (Calls Try.prog 80 #[.string xt, .int .u8 34] w4 fun e w' => e = .returned (.string (mk (dbl 34 (bl xt)))) ∧ Sat k w' R) := CD.out w4 xt 34 hts h4
      have C39 : Hid (Calls Try.prog 80 #[.string xt, .int .u8 39] w4 fun e w' => e = .returned (.string (mk (dbl 39 (bl xt)))) ∧ Sat k w' R) := CD.out w4 xt 39 hts h4
      by_cases h0 : j = 0
      · simp only [if_pos h0] at HC
        have hj0 : ¬ (0 : Int) < j := by omega
        by_cases k2 : xk = 2
        · have hv := HC.out _ (hshow.trans (if_pos k2))
          have HV := Lib.hid hv
          subst k2
          clear hshow HC hv h0
          go_wp2_with (go_at_call 80; (with_reducible refine (C34.out).mono ?_); rintro e w5 ⟨rfl, h5⟩)
          go_roundw
          case rel => exact ⟨j + 1, by omega, by go_num, by rw [HV.out, HZ.out], h5⟩
          case measure => simp [intOf]; omega
        · have b2 : (xk == 2) = false := by simpa using k2
          by_cases k3 : xk = 3
          · have hv := HC.out _ (hshow.trans ((if_neg k2).trans (if_pos k3)))
            have HV := Lib.hid hv
            subst k3
            clear hshow HC hv h0 k2
            go_wp2_with (go_at_call 80; (with_reducible refine (C39.out).mono ?_); rintro e w5 ⟨rfl, h5⟩)
            go_roundw
            case rel => exact ⟨j + 1, by omega, by go_num, by rw [HV.out, HZ.out], h5⟩
            case measure => simp [intOf]; omega
          · have b3 : (xk == 3) = false := by simpa using k3
            have hv := HC.out _ (hshow.trans ((if_neg k2).trans (if_neg k3)))
            rw [mk_bl] at hv
            have HV := Lib.hid hv
            clear hshow HC hv h0 k2 k3
            go_wp2_with fail
            go_roundw
            case rel => exact ⟨j + 1, by omega, by go_num, by rw [HV.out, HZ.out], h4⟩
            case measure => simp [intOf]; omega
      · simp only [if_neg h0] at HC
        have hj0 : (0 : Int) < j := by omega
        by_cases k2 : xk = 2
        · have hv := HC.out _ (hshow.trans (if_pos k2))
          have HV := Lib.hid hv
          subst k2
          clear hshow HC hv h0
          go_wp2_with (go_at_call 80; (with_reducible refine (C34.out).mono ?_); rintro e w5 ⟨rfl, h5⟩)
          go_roundw
          case rel => exact ⟨j + 1, by omega, by go_num, by rw [HV.out, HZ.out], h5⟩
          case measure => simp [intOf]; omega
        · have b2 : (xk == 2) = false := by simpa using k2
          by_cases k3 : xk = 3
          · have hv := HC.out _ (hshow.trans ((if_neg k2).trans (if_pos k3)))
            have HV := Lib.hid hv
            subst k3
            clear hshow HC hv h0 k2
            go_wp2_with (go_at_call 80; (with_reducible refine (C39.out).mono ?_); rintro e w5 ⟨rfl, h5⟩)
            go_roundw
            case rel => exact ⟨j + 1, by omega, by go_num, by rw [HV.out, HZ.out], h5⟩
            case measure => simp [intOf]; omega
          · have b3 : (xk == 3) = false := by simpa using k3
            have hv := HC.out _ (hshow.trans ((if_neg k2).trans (if_neg k3)))
            rw [mk_bl] at hv
            have HV := Lib.hid hv
            clear hshow HC hv h0 k2 k3
            go_wp2_with fail
            go_roundw
            case rel => exact ⟨j + 1, by omega, by go_num, by rw [HV.out, HZ.out], h4⟩
            case measure => simp [intOf]; omega
    · have hjl : j = l.length := by omega
      subst hjl
      rw [List.take_length]
      go_wp2_with fail
      go_ret
      exact ⟨rfl, hs⟩

end Go.Proofs.Ytkjhfpjjcagecaa
