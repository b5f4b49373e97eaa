/- Several texts in one: KeyA, KeyB, KeyC, KeyK. -/
import Derived.Test.YtlilogcojeoelaaMC
import Derived.Deep.RegionHeld3
import Derived.Deep.DeepCutAuto
import Derived.Test.YtlilogcojeoelaaMA
namespace Go.Proofs.Ytlilogcojeoelaa
set_option linter.all false
open Go Go.RowKit

/-- What a value is kept by. -/
structure Ky where
  db : ByteArray
  ro : ByteArray
  fm : Int
  nm : ByteArray
deriving DecidableEq
def kyc (k : Ky) : List Value := [.string k.db, .string k.ro, .int .i64 k.fm, .string k.nm]
def kyV (k : Ky) : Value := .agg #[.string k.db, .string k.ro, .int .i64 k.fm, .string k.nm]
def noZ (s : ByteArray) : Bool := decide (endB s = -1)
def rightK (k : Ky) : Bool := noZ k.db && noZ k.ro && noZ k.nm && decide (k.fm = 0 ∨ k.fm = 1)
def tiny (k : Ky) : Prop := k.db.size + k.ro.size + k.nm.size ≤ 1000000
def textK (k : Ky) : ByteArray := if rightK k = true then k.db ++ zb ++ k.ro ++ zb ++ bin2 k.fm ++ k.nm ++ zb else ⟨#[]⟩

theorem noZ_t {s : ByteArray} (h : noZ s = true) : endB s = -1 := by simpa [noZ] using h
theorem rightK_f1 {k : Ky} {i : Nat} (hi : i < 3) (h : endB ([k.db, k.ro, k.nm][i]'(by simpa using hi)) ≠ -1) : rightK k = false := by
  unfold rightK noZ
  match i, hi with
  | 0, _ => simp at h; simp [h]
  | 1, _ => simp at h; simp [h]
  | 2, _ => simp at h; simp [h]
theorem rightK_t {k : Ky} (h : ∀ i (hi : i < 3), endB ([k.db, k.ro, k.nm][i]'(by simpa using hi)) = -1) : rightK k = decide (k.fm = 0 ∨ k.fm = 1) := by
  have h0 := h 0 (by decide)
  have h1 := h 1 (by decide)
  have h2 := h 2 (by decide)
  simp at h0 h1 h2
  simp [rightK, noZ, h0, h1, h2]

set_option maxRecDepth 100000 in
set_option maxHeartbeats 2000000 in
theorem right_any (k : Env) (w : World) (R : Assn) (y : Ky) (ht : tiny y) (h : Sat k w R) :
    Calls Try.prog 37 #[kyV y] w fun e w' => e = .returned (.bool (rightK y)) ∧ Sat k w' R := by
  unfold tiny at ht
  have h1 := h.alloc (.cells (kyc y).toArray 23)
  have hR1 := Lib.hid (fun i hi => rightK_f1 (k := y) (i := i) hi)
  have hR2 := Lib.hid (rightK_t (k := y))
  obtain ⟨db, ro, fm, nm⟩ := y
  simp only [kyc, kyV] at *
  clear h
  go_enter Try.func37, Try.ntmps37
  go_upto_region 1 with fail
  generalize w.alloc (.cells #[.string db, .string ro, .int .i64 fm, .string nm] 23) = w1 at *
  generalize w.heap.size = o at *
  have d0 : w1.cell? ⟨o, 0, none⟩ = some (.string db) := h1.cell 0
  have d1 : w1.cell? ⟨o, 1, none⟩ = some (.string ro) := h1.cell 1
  have d3 : w1.cell? ⟨o, 3, none⟩ = some (.string nm) := h1.cell 3
  have h2 := strs_lit [db, ro, nm] (by simp [maxLen]) h1 _ rfl
  simp only [strs, List.map_cons, List.map_nil] at h2
  go_wp2_with fail
  generalize w1.alloc (.cells #[.string db, .string ro, .string nm] 9) = w2 at *
  generalize w1.heap.size = os at *
  clear d0 d1 d3 h1
  go_loopw [4, 5, 14, 20] (fun _ _ i _ wr => ∃ j : Nat, j ≤ 3 ∧ i = .int .i64 j ∧ Hid (∀ i (hi : i < 3), i < j → endB ([db, ro, nm][i]'(by simpa using hi)) = -1) ∧ w2 = wr) (fun _ _ i _ _ => 3 - (intOf i).toNat)
  case atStart => exact ⟨0, by decide, rfl, fun i hi hj => by omega, rfl⟩
  case round =>
    obtain ⟨j, hj, rfl, HP, rfl⟩ := hrel
    by_cases hlt : j < 3
    · obtain ⟨g, hg, hgl, dj⟩ := strs_get h2 j hlt
      simp only [Option.some.injEq, Addr.mk.injEq, and_true] at hg
      subst hg
      have hR1' := Lib.hid (hR1.out j hlt)
      have hsz : ([db, ro, nm][j]'hlt).size ≤ 1000000 := by
        match j, hlt with
        | 0, _ => simp; omega
        | 1, _ => simp; omega
        | 2, _ => simp; omega
      have HP' : ∀ (q : endB ([db, ro, nm][j]'hlt) = -1), Hid (∀ i (hi : i < 3), i < j + 1 → endB ([db, ro, nm][i]'(by simpa using hi)) = -1) := by
        intro q i hi hij
        by_cases e : i = j
        · subst e; exact q
        · exact HP.out i hi (by omega)
      have HPP := Lib.hid HP'
      generalize ([db, ro, nm][j]'hlt) = s at *
      clear HP' HP
      have hlt' : (j : Int) < 3 := by omega
      go_wp2_with fail
      go_loopw [5, 20] (fun _ u6 wr => ∃ q : Nat, q ≤ s.size ∧ u6 = .int .i64 q ∧ Hid (endL (s.data.toList.drop q) q = endB s) ∧ w2 = wr) (fun _ u6 _ => s.size - (intOf u6).toNat)
      case atStart => exact ⟨0, Nat.zero_le _, rfl, rfl, rfl⟩
      case round =>
        obtain ⟨q, hq, rfl, HE, rfl⟩ := hrel
        by_cases hqs : q < s.size
        · have hqs' : (q : Int) < s.size := by omega
          have hd : s.data.toList.drop q = s[q] :: s.data.toList.drop (q + 1) := by
            rw [List.drop_eq_getElem_cons (by simpa using hqs)]; rfl
          have HD : Hid (endL (s[q] :: s.data.toList.drop (q + 1)) q = endB s) := by
            unfold Hid; rw [← hd]; exact HE.out
          clear hd HE
          by_cases hc : s[q] = 0
          · have hb : ((s[q].toNat : Int) == 0) = true := by simp [hc]
            have HR : Hid (endB s = q) := by unfold Hid; rw [← HD.out, endL, if_pos hc]
            have HF := Lib.hid (hR1'.out (by rw [HR.out]; omega))
            clear HD hc
            go_wp2_with fail
            go_ret
            rw [HF.out]
            exact ⟨rfl, h2.drop.drop⟩
          · have hb : ((s[q].toNat : Int) == 0) = false := by
              have : s[q].toNat ≠ 0 := fun e => hc (UInt8.toNat_inj.1 (by simpa using e))
              simpa using this
            have HR : Hid (endL (s.data.toList.drop (q + 1)) (q + 1) = endB s) := by unfold Hid; rw [← HD.out, endL, if_neg hc]
            clear HD hc
            go_wp2_with fail
            go_roundw
            case rel => exact ⟨q + 1, by omega, by go_num, HR, trivial⟩
            case measure => simp [intOf]; omega
        · have hqq : q = s.size := by omega
          have HR : Hid (endB s = -1) := by
            unfold Hid
            rw [← HE.out, List.drop_eq_nil_of_le (by simp [hqq])]; rfl
          have hq' : ¬ (q : Int) < s.size := by omega
          have HN := HPP.out HR.out
          clear HE hqs HPP HR
          go_wp2_with fail
          go_roundw
          case rel => exact ⟨j + 1, by omega, by go_num, HN, trivial⟩
          case measure => simp [intOf]; omega
    · have hj3 : j = 3 := by omega
      subst hj3
      have HR := Lib.hid (hR2.out (fun i hi => HP.out i hi hi))
      have d2 : w2.cell? ⟨o, 2, none⟩ = some (.int .i64 fm) := h2.drop.cell 2
      clear HP hR1 hR2
      by_cases f0 : fm = 0
      · subst f0
        go_wp2_with fail
        go_ret
        rw [HR.out]
        exact ⟨rfl, h2.drop.drop⟩
      · have f0' : (fm == 0) = false := by simpa using f0
        have f0d : decide (fm = 0 ∨ fm = 1) = (fm == 1) := by simp [f0]; rfl
        have HF := Lib.hid f0d
        clear f0d
        go_wp2_with fail
        go_ret
        rw [HR.out, HF.out]
        exact ⟨rfl, h2.drop.drop⟩

end Go.Proofs.Ytlilogcojeoelaa

namespace Go.Proofs.Ytlilogcojeoelaa
set_option linter.all false
open Go Go.RowKit

theorem oputText_noZ (w : World) (s t : ByteArray) (ht : endB t = -1) (hs : s.size + t.size ≤ 1000000000) :
    Calls Try.prog 41 #[.string s, .string t] w fun e w' => e = .returned (.string (s ++ t ++ zb)) ∧ w = w' := by
  have := oputText_any w s t hs
  have hc : cutB t = t := if_pos ht
  rw [hc] at this
  exact this

theorem textK_eq {db ro nm : ByteArray} {fm : Int} (h : rightK ⟨db, ro, fm, nm⟩ = true) : ((⟨#[]⟩ ++ db ++ zb) ++ ro ++ zb) ++ bin2 fm ++ nm ++ zb = textK ⟨db, ro, fm, nm⟩ := by
  unfold textK
  rw [if_pos h]
  apply ByteArray.ext
  simp
theorem rightK_parts {db ro nm : ByteArray} {fm : Int} (h : rightK ⟨db, ro, fm, nm⟩ = true) : endB db = -1 ∧ endB ro = -1 ∧ endB nm = -1 ∧ (fm = 0 ∨ fm = 1) := by
  simp [rightK, noZ] at h
  obtain ⟨⟨⟨a, b⟩, c⟩, d⟩ := h
  exact ⟨a, b, c, d⟩

set_option maxRecDepth 100000 in
set_option maxHeartbeats 2000000 in
theorem text_any (k : Env) (w : World) (R : Assn) (y : Ky) (ht : tiny y) (h : Sat k w R) :
    Calls Try.prog 12 #[kyV y] w fun e w' => e = .returned (.string (textK y)) ∧ Sat k w' R := by
  have hr := Lib.hid (fun w' R' => right_any k w' R' y ht)
  unfold tiny at ht
  have h1 := h.alloc (.cells (kyc y).toArray 23)
  cases hc : rightK y with
  | false =>
    have hT : textK y = ⟨#[]⟩ := by unfold textK; rw [hc]; rfl
    rw [hT]
    rw [hc] at hr
    obtain ⟨db, ro, fm, nm⟩ := y
    simp only [kyc, kyV] at *
    clear h
    go_enter Try.func12, Try.ntmps12
    go_upto_region 1 with fail
    generalize w.alloc (.cells #[.string db, .string ro, .int .i64 fm, .string nm] 23) = w1 at *
    generalize w.heap.size = o at *
    have d0 : w1.cell? ⟨o, 0, none⟩ = some (.string db) := h1.cell 0
    have d1 : w1.cell? ⟨o, 1, none⟩ = some (.string ro) := h1.cell 1
    have d2 : w1.cell? ⟨o, 2, none⟩ = some (.int .i64 fm) := h1.cell 2
    have d3 : w1.cell? ⟨o, 3, none⟩ = some (.string nm) := h1.cell 3
    go_wp2_with (go_at_call 37; refine (hr.out w1 _ h1).mono ?_; rintro e w2 ⟨rfl, h2⟩)
    go_ret
    exact ⟨rfl, h2.drop⟩
  | true =>
    rw [hc] at hr
    obtain ⟨db, ro, fm, nm⟩ := y
    have hT := Lib.hid (textK_eq hc)
    obtain ⟨e0, e1, e3, hfm⟩ := rightK_parts hc
    have E0 := Lib.hid e0
    have E1 := Lib.hid e1
    have E3 := Lib.hid e3
    have EF := Lib.hid hfm
    have hz0 : zb.size = 1 := rfl
    have hz1 : (bin2 fm).size = 2 := rfl
    have hz2 : (⟨#[]⟩ : ByteArray).size = 0 := rfl
    clear e0 e1 e3 hfm hc
    simp only [kyc, kyV] at *
    clear h
    go_enter Try.func12, Try.ntmps12
    go_upto_region 1 with fail
    generalize w.alloc (.cells #[.string db, .string ro, .int .i64 fm, .string nm] 23) = w1 at *
    generalize w.heap.size = o at *
    have d0 : w1.cell? ⟨o, 0, none⟩ = some (.string db) := h1.cell 0
    have d1 : w1.cell? ⟨o, 1, none⟩ = some (.string ro) := h1.cell 1
    have d2 : w1.cell? ⟨o, 2, none⟩ = some (.int .i64 fm) := h1.cell 2
    have d3 : w1.cell? ⟨o, 3, none⟩ = some (.string nm) := h1.cell 3
    go_wp2_with (go_at_call 37; refine (hr.out w1 _ h1).mono ?_; rintro e w2 ⟨rfl, h2⟩)
    clear d0 d1 d2 d3 h1 hr
    have d0 : w2.cell? ⟨o, 0, none⟩ = some (.string db) := h2.cell 0
    have d1 : w2.cell? ⟨o, 1, none⟩ = some (.string ro) := h2.cell 1
    have C1 := Lib.hid (fun w' => oputText_noZ w' ⟨#[]⟩ db E0.out (by omega))
    have C2 := Lib.hid (fun w' => oputText_noZ w' (⟨#[]⟩ ++ db ++ zb) ro E1.out (by simp only [ByteArray.size_append]; omega))
    have C3 := Lib.hid (fun w' R' => oput16 k w' R' (⟨#[]⟩ ++ db ++ zb ++ ro ++ zb) fm EF.out (by simp only [ByteArray.size_append]; omega))
    have C4 := Lib.hid (fun w' => oputText_noZ w' (⟨#[]⟩ ++ db ++ zb ++ ro ++ zb ++ bin2 fm) nm E3.out (by simp only [ByteArray.size_append]; omega))
    generalize ⟨#[]⟩ ++ db ++ zb ++ ro ++ zb ++ bin2 fm ++ nm ++ zb = t4 at *
    generalize ⟨#[]⟩ ++ db ++ zb ++ ro ++ zb ++ bin2 fm = t3 at *
    generalize ⟨#[]⟩ ++ db ++ zb ++ ro ++ zb = t2 at *
    generalize ⟨#[]⟩ ++ db ++ zb = t1 at *
    go_wp2_with fail
    go_region_held3 (fun w' => w'.cell? ⟨o, 0, none⟩ = some (.string db) ∧ w'.cell? ⟨o, 1, none⟩ = some (.string ro)) (exact ⟨d0, d1⟩) (first | (go_at_call 41; (with_reducible refine (C1.out _).mono ?_); rintro e w' ⟨rfl, rfl⟩) | (go_at_call 41; (with_reducible refine (C2.out _).mono ?_); rintro e w' ⟨rfl, rfl⟩) | fail)
    replace h2 := h2.drew
    generalize w2.drew = w3 at *
    clear d0 d1
    have d2 : w3.cell? ⟨o, 2, none⟩ = some (.int .i64 fm) := h2.cell 2
    have d3 : w3.cell? ⟨o, 3, none⟩ = some (.string nm) := h2.cell 3
    go_wp2_with fail
    go_region_held3 (fun w' => w'.cell? ⟨o, 2, none⟩ = some (.int .i64 fm) ∧ w'.cell? ⟨o, 3, none⟩ = some (.string nm)) (first | exact ⟨d2, d3⟩ | exact ⟨(h5.cell 2).trans rfl, (h5.cell 3).trans rfl⟩ | fail) (first | (go_at_call 42; (with_reducible refine (C3.out _ _ h2.drew).mono ?_); rintro e w5 ⟨rfl, h5⟩) | (go_at_call 41; (with_reducible refine (C4.out _).mono ?_); rintro e w' ⟨rfl, rfl⟩) | fail)
    go_wp2_with fail
    go_ret
    rw [hT.out]
    exact ⟨rfl, h5.drop⟩

theorem textK_size {y : Ky} (ht : tiny y) : (textK y).size ≤ 1000010 := by
  unfold textK tiny at *
  split
  · have hz0 : zb.size = 1 := rfl
    have hz1 : (bin2 y.fm).size = 2 := rfl
    simp only [ByteArray.size_append]; omega
  · show (0 : Nat) ≤ _; omega
def sizeK (y : Ky) (v : ByteArray) : Int := if rightK y = true then 16 + (textK y).size + v.size else 0

set_option maxRecDepth 100000 in
set_option maxHeartbeats 2000000 in
theorem size_any (k : Env) (w : World) (R : Assn) (y : Ky) (v : ByteArray) (ht : tiny y) (hv : v.size ≤ 1000000000) (h : Sat k w R) :
    Calls Try.prog 15 #[kyV y, .string v] w fun e w' => e = .returned (.int .i64 (sizeK y v)) ∧ Sat k w' R := by
  have hr := Lib.hid (fun w' R' => right_any k w' R' y ht)
  have htx := Lib.hid (fun w' R' => text_any k w' R' y ht)
  have hts := textK_size ht
  have h1 := h.alloc (.cells (kyc y).toArray 23)
  have HS : Hid (sizeK y v = if rightK y = true then 16 + ((textK y).size : Int) + (v.size : Int) else 0) := rfl
  generalize textK y = tx at *
  generalize rightK y = rr at *
  obtain ⟨db, ro, fm, nm⟩ := y
  simp only [kyc, kyV] at *
  clear h
  go_enter Try.func15, Try.ntmps15
  go_upto_region 1 with fail
  generalize w.alloc (.cells #[.string db, .string ro, .int .i64 fm, .string nm] 23) = w1 at *
  generalize w.heap.size = o at *
  have d0 : w1.cell? ⟨o, 0, none⟩ = some (.string db) := h1.cell 0
  have d1 : w1.cell? ⟨o, 1, none⟩ = some (.string ro) := h1.cell 1
  have d2 : w1.cell? ⟨o, 2, none⟩ = some (.int .i64 fm) := h1.cell 2
  have d3 : w1.cell? ⟨o, 3, none⟩ = some (.string nm) := h1.cell 3
  cases rr
  · go_wp2_with (go_at_call 37; refine (hr.out w1 _ h1).mono ?_; rintro e w2 ⟨rfl, h2⟩)
    go_ret
    rw [HS.out]
    exact ⟨rfl, h2.drop⟩
  · go_wp2_with (first | (go_at_call 37; refine (hr.out w1 _ h1).mono ?_; rintro e w2 ⟨rfl, h2⟩; have d0 : w2.cell? ⟨o, 0, none⟩ = some (.string db) := h2.cell 0; have d1 : w2.cell? ⟨o, 1, none⟩ = some (.string ro) := h2.cell 1; have d2 : w2.cell? ⟨o, 2, none⟩ = some (.int .i64 fm) := h2.cell 2; have d3 : w2.cell? ⟨o, 3, none⟩ = some (.string nm) := h2.cell 3) | (go_at_call 12; refine (htx.out w2 _ h2).mono ?_; rintro e w3 ⟨rfl, h3⟩))
    go_ret
    rw [HS.out]
    exact ⟨rfl, h3.drop⟩

theorem endL_app {t : List UInt8} {i : Nat} (q : List UInt8) (h : endL t i = -1) : endL (t ++ 0 :: q) i = ((i + t.length : Nat) : Int) := by
  induction t generalizing i with
  | nil => simp [endL]
  | cons c r ih =>
    rw [endL] at h
    by_cases hc : c = 0
    · rw [if_pos hc] at h; omega
    · rw [if_neg hc] at h
      rw [List.cons_append, endL, if_neg hc, ih h, List.length_cons]
      congr 1; omega
theorem size_list (s : ByteArray) : s.size = s.data.toList.length := by simp
theorem extract_mid (p t q : ByteArray) : (p ++ t ++ q).extract p.size (p.size + t.size) = t := by
  apply ByteArray.ext
  apply Array.ext'
  rw [ByteArray.data_extract, Array.toList_extract, List.extract_eq_take_drop, ByteArray.data_append, ByteArray.data_append, Array.toList_append, Array.toList_append, List.append_assoc, size_list p, List.drop_left, Nat.add_sub_cancel_left, size_list t, List.take_left]
theorem extract_tail (p t : ByteArray) : (p ++ t).extract p.size (p ++ t).size = t := by
  apply ByteArray.ext
  apply Array.ext'
  rw [ByteArray.data_extract, Array.toList_extract, List.extract_eq_take_drop, size_list (p ++ t), ByteArray.data_append, Array.toList_append, size_list p, List.drop_left, List.length_append, Nat.add_sub_cancel_left, List.take_length]
theorem getT_at (p t q : ByteArray) (h : endB t = -1) : getT (p ++ t ++ zb ++ q) p.size = (t, ((p.size + t.size + 1 : Nat) : Int), 0) := by
  have hs : (p ++ t ++ zb ++ q).size = p.size + t.size + 1 + q.size := by rw [ByteArray.size_append, ByteArray.size_append, ByteArray.size_append]; rfl
  have he : (p ++ t ++ zb ++ q).extract p.size (p ++ t ++ zb ++ q).size = t ++ zb ++ q := by
    have : p ++ t ++ zb ++ q = p ++ (t ++ zb ++ q) := by simp [ByteArray.append_assoc]
    rw [this]; exact extract_tail _ _
  have hb : endB (t ++ zb ++ q) = (t.size : Int) := by
    unfold endB
    have : (t ++ zb ++ q).data.toList = t.data.toList ++ 0 :: q.data.toList := by simp
    rw [this, endL_app _ h]
    simp
  unfold getT
  rw [if_neg (by omega)]
  simp only [Int.toNat_natCast]
  rw [he, hb, if_neg (by omega)]
  have hn : ((p.size : Int) + (t.size : Int)).toNat = p.size + t.size := by omega
  rw [hn]
  have hx : (p ++ t ++ zb ++ q).extract p.size (p.size + t.size) = t := by
    have : p ++ t ++ zb ++ q = p ++ t ++ (zb ++ q) := by simp [ByteArray.append_assoc]
    rw [this]; exact extract_mid _ _ _
  rw [hx]
  simp

end Go.Proofs.Ytlilogcojeoelaa

namespace Go.Proofs.Ytlilogcojeoelaa
set_option linter.all false
open Go Go.RowKit

theorem parse_places {db ro nm : ByteArray} {fm : Int} (h : rightK ⟨db, ro, fm, nm⟩ = true) (ht : tiny ⟨db, ro, fm, nm⟩) (k : Env) : ∃ n1 n2 n3 : Int, getT (textK ⟨db, ro, fm, nm⟩) 0 = (db, n1, 0) ∧ getT (textK ⟨db, ro, fm, nm⟩) n1 = (ro, n2, 0) ∧
    (∀ (w : World) (R : Assn), Sat k w R → Calls Try.prog 36 #[.string (textK ⟨db, ro, fm, nm⟩), .int .i64 n2] w fun e w' => e = .returned (.tuple #[.int .i64 fm, .int .i64 n3, .int .i64 0]) ∧ Sat k w' R) ∧
    getT (textK ⟨db, ro, fm, nm⟩) n3 = (nm, ((textK ⟨db, ro, fm, nm⟩).size : Int), 0) := by
  obtain ⟨e0, e1, e3, hfm⟩ := rightK_parts h
  have hsz := textK_size ht
  have hT : textK ⟨db, ro, fm, nm⟩ = db ++ zb ++ ro ++ zb ++ bin2 fm ++ nm ++ zb := by unfold textK; rw [if_pos h]
  rw [hT] at hsz ⊢
  have z1 : zb.size = 1 := rfl
  have z2 : (bin2 fm).size = 2 := rfl
  have z0 : (⟨#[]⟩ : ByteArray).size = 0 := rfl
  have g1 := getT_at ⟨#[]⟩ db (ro ++ zb ++ bin2 fm ++ nm ++ zb) e0
  have q1 : (⟨#[]⟩ : ByteArray) ++ db ++ zb ++ (ro ++ zb ++ bin2 fm ++ nm ++ zb) = db ++ zb ++ ro ++ zb ++ bin2 fm ++ nm ++ zb := by
    apply ByteArray.ext; simp
  have g2 := getT_at (db ++ zb) ro (bin2 fm ++ nm ++ zb) e1
  have q2 : db ++ zb ++ ro ++ zb ++ (bin2 fm ++ nm ++ zb) = db ++ zb ++ ro ++ zb ++ bin2 fm ++ nm ++ zb := by simp [ByteArray.append_assoc]
  have g3 := extract_mid (db ++ zb ++ ro ++ zb) (bin2 fm) (nm ++ zb)
  have q3 : db ++ zb ++ ro ++ zb ++ bin2 fm ++ (nm ++ zb) = db ++ zb ++ ro ++ zb ++ bin2 fm ++ nm ++ zb := by simp [ByteArray.append_assoc]
  have g4 := getT_at (db ++ zb ++ ro ++ zb ++ bin2 fm) nm ⟨#[]⟩ e3
  have q4 : db ++ zb ++ ro ++ zb ++ bin2 fm ++ nm ++ zb ++ ⟨#[]⟩ = db ++ zb ++ ro ++ zb ++ bin2 fm ++ nm ++ zb := by
    apply ByteArray.ext; simp
  rw [q1] at g1
  rw [q2] at g2
  rw [q3] at g3
  rw [q4] at g4
  have hs : (db ++ zb ++ ro ++ zb ++ bin2 fm ++ nm ++ zb).size = db.size + 1 + ro.size + 1 + 2 + nm.size + 1 := by simp only [ByteArray.size_append]; omega
  have p2 : (db ++ zb).size = db.size + 1 := by simp only [ByteArray.size_append]; omega
  have p3 : (db ++ zb ++ ro ++ zb).size = db.size + 1 + ro.size + 1 := by simp only [ByteArray.size_append]; omega
  have p4 : (db ++ zb ++ ro ++ zb ++ bin2 fm).size = db.size + 1 + ro.size + 1 + 2 := by simp only [ByteArray.size_append]; omega
  rw [z0] at g1
  rw [p2] at g2
  rw [p3, z2] at g3
  rw [p4] at g4
  rw [hs]
  generalize db ++ zb ++ ro ++ zb ++ bin2 fm ++ nm ++ zb = s at *
  refine ⟨((0 + db.size + 1 : Nat) : Int), ((db.size + 1 + ro.size + 1 : Nat) : Int), ((db.size + 1 + ro.size + 1 + 2 : Nat) : Int), g1, by rw [Nat.zero_add]; exact g2, fun w R hS => ?_, g4⟩
  have := oget16_small k w R s (db.size + 1 + ro.size + 1) fm hfm (by omega) (by omega) g3 hS
  exact this

set_option maxRecDepth 100000 in
set_option maxHeartbeats 4000000 in
theorem parse_text (k : Env) (w : World) (R : Assn) (y : Ky) (ht : tiny y) (hy : rightK y = true) (h : Sat k w R) :
    Calls Try.prog 10 #[.string (textK y)] w fun e w' => e = .returned (.tuple #[kyV y, .bool true]) ∧ Sat k w' R := by
  have hr := Lib.hid (fun w' R' => right_any k w' R' y ht)
  have hsz := textK_size ht
  rw [hy] at hr
  obtain ⟨db, ro, fm, nm⟩ := y
  obtain ⟨n1, n2, n3, g1, g2, g3, g4⟩ := parse_places hy ht k
  clear hy ht
  generalize textK ⟨db, ro, fm, nm⟩ = s at *
  have C1 := Lib.hid (fun w' => ogetText_any w' s 0 (by omega))
  have C2 := Lib.hid (fun w' => ogetText_any w' s n1 (by omega))
  have C3 := Lib.hid g3
  have C4 := Lib.hid (fun w' => ogetText_any w' s n3 (by omega))
  rw [g1] at C1
  rw [g2] at C2
  rw [g4] at C4
  simp only [getTV] at C1 C2 C4
  simp only [kyV] at *
  clear g1 g2 g3 g4
  go_enter Try.func10, Try.ntmps10
  go_upto_region 4 with fail
  have h1 := ((h.alloc (.cells #[.string ⟨#[]⟩, .string ⟨#[]⟩, .int .i64 0, .string ⟨#[]⟩] 23)).alloc (.cells #[.string ⟨#[]⟩, .string ⟨#[]⟩, .int .i64 0, .string ⟨#[]⟩] 23)).alloc (.cells #[.int .i64 0, .int .i64 0, .int .i64 0, .int .i64 0] 73)
  simp only [World.size_alloc] at h1
  generalize (((w.alloc (.cells #[.string ⟨#[]⟩, .string ⟨#[]⟩, .int .i64 0, .string ⟨#[]⟩] 23)).alloc (.cells #[.string ⟨#[]⟩, .string ⟨#[]⟩, .int .i64 0, .string ⟨#[]⟩] 23)).alloc (.cells #[.int .i64 0, .int .i64 0, .int .i64 0, .int .i64 0] 73)) = w1 at *
  generalize w.heap.size + 1 + 1 = o5 at *
  generalize w.heap.size + 1 = o4 at *
  generalize w.heap.size = o2 at *
  have a1 : w1.cell? ⟨o4, 0, none⟩ = some (.string ⟨#[]⟩) := h1.swap.cell 0
  have b1 : w1.cell? ⟨o5, 0, none⟩ = some (.int .i64 0) := h1.cell 0
  have f4 := h1.swap.frozen
  have f5 := h1.frozen
  have o45 : o5 ≠ o4 := h1.ne
  have o54 : o4 ≠ o5 := Ne.symm o45
  go_upto_region 5 with (go_at_call 35; (with_reducible refine (C1.out _).mono ?_); rintro e w' ⟨rfl, rfl⟩)
  have h2 := ((h1.swap.set 0 (.string db)).swap.set 0 (.int .i64 0))
  generalize ((w1.setCell ⟨o4, 0, none⟩ (.string db)).setCell ⟨o5, 0, none⟩ (.int .i64 0)) = w2 at *
  clear a1 b1 f4 f5 o45 o54
  have a2 : w2.cell? ⟨o4, 1, none⟩ = some (.string ⟨#[]⟩) := h2.swap.cell 1
  have b2 : w2.cell? ⟨o5, 1, none⟩ = some (.int .i64 0) := h2.cell 1
  have f4 := h2.swap.frozen
  have f5 := h2.frozen
  have o45 : o5 ≠ o4 := h2.ne
  have o54 : o4 ≠ o5 := Ne.symm o45
  go_upto_region 6 with (go_at_call 35; (with_reducible refine (C2.out _).mono ?_); rintro e w' ⟨rfl, rfl⟩)
  have h3 := ((h2.swap.set 1 (.string ro)).swap.set 1 (.int .i64 0))
  generalize ((w2.setCell ⟨o4, 1, none⟩ (.string ro)).setCell ⟨o5, 1, none⟩ (.int .i64 0)) = w3 at *
  clear a2 b2 f4 f5 o45 o54
  go_upto_region 7 with (go_at_call 36; (with_reducible refine (C3.out w3 _ h3).mono ?_); rintro e w3x ⟨rfl, h3x⟩; have a3 : w3x.cell? ⟨o4, 2, none⟩ = some (.int .i64 0) := h3x.swap.cell 2; have b3 : w3x.cell? ⟨o5, 2, none⟩ = some (.int .i64 0) := h3x.cell 2; have f4 := h3x.swap.frozen; have f5 := h3x.frozen; have o45 : o5 ≠ o4 := h3x.ne; have o54 : o4 ≠ o5 := Ne.symm o45)
  have h4 := ((h3x.swap.set 2 (.int .i64 fm)).swap.set 2 (.int .i64 0))
  generalize ((w3x.setCell ⟨o4, 2, none⟩ (.int .i64 fm)).setCell ⟨o5, 2, none⟩ (.int .i64 0)) = w4 at *
  clear a3 b3 f4 f5 o45 o54 h3x
  have a4 : w4.cell? ⟨o4, 3, none⟩ = some (.string ⟨#[]⟩) := h4.swap.cell 3
  have b4 : w4.cell? ⟨o5, 3, none⟩ = some (.int .i64 0) := h4.cell 3
  have f4 := h4.swap.frozen
  have f5 := h4.frozen
  have o45 : o5 ≠ o4 := h4.ne
  have o54 : o4 ≠ o5 := Ne.symm o45
  go_upto_region 8 with (go_at_call 35; (with_reducible refine (C4.out _).mono ?_); rintro e w' ⟨rfl, rfl⟩)
  have h5 := ((h4.swap.set 3 (.string nm)).swap.set 3 (.int .i64 0))
  generalize ((w4.setCell ⟨o4, 3, none⟩ (.string nm)).setCell ⟨o5, 3, none⟩ (.int .i64 0)) = w5 at *
  clear a4 b4 f4 f5 o45 o54
  have d0 : w5.cell? ⟨o4, 0, none⟩ = some (.string db) := h5.swap.cell 0
  have d1 : w5.cell? ⟨o4, 1, none⟩ = some (.string ro) := h5.swap.cell 1
  have d2 : w5.cell? ⟨o4, 2, none⟩ = some (.int .i64 fm) := h5.swap.cell 2
  have d3 : w5.cell? ⟨o4, 3, none⟩ = some (.string nm) := h5.swap.cell 3
  have e0 : w5.cell? ⟨o5, 0, none⟩ = some (.int .i64 0) := h5.cell 0
  have e1 : w5.cell? ⟨o5, 1, none⟩ = some (.int .i64 0) := h5.cell 1
  have e2 : w5.cell? ⟨o5, 2, none⟩ = some (.int .i64 0) := h5.cell 2
  have e3 : w5.cell? ⟨o5, 3, none⟩ = some (.int .i64 0) := h5.cell 3
  have hne : ∀ w : World, (binOp .neq 73 (.agg #[.int .i64 0, .int .i64 0, .int .i64 0, .int .i64 0]) (.agg #[.int .i64 0, .int .i64 0, .int .i64 0, .int .i64 0])).run Try.prog w = .ok (.bool false) w := fun _ => by kernel_rfl
  go_wp2_with (go_at_call 37; (with_reducible refine (hr.out w5 _ h5).mono ?_); rintro e w6 ⟨rfl, h6⟩; have d0 : w6.cell? ⟨o4, 0, none⟩ = some (.string db) := h6.swap.cell 0; have d1 : w6.cell? ⟨o4, 1, none⟩ = some (.string ro) := h6.swap.cell 1; have d2 : w6.cell? ⟨o4, 2, none⟩ = some (.int .i64 fm) := h6.swap.cell 2; have d3 : w6.cell? ⟨o4, 3, none⟩ = some (.string nm) := h6.swap.cell 3; have r0 : w6.cell? ⟨o2, 0, none⟩ = some (.string ⟨#[]⟩) := h6.get3.cell 0; have r1 : w6.cell? ⟨o2, 1, none⟩ = some (.string ⟨#[]⟩) := h6.get3.cell 1; have r2 : w6.cell? ⟨o2, 2, none⟩ = some (.int .i64 0) := h6.get3.cell 2; have r3 : w6.cell? ⟨o2, 3, none⟩ = some (.string ⟨#[]⟩) := h6.get3.cell 3; have rf := h6.get3.frozen)
  refine bodyPost_ret (v := .tuple #[.agg #[.string db, .string ro, .int .i64 fm, .string nm], .bool true]) (by simp [results, Try.results10, go_sem, r0, r1, r2, r3]) rfl ?_
  exact ⟨rfl, ((((h6.get3.set 0 _).set 1 _).set 2 _).set 3 _).drop.drop.drop⟩

end Go.Proofs.Ytlilogcojeoelaa

namespace Go.Proofs.Ytlilogcojeoelaa
set_option linter.all false
open Go Go.RowKit

theorem tl_iff (a b : ByteArray) : (a.toList = b.toList) ↔ a = b := by
  have := tl_beq a b
  by_cases h : a = b
  · simp [h]
  · simp only [h, decide_false, beq_eq_false_iff_ne, ne_eq] at this
    simp [h, this]
theorem kyV_eq (a b : Ky) (w : World) : (Op.equal 23 (kyV a) (kyV b)).run Try.prog w = .ok (decide (a = b)) w := by
  obtain ⟨d, r, f, n⟩ := a
  obtain ⟨d', r', f', n'⟩ := b
  have h0 : Try.prog.underlying 9 = some .string := Try.underlying9
  have h1 : Try.prog.underlying 3 = some (.int .i64) := Try.underlying3
  have hs : Try.prog.underlying 23 = some (.struct (Try.prog.fieldsOf 23)) := by kernel_rfl
  simp only [Op.equal, kyV]
  rw [show Op.maxDepth = 9999 + 1 from rfl, run_equalIn_agg w 9999 23 _ _ hs (by kernel_rfl)]
  simp [Program.fieldsOf, Try.underlying23, Op.eqFields, go_sem, h0, h1]
  simp only [tl_iff]
  by_cases c0 : d = d' <;> by_cases c1 : r = r' <;> by_cases c2 : f = f' <;> by_cases c3 : n = n' <;> simp [c0, c1, c2, c3]
theorem kfind_asking (a : Ky) (es : List MapEntry) (l : List (Ky × Value)) (i : Nat) (w : World) (h : es.map (fun e => (e.key, e.val)) = l.map (fun x => (kyV x.1, x.2))) : (Instr.findAsking 23 (kyV a) es i).run Try.prog w = .ok (mloc a l i) w := by
  induction es generalizing l i with
  | nil =>
    cases l with
    | nil => rfl
    | cons x r => simp at h
  | cons e es ih =>
    cases l with
    | nil => simp at h
    | cons x r =>
      simp only [List.map_cons, List.cons.injEq, Prod.mk.injEq] at h
      obtain ⟨⟨h1, h2⟩, h3⟩ := h
      rw [Instr.findAsking, Sem.run_bind, h1, kyV_eq, Result.andThen_ok]
      by_cases hx : x.1 = a
      · subst hx
        simp [mloc, h2]
      · have hx' : ¬ a = x.1 := fun q => hx q.symm
        simp only [hx', decide_false, Bool.false_eq_true, if_false]
        rw [ih r (i + 1) h3, mloc, if_neg hx]
theorem KKey : KeyT Try.prog 23 kyV where
  check b a w := by
    obtain ⟨d, r, f, n⟩ := a
    kernel_rfl
  find a es l w h := by
    unfold Instr.findKey
    simp only [Sem.run_bind, run_underlying Try.underlying23, Result.andThen_ok]
    cases es with
    | nil =>
      cases l with
      | nil => rfl
      | cons x r => simp at h
    | cons e0 es0 =>
      have hn : ∀ fs, Instr.findNow (.struct fs) (kyV a) (e0 :: es0) 0 = none := by
        intro fs
        rw [Instr.findNow]
        have : Instr.sameNow (.struct fs) (kyV a) e0.key = none := rfl
        rw [this]
      rw [hn]
      exact kfind_asking a (e0 :: es0) l 0 w h
  bits a := by simp [Instr.sameBits, kyV, bytes_beq]

end Go.Proofs.Ytlilogcojeoelaa
