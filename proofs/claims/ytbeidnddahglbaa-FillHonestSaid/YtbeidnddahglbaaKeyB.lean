/- Contracts of package cache: a key's text and size, and its text's key. -/
import Derived.Test.YtbeidnddahglbaaKeyA
import Derived.Deep.RegionHeld3
import Derived.Deep.DeepCutAuto
namespace Go.Proofs.Ytbeidnddahglbaa
set_option linter.all false
open Go Go.RowKit

theorem oputText_noZ (w : World) (s t : ByteArray) (ht : endB t = -1) (hs : s.size + t.size ≤ 1000000000) :
    Calls Try.prog 72 #[.string s, .string t] w fun e w' => e = .returned (.string (s ++ t ++ zb)) ∧ w = w' := by
  have := oputText_any w s t hs
  have hc : cutB t = t := if_pos ht
  rw [hc] at this
  exact this

theorem textK_eq {db ro nm : ByteArray} {fm : Int} (h : rightK ⟨db, ro, fm, nm⟩ = true) : ((⟨#[]⟩ ++ db ++ zb) ++ ro ++ zb) ++ bin2 fm ++ nm ++ zb = textK ⟨db, ro, fm, nm⟩ := by
  unfold textK
  rw [if_pos h]
  apply ByteArray.ext
  simp
theorem rightK_parts {db ro nm : ByteArray} {fm : Int} (h : rightK ⟨db, ro, fm, nm⟩ = true) : endB db = -1 ∧ endB ro = -1 ∧ endB nm = -1 ∧ (fm = 0 ∨ fm = 1) := by
  simp [rightK, noZ] at h
  obtain ⟨⟨⟨a, b⟩, c⟩, d⟩ := h
  exact ⟨a, b, c, d⟩

set_option maxRecDepth 100000 in
set_option maxHeartbeats 2000000 in
theorem text_any (k : Env) (w : World) (R : Assn) (y : Ky) (ht : tiny y) (h : Sat k w R) :
    Calls Try.prog 51 #[kyV y] w fun e w' => e = .returned (.string (textK y)) ∧ Sat k w' R := by
  have hr := Lib.hid (fun w' R' => right_any k w' R' y ht)
  unfold tiny at ht
  have h1 := h.alloc (.cells (kyc y).toArray 30)
  cases hc : rightK y with
  | false =>
    have hT : textK y = ⟨#[]⟩ := by unfold textK; rw [hc]; rfl
    rw [hT]
    rw [hc] at hr
    obtain ⟨db, ro, fm, nm⟩ := y
    simp only [kyc, kyV] at *
    clear h
    go_enter Try.func51, Try.ntmps51
    go_upto_region 1 with fail
    generalize w.alloc (.cells #[.string db, .string ro, .int .i64 fm, .string nm] 30) = w1 at *
    generalize w.heap.size = o at *
    have d0 : w1.cell? ⟨o, 0, none⟩ = some (.string db) := h1.cell 0
    have d1 : w1.cell? ⟨o, 1, none⟩ = some (.string ro) := h1.cell 1
    have d2 : w1.cell? ⟨o, 2, none⟩ = some (.int .i64 fm) := h1.cell 2
    have d3 : w1.cell? ⟨o, 3, none⟩ = some (.string nm) := h1.cell 3
    go_wp2_with (go_at_call 49; refine (hr.out w1 _ h1).mono ?_; rintro e w2 ⟨rfl, h2⟩)
    go_ret
    exact ⟨rfl, h2.drop⟩
  | true =>
    rw [hc] at hr
    obtain ⟨db, ro, fm, nm⟩ := y
    have hT := Lib.hid (textK_eq hc)
    obtain ⟨e0, e1, e3, hfm⟩ := rightK_parts hc
    have E0 := Lib.hid e0
    have E1 := Lib.hid e1
    have E3 := Lib.hid e3
    have EF := Lib.hid hfm
    have hz0 : zb.size = 1 := rfl
    have hz1 : (bin2 fm).size = 2 := rfl
    have hz2 : (⟨#[]⟩ : ByteArray).size = 0 := rfl
    clear e0 e1 e3 hfm hc
    simp only [kyc, kyV] at *
    clear h
    go_enter Try.func51, Try.ntmps51
    go_upto_region 1 with fail
    generalize w.alloc (.cells #[.string db, .string ro, .int .i64 fm, .string nm] 30) = w1 at *
    generalize w.heap.size = o at *
    have d0 : w1.cell? ⟨o, 0, none⟩ = some (.string db) := h1.cell 0
    have d1 : w1.cell? ⟨o, 1, none⟩ = some (.string ro) := h1.cell 1
    have d2 : w1.cell? ⟨o, 2, none⟩ = some (.int .i64 fm) := h1.cell 2
    have d3 : w1.cell? ⟨o, 3, none⟩ = some (.string nm) := h1.cell 3
    go_wp2_with (go_at_call 49; refine (hr.out w1 _ h1).mono ?_; rintro e w2 ⟨rfl, h2⟩)
    clear d0 d1 d2 d3 h1 hr
    have d0 : w2.cell? ⟨o, 0, none⟩ = some (.string db) := h2.cell 0
    have d1 : w2.cell? ⟨o, 1, none⟩ = some (.string ro) := h2.cell 1
    have C1 := Lib.hid (fun w' => oputText_noZ w' ⟨#[]⟩ db E0.out (by omega))
    have C2 := Lib.hid (fun w' => oputText_noZ w' (⟨#[]⟩ ++ db ++ zb) ro E1.out (by simp only [ByteArray.size_append]; omega))
    have C3 := Lib.hid (fun w' R' => oput16 k w' R' (⟨#[]⟩ ++ db ++ zb ++ ro ++ zb) fm EF.out (by simp only [ByteArray.size_append]; omega))
    have C4 := Lib.hid (fun w' => oputText_noZ w' (⟨#[]⟩ ++ db ++ zb ++ ro ++ zb ++ bin2 fm) nm E3.out (by simp only [ByteArray.size_append]; omega))
    generalize ⟨#[]⟩ ++ db ++ zb ++ ro ++ zb ++ bin2 fm ++ nm ++ zb = t4 at *
    generalize ⟨#[]⟩ ++ db ++ zb ++ ro ++ zb ++ bin2 fm = t3 at *
    generalize ⟨#[]⟩ ++ db ++ zb ++ ro ++ zb = t2 at *
    generalize ⟨#[]⟩ ++ db ++ zb = t1 at *
    go_wp2_with fail
    go_region_held3 (fun w' => w'.cell? ⟨o, 0, none⟩ = some (.string db) ∧ w'.cell? ⟨o, 1, none⟩ = some (.string ro)) (exact ⟨d0, d1⟩) (first | (go_at_call 72; (with_reducible refine (C1.out _).mono ?_); rintro e w' ⟨rfl, rfl⟩) | (go_at_call 72; (with_reducible refine (C2.out _).mono ?_); rintro e w' ⟨rfl, rfl⟩) | fail)
    replace h2 := h2.drew
    generalize w2.drew = w3 at *
    clear d0 d1
    have d2 : w3.cell? ⟨o, 2, none⟩ = some (.int .i64 fm) := h2.cell 2
    have d3 : w3.cell? ⟨o, 3, none⟩ = some (.string nm) := h2.cell 3
    go_wp2_with fail
    go_region_held3 (fun w' => w'.cell? ⟨o, 2, none⟩ = some (.int .i64 fm) ∧ w'.cell? ⟨o, 3, none⟩ = some (.string nm)) (first | exact ⟨d2, d3⟩ | exact ⟨(h5.cell 2).trans rfl, (h5.cell 3).trans rfl⟩ | fail) (first | (go_at_call 73; (with_reducible refine (C3.out _ _ h2.drew).mono ?_); rintro e w5 ⟨rfl, h5⟩) | (go_at_call 72; (with_reducible refine (C4.out _).mono ?_); rintro e w' ⟨rfl, rfl⟩) | fail)
    go_wp2_with fail
    go_ret
    rw [hT.out]
    exact ⟨rfl, h5.drop⟩

theorem textK_size {y : Ky} (ht : tiny y) : (textK y).size ≤ 1000010 := by
  unfold textK tiny at *
  split
  · have hz0 : zb.size = 1 := rfl
    have hz1 : (bin2 y.fm).size = 2 := rfl
    simp only [ByteArray.size_append]; omega
  · show (0 : Nat) ≤ _; omega
def sizeK (y : Ky) (v : ByteArray) : Int := if rightK y = true then 16 + (textK y).size + v.size else 0

set_option maxRecDepth 100000 in
set_option maxHeartbeats 2000000 in
theorem size_any (k : Env) (w : World) (R : Assn) (y : Ky) (v : ByteArray) (ht : tiny y) (hv : v.size ≤ 1000000000) (h : Sat k w R) :
    Calls Try.prog 52 #[kyV y, .string v] w fun e w' => e = .returned (.int .i64 (sizeK y v)) ∧ Sat k w' R := by
  have hr := Lib.hid (fun w' R' => right_any k w' R' y ht)
  have htx := Lib.hid (fun w' R' => text_any k w' R' y ht)
  have hts := textK_size ht
  have h1 := h.alloc (.cells (kyc y).toArray 30)
  have HS : Hid (sizeK y v = if rightK y = true then 16 + ((textK y).size : Int) + (v.size : Int) else 0) := rfl
  generalize textK y = tx at *
  generalize rightK y = rr at *
  obtain ⟨db, ro, fm, nm⟩ := y
  simp only [kyc, kyV] at *
  clear h
  go_enter Try.func52, Try.ntmps52
  go_upto_region 1 with fail
  generalize w.alloc (.cells #[.string db, .string ro, .int .i64 fm, .string nm] 30) = w1 at *
  generalize w.heap.size = o at *
  have d0 : w1.cell? ⟨o, 0, none⟩ = some (.string db) := h1.cell 0
  have d1 : w1.cell? ⟨o, 1, none⟩ = some (.string ro) := h1.cell 1
  have d2 : w1.cell? ⟨o, 2, none⟩ = some (.int .i64 fm) := h1.cell 2
  have d3 : w1.cell? ⟨o, 3, none⟩ = some (.string nm) := h1.cell 3
  cases rr
  · go_wp2_with (go_at_call 49; refine (hr.out w1 _ h1).mono ?_; rintro e w2 ⟨rfl, h2⟩)
    go_ret
    rw [HS.out]
    exact ⟨rfl, h2.drop⟩
  · go_wp2_with (first | (go_at_call 49; refine (hr.out w1 _ h1).mono ?_; rintro e w2 ⟨rfl, h2⟩; have d0 : w2.cell? ⟨o, 0, none⟩ = some (.string db) := h2.cell 0; have d1 : w2.cell? ⟨o, 1, none⟩ = some (.string ro) := h2.cell 1; have d2 : w2.cell? ⟨o, 2, none⟩ = some (.int .i64 fm) := h2.cell 2; have d3 : w2.cell? ⟨o, 3, none⟩ = some (.string nm) := h2.cell 3) | (go_at_call 51; refine (htx.out w2 _ h2).mono ?_; rintro e w3 ⟨rfl, h3⟩))
    go_ret
    rw [HS.out]
    exact ⟨rfl, h3.drop⟩

theorem endL_app {t : List UInt8} {i : Nat} (q : List UInt8) (h : endL t i = -1) : endL (t ++ 0 :: q) i = ((i + t.length : Nat) : Int) := by
  induction t generalizing i with
  | nil => simp [endL]
  | cons c r ih =>
    rw [endL] at h
    by_cases hc : c = 0
    · rw [if_pos hc] at h; omega
    · rw [if_neg hc] at h
      rw [List.cons_append, endL, if_neg hc, ih h, List.length_cons]
      congr 1; omega
theorem size_list (s : ByteArray) : s.size = s.data.toList.length := by simp
theorem extract_mid (p t q : ByteArray) : (p ++ t ++ q).extract p.size (p.size + t.size) = t := by
  apply ByteArray.ext
  apply Array.ext'
  rw [ByteArray.data_extract, Array.toList_extract, List.extract_eq_take_drop, ByteArray.data_append, ByteArray.data_append, Array.toList_append, Array.toList_append, List.append_assoc, size_list p, List.drop_left, Nat.add_sub_cancel_left, size_list t, List.take_left]
theorem extract_tail (p t : ByteArray) : (p ++ t).extract p.size (p ++ t).size = t := by
  apply ByteArray.ext
  apply Array.ext'
  rw [ByteArray.data_extract, Array.toList_extract, List.extract_eq_take_drop, size_list (p ++ t), ByteArray.data_append, Array.toList_append, size_list p, List.drop_left, List.length_append, Nat.add_sub_cancel_left, List.take_length]
theorem getT_at (p t q : ByteArray) (h : endB t = -1) : getT (p ++ t ++ zb ++ q) p.size = (t, ((p.size + t.size + 1 : Nat) : Int), 0) := by
  have hs : (p ++ t ++ zb ++ q).size = p.size + t.size + 1 + q.size := by rw [ByteArray.size_append, ByteArray.size_append, ByteArray.size_append]; rfl
  have he : (p ++ t ++ zb ++ q).extract p.size (p ++ t ++ zb ++ q).size = t ++ zb ++ q := by
    have : p ++ t ++ zb ++ q = p ++ (t ++ zb ++ q) := by simp [ByteArray.append_assoc]
    rw [this]; exact extract_tail _ _
  have hb : endB (t ++ zb ++ q) = (t.size : Int) := by
    unfold endB
    have : (t ++ zb ++ q).data.toList = t.data.toList ++ 0 :: q.data.toList := by simp
    rw [this, endL_app _ h]
    simp
  unfold getT
  rw [if_neg (by omega)]
  simp only [Int.toNat_natCast]
  rw [he, hb, if_neg (by omega)]
  have hn : ((p.size : Int) + (t.size : Int)).toNat = p.size + t.size := by omega
  rw [hn]
  have hx : (p ++ t ++ zb ++ q).extract p.size (p.size + t.size) = t := by
    have : p ++ t ++ zb ++ q = p ++ t ++ (zb ++ q) := by simp [ByteArray.append_assoc]
    rw [this]; exact extract_mid _ _ _
  rw [hx]
  simp

end Go.Proofs.Ytbeidnddahglbaa
