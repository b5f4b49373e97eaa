/- Contracts of packages pontoonref01 and pontoonref12: a key's text. -/
import Derived.Test.YtlilogcojeoelaaKeyR
namespace Go.Proofs.Ytlilogcojeoelaa
set_option linter.all false
open Go Go.RowKit

set_option maxHeartbeats 2000000 in
theorem rputText_noZ (w : World) (s t : ByteArray) (ht : endB t = -1) (hs : s.size + t.size ≤ 1000000000) :
    Calls Try.prog 43 #[.string s, .string t] w fun e w' => e = .returned (.string (s ++ t ++ zb)) ∧ w = w' := by
  have ht0 : Hid (endL (t.data.toList.drop 0) 0 = -1) := ht
  clear ht
  go_enter Try.func43, Try.ntmps43
  go_wp2_with fail
  go_loopw [5] (fun u wr => ∃ j : Nat, j ≤ t.size ∧ u = .int .i64 j ∧ Hid (endL (t.data.toList.drop j) j = -1) ∧ w = wr) (fun u _ => t.size - (intOf u).toNat)
  case atStart => exact ⟨0, Nat.zero_le _, rfl, ht0, rfl⟩
  case round =>
    obtain ⟨j, hj, rfl, HE, rfl⟩ := hrel
    clear ht0
    by_cases hlt : j < t.size
    · have hlt' : (j : Int) < t.size := by omega
      have hd : t.data.toList.drop j = t[j] :: t.data.toList.drop (j + 1) := by
        rw [List.drop_eq_getElem_cons (by simpa using hlt)]; rfl
      have HD : Hid (endL (t[j] :: t.data.toList.drop (j + 1)) j = -1) := by
        unfold Hid; rw [← hd]; exact HE.out
      clear hd HE
      have hc : t[j] ≠ 0 := by
        intro q
        have := HD.out
        rw [endL, if_pos q] at this
        omega
      have hb : ((t[j].toNat : Int) == 0) = false := by
        have : t[j].toNat ≠ 0 := fun e => hc (UInt8.toNat_inj.1 (by simpa using e))
        simpa using this
      have HR : Hid (endL (t.data.toList.drop (j + 1)) (j + 1) = -1) := by unfold Hid; rw [← HD.out, endL, if_neg hc]
      clear HD hc
      go_wp2_with fail
      go_roundw
      case rel => exact ⟨j + 1, by omega, by go_num, HR, trivial⟩
      case measure => simp [intOf]; omega
    · have hjs : j = t.size := by omega
      subst hjs
      have hx : t.extract 0 t.size = t := by simp
      have HX : Hid (s ++ t.extract 0 t.size ++ zb = s ++ t ++ zb) := by unfold Hid; rw [hx]
      clear HE hlt hx
      go_wp2_with fail
      go_ret
      first | exact ⟨rfl, rfl⟩ | exact ⟨by simpa using HX.out, rfl⟩

set_option maxHeartbeats 1000000 in
theorem rput16 (k : Env) (w : World) (R : Assn) (s : ByteArray) (n : Int) (hn : n = 0 ∨ n = 1) (hs : s.size ≤ 1000000000) (h : Sat k w R) :
    Calls Try.prog 44 #[.string s, .int .i64 n] w fun e w' => e = .returned (.string (s ++ bin2 n)) ∧ Sat k w' R := by
  rcases hn with rfl | rfl
  · have h1 := h.alloc (.cells #[.int .u8 0, .int .u8 0] 5)
    have hcv : (convert 121 9 (.slice (some ⟨w.heap.size, 0, none⟩) 2 2)).run Try.prog (w.alloc (.cells #[.int .u8 0, .int .u8 0] 5)) = .ok (.string ⟨#[0, 0]⟩) (w.alloc (.cells #[.int .u8 0, .int .u8 0] 5)) :=
      run_convert_bytes_back _ 121 9 5 ⟨w.heap.size, 0, none⟩ 2 [0, 0] Try.underlying121 Try.underlying5 Try.underlying9 fun j hj => by
        rw [Addr.add_lit, Nat.zero_add, h1.cell]
        match j, hj with
        | 0, _ => rfl
        | 1, _ => rfl
    go_enter Try.func44, Try.ntmps44
    go_wp2_with fail
    go_ret
    exact ⟨rfl, h1.drop⟩
  · have h1 := h.alloc (.cells #[.int .u8 0, .int .u8 1] 5)
    have hcv : (convert 121 9 (.slice (some ⟨w.heap.size, 0, none⟩) 2 2)).run Try.prog (w.alloc (.cells #[.int .u8 0, .int .u8 1] 5)) = .ok (.string ⟨#[0, 1]⟩) (w.alloc (.cells #[.int .u8 0, .int .u8 1] 5)) :=
      run_convert_bytes_back _ 121 9 5 ⟨w.heap.size, 0, none⟩ 2 [0, 1] Try.underlying121 Try.underlying5 Try.underlying9 fun j hj => by
        rw [Addr.add_lit, Nat.zero_add, h1.cell]
        match j, hj with
        | 0, _ => rfl
        | 1, _ => rfl
    go_enter Try.func44, Try.ntmps44
    go_wp2_with fail
    go_ret
    exact ⟨rfl, h1.drop⟩

set_option maxHeartbeats 1000000 in
theorem rplain_any (w : World) (s : ByteArray) (hs : s.size ≤ 1000000000) :
    Calls Try.prog 71 #[.string s] w fun e w' => e = .returned (.bool (noZ s)) ∧ w = w' := by
  go_enter Try.func71, Try.ntmps71
  go_wp2_with fail
  go_loopw [3] (fun u wr => ∃ j : Nat, j ≤ s.size ∧ u = .int .i64 j ∧ Hid (endL (s.data.toList.drop j) j = endB s) ∧ w = wr) (fun u _ => s.size - (intOf u).toNat)
  case atStart => exact ⟨0, Nat.zero_le _, rfl, rfl, rfl⟩
  case round =>
    obtain ⟨j, hj, rfl, HE, rfl⟩ := hrel
    by_cases hlt : j < s.size
    · have hlt' : (j : Int) < s.size := by omega
      have hd : s.data.toList.drop j = s[j] :: s.data.toList.drop (j + 1) := by
        rw [List.drop_eq_getElem_cons (by simpa using hlt)]; rfl
      have HD : Hid (endL (s[j] :: s.data.toList.drop (j + 1)) j = endB s) := by
        unfold Hid; rw [← hd]; exact HE.out
      clear hd HE
      by_cases hc : s[j] = 0
      · have hb : ((s[j].toNat : Int) == 0) = true := by simp [hc]
        have HR : Hid (noZ s = false) := by
          unfold Hid noZ
          rw [← HD.out, endL, if_pos hc]
          exact decide_eq_false (by omega)
        clear HD hc
        go_wp2_with fail
        go_ret
        rw [HR.out]
        exact ⟨rfl, rfl⟩
      · have hb : ((s[j].toNat : Int) == 0) = false := by
          have : s[j].toNat ≠ 0 := fun e => hc (UInt8.toNat_inj.1 (by simpa using e))
          simpa using this
        have HR : Hid (endL (s.data.toList.drop (j + 1)) (j + 1) = endB s) := by unfold Hid; rw [← HD.out, endL, if_neg hc]
        clear HD hc
        go_wp2_with fail
        go_roundw
        case rel => exact ⟨j + 1, by omega, by go_num, HR, trivial⟩
        case measure => simp [intOf]; omega
    · have hjs : j = s.size := by omega
      have HR : Hid (noZ s = true) := by
        unfold Hid noZ
        rw [← HE.out, List.drop_eq_nil_of_le (by simp [hjs])]; rfl
      have hlt' : ¬ (j : Int) < s.size := by omega
      clear HE hlt
      go_wp2_with fail
      go_ret
      rw [HR.out]
      exact ⟨rfl, rfl⟩

theorem rightK_eq (db ro nm : ByteArray) (fm : Int) : rightK ⟨db, ro, fm, nm⟩ = (noZ db && noZ ro && noZ nm && decide (fm = 0 ∨ fm = 1)) := rfl

set_option maxRecDepth 100000 in
set_option maxHeartbeats 2000000 in
theorem rright_any (k : Env) (w : World) (R : Assn) (y : Ky) (ht : tiny y) (h : Sat k w R) :
    Calls Try.prog 40 #[kyV y] w fun e w' => e = .returned (.bool (rightK y)) ∧ Sat k w' R := by
  unfold tiny at ht
  have h1 := h.alloc (.cells (kyc y).toArray 28)
  obtain ⟨db, ro, fm, nm⟩ := y
  simp only [kyc, kyV] at *
  have HR := Lib.hid (rightK_eq db ro nm fm)
  have C1 := Lib.hid (fun w' => rplain_any w' db (by omega))
  have C2 := Lib.hid (fun w' => rplain_any w' ro (by omega))
  have C3 := Lib.hid (fun w' => rplain_any w' nm (by omega))
  clear h
  go_enter Try.func40, Try.ntmps40
  go_upto_region 1 with fail
  generalize w.alloc (.cells #[.string db, .string ro, .int .i64 fm, .string nm] 28) = w1 at *
  generalize w.heap.size = o at *
  have d0 : w1.cell? ⟨o, 0, none⟩ = some (.string db) := h1.cell 0
  have d1 : w1.cell? ⟨o, 1, none⟩ = some (.string ro) := h1.cell 1
  have d2 : w1.cell? ⟨o, 2, none⟩ = some (.int .i64 fm) := h1.cell 2
  have d3 : w1.cell? ⟨o, 3, none⟩ = some (.string nm) := h1.cell 3
  have f0d : decide (fm = 0 ∨ fm = 1) = (fm == 0 || fm == 1) := by simp; rfl
  rw [f0d] at HR
  clear f0d
  cases n0 : noZ db <;> cases n1 : noZ ro <;> cases n3 : noZ nm <;> cases q0 : (fm == 0)
  all_goals
    rw [n0] at C1 HR
    rw [n1] at C2 HR
    rw [n3] at C3 HR
    rw [q0] at HR
    clear n0 n1 n3
    go_wp2_with (first | (go_at_call 71; (with_reducible refine (C1.out _).mono ?_); rintro e w2 ⟨rfl, rfl⟩) | (go_at_call 71; (with_reducible refine (C2.out _).mono ?_); rintro e w2 ⟨rfl, rfl⟩) | (go_at_call 71; (with_reducible refine (C3.out _).mono ?_); rintro e w2 ⟨rfl, rfl⟩) | fail)
    go_ret
    rw [HR.out]
    exact ⟨rfl, h1.drop⟩


set_option maxRecDepth 100000 in
set_option maxHeartbeats 2000000 in
theorem rtext_any (k : Env) (w : World) (R : Assn) (y : Ky) (ht : tiny y) (h : Sat k w R) :
    Calls Try.prog 13 #[kyV y] w fun e w' => e = .returned (.string (textK y)) ∧ Sat k w' R := by
  have hr := Lib.hid (fun w' R' => rright_any k w' R' y ht)
  unfold tiny at ht
  have h1 := h.alloc (.cells (kyc y).toArray 28)
  cases hc : rightK y with
  | false =>
    have hT : textK y = ⟨#[]⟩ := by unfold textK; rw [hc]; rfl
    rw [hT]
    rw [hc] at hr
    obtain ⟨db, ro, fm, nm⟩ := y
    simp only [kyc, kyV] at *
    clear h
    go_enter Try.func13, Try.ntmps13
    go_upto_region 1 with fail
    generalize w.alloc (.cells #[.string db, .string ro, .int .i64 fm, .string nm] 28) = w1 at *
    generalize w.heap.size = o at *
    have d0 : w1.cell? ⟨o, 0, none⟩ = some (.string db) := h1.cell 0
    have d1 : w1.cell? ⟨o, 1, none⟩ = some (.string ro) := h1.cell 1
    have d2 : w1.cell? ⟨o, 2, none⟩ = some (.int .i64 fm) := h1.cell 2
    have d3 : w1.cell? ⟨o, 3, none⟩ = some (.string nm) := h1.cell 3
    go_wp2_with (go_at_call 40; refine (hr.out w1 _ h1).mono ?_; rintro e w2 ⟨rfl, h2⟩)
    go_ret
    exact ⟨rfl, h2.drop⟩
  | true =>
    rw [hc] at hr
    obtain ⟨db, ro, fm, nm⟩ := y
    have hT := Lib.hid (textK_eq hc)
    obtain ⟨e0, e1, e3, hfm⟩ := rightK_parts hc
    have E0 := Lib.hid e0
    have E1 := Lib.hid e1
    have E3 := Lib.hid e3
    have EF := Lib.hid hfm
    have hz0 : zb.size = 1 := rfl
    have hz1 : (bin2 fm).size = 2 := rfl
    have hz2 : (⟨#[]⟩ : ByteArray).size = 0 := rfl
    clear e0 e1 e3 hfm hc
    simp only [kyc, kyV] at *
    clear h
    go_enter Try.func13, Try.ntmps13
    go_upto_region 1 with fail
    generalize w.alloc (.cells #[.string db, .string ro, .int .i64 fm, .string nm] 28) = w1 at *
    generalize w.heap.size = o at *
    have d0 : w1.cell? ⟨o, 0, none⟩ = some (.string db) := h1.cell 0
    have d1 : w1.cell? ⟨o, 1, none⟩ = some (.string ro) := h1.cell 1
    have d2 : w1.cell? ⟨o, 2, none⟩ = some (.int .i64 fm) := h1.cell 2
    have d3 : w1.cell? ⟨o, 3, none⟩ = some (.string nm) := h1.cell 3
    have C1 := Lib.hid (fun w' => rputText_noZ w' ⟨#[]⟩ db E0.out (by omega))
    have C2 := Lib.hid (fun w' => rputText_noZ w' (⟨#[]⟩ ++ db ++ zb) ro E1.out (by simp only [ByteArray.size_append]; omega))
    have C3 := Lib.hid (fun w' R' => rput16 k w' R' (⟨#[]⟩ ++ db ++ zb ++ ro ++ zb) fm EF.out (by simp only [ByteArray.size_append]; omega))
    have C4 := Lib.hid (fun w' => rputText_noZ w' (⟨#[]⟩ ++ db ++ zb ++ ro ++ zb ++ bin2 fm) nm E3.out (by simp only [ByteArray.size_append]; omega))
    generalize ⟨#[]⟩ ++ db ++ zb ++ ro ++ zb ++ bin2 fm ++ nm ++ zb = t4 at *
    generalize ⟨#[]⟩ ++ db ++ zb ++ ro ++ zb ++ bin2 fm = t3 at *
    generalize ⟨#[]⟩ ++ db ++ zb ++ ro ++ zb = t2 at *
    generalize ⟨#[]⟩ ++ db ++ zb = t1 at *
    go_wp2_with (go_at_call 40; refine (hr.out w1 _ h1).mono ?_; rintro e w2 ⟨rfl, h2⟩)
    clear d0 d1 d2 d3 h1 hr
    have d0 : w2.cell? ⟨o, 0, none⟩ = some (.string db) := h2.cell 0
    have d1 : w2.cell? ⟨o, 1, none⟩ = some (.string ro) := h2.cell 1
    have d2 : w2.cell? ⟨o, 2, none⟩ = some (.int .i64 fm) := h2.cell 2
    have d3 : w2.cell? ⟨o, 3, none⟩ = some (.string nm) := h2.cell 3
    go_region_held3 (fun w' => w'.cell? ⟨o, 0, none⟩ = some (.string db) ∧ w'.cell? ⟨o, 1, none⟩ = some (.string ro) ∧ w'.cell? ⟨o, 2, none⟩ = some (.int .i64 fm) ∧ w'.cell? ⟨o, 3, none⟩ = some (.string nm)) (first | exact ⟨d0, d1, d2, d3⟩ | exact ⟨(h5.cell 0).trans rfl, (h5.cell 1).trans rfl, (h5.cell 2).trans rfl, (h5.cell 3).trans rfl⟩ | fail) (first | (go_at_call 43; (with_reducible refine (C1.out _).mono ?_); rintro e w' ⟨rfl, rfl⟩) | (go_at_call 43; (with_reducible refine (C2.out _).mono ?_); rintro e w' ⟨rfl, rfl⟩) | (go_at_call 44; (with_reducible refine (C3.out _ _ h2.drew).mono ?_); rintro e w5 ⟨rfl, h5⟩) | (go_at_call 43; (with_reducible refine (C4.out _).mono ?_); rintro e w' ⟨rfl, rfl⟩) | fail)
    go_wp2_with fail
    go_ret
    rw [hT.out]
    exact ⟨rfl, h5.drop⟩

set_option maxRecDepth 100000 in
set_option maxHeartbeats 2000000 in
theorem rsize_any (k : Env) (w : World) (R : Assn) (y : Ky) (v : ByteArray) (ht : tiny y) (hv : v.size ≤ 1000000000) (h : Sat k w R) :
    Calls Try.prog 16 #[kyV y, .string v] w fun e w' => e = .returned (.int .i64 (sizeK y v)) ∧ Sat k w' R := by
  have hr := Lib.hid (fun w' R' => rright_any k w' R' y ht)
  have htx := Lib.hid (fun w' R' => rtext_any k w' R' y ht)
  have hts := textK_size ht
  have h1 := h.alloc (.cells (kyc y).toArray 28)
  have HS : Hid (sizeK y v = if rightK y = true then 16 + ((textK y).size : Int) + (v.size : Int) else 0) := rfl
  generalize textK y = tx at *
  generalize rightK y = rr at *
  obtain ⟨db, ro, fm, nm⟩ := y
  simp only [kyc, kyV] at *
  clear h
  go_enter Try.func16, Try.ntmps16
  go_upto_region 1 with fail
  generalize w.alloc (.cells #[.string db, .string ro, .int .i64 fm, .string nm] 28) = w1 at *
  generalize w.heap.size = o at *
  have d0 : w1.cell? ⟨o, 0, none⟩ = some (.string db) := h1.cell 0
  have d1 : w1.cell? ⟨o, 1, none⟩ = some (.string ro) := h1.cell 1
  have d2 : w1.cell? ⟨o, 2, none⟩ = some (.int .i64 fm) := h1.cell 2
  have d3 : w1.cell? ⟨o, 3, none⟩ = some (.string nm) := h1.cell 3
  cases rr
  · go_wp2_with (go_at_call 40; refine (hr.out w1 _ h1).mono ?_; rintro e w2 ⟨rfl, h2⟩)
    go_ret
    rw [HS.out]
    exact ⟨rfl, h2.drop⟩
  · go_wp2_with (first | (go_at_call 40; refine (hr.out w1 _ h1).mono ?_; rintro e w2 ⟨rfl, h2⟩; have d0 : w2.cell? ⟨o, 0, none⟩ = some (.string db) := h2.cell 0; have d1 : w2.cell? ⟨o, 1, none⟩ = some (.string ro) := h2.cell 1; have d2 : w2.cell? ⟨o, 2, none⟩ = some (.int .i64 fm) := h2.cell 2; have d3 : w2.cell? ⟨o, 3, none⟩ = some (.string nm) := h2.cell 3) | (go_at_call 13; refine (htx.out w2 _ h2).mono ?_; rintro e w3 ⟨rfl, h3⟩))
    go_ret
    rw [HS.out]
    exact ⟨rfl, h3.drop⟩

end Go.Proofs.Ytlilogcojeoelaa
