/- Contracts: norm.number, pontoonref05.points, pontoonref05.Number. -/
import Derived.Test.YtkjhfpjjcagecaaNormA
namespace Go.Proofs.Ytkjhfpjjcagecaa
set_option linter.all false
open Go Go.RowKit

theorem dots_strip : ∀ (n : Nat) (l : List UInt8), l.length = n → dots (strip0 l) = dots l
  | 0, l, h => by rw [List.length_eq_zero_iff.1 h]; rfl
  | n + 1, l, h => by
    rcases List.eq_nil_or_concat l with rfl | ⟨m, c, rfl⟩
    · rfl
    · rw [List.concat_eq_append] at h ⊢
      rw [strip0_snoc]
      by_cases hc : c.toNat = 48
      · rw [if_pos hc, dots_strip n m (by simp at h; exact h), dots_snoc, if_neg (by omega)]; rfl
      · rw [if_neg hc]
theorem lastDot_of (t : ByteArray) (h : 0 < t.size) : lastDot (bl t) = decide ((t[t.size - 1]'(by omega)).toNat = 46) := by
  unfold lastDot
  have e : (bl t).getLast? = some (t[t.size - 1]'(by omega)) := by
    conv => lhs; rw [bl_last t h]
    simp
  rw [e]
theorem init_eq (t : ByteArray) : t.extract 0 (t.size - 1) = mk (bl t).dropLast := by
  rw [← mk_bl (t.extract 0 (t.size - 1)), bl_init, List.dropLast_eq_take, bl_len]
theorem dots_pos {t : ByteArray} (h : dots (bl t) = 1) : 0 < t.size := by
  rcases Nat.lt_or_ge 0 t.size with q | q
  · exact q
  · have : bl t = [] := List.length_eq_zero_iff.1 (by rw [bl_len]; omega)
    rw [this] at h; cases h

set_option maxRecDepth 100000 in
set_option maxHeartbeats 8000000 in
theorem number_any (k : Env) (w : World) (R : Assn) (s : ByteArray) (hs : s.size ≤ 1000000) (h : Sat k w R) :
    Calls Try.prog 51 #[.string s] w fun e w' => e = .returned (.string (mk (numL (bl s)))) ∧ Sat k w' R := by
  have hmf : ∀ (fn : Fn) (first cap : Array Value) (w : World), (Instr.makeFunc fn first cap).run Try.prog w = .ok (.func fn first cap) w := fun _ _ _ _ => rfl
  have h1 : Sat k (w.alloc (.cells #[.string s] 9)) (Txt w.heap.size s * R) := h.alloc _
  obtain ⟨t, ht⟩ : ∃ t, t = mk (lead (bl s)) := ⟨_, rfl⟩
  have hts : t.size ≤ 1000000 := by
    rw [ht, mk_size]; have := lead_len (bl s); rw [bl_len] at this; omega
  obtain ⟨res, hres⟩ : ∃ res, mk (numL (bl s)) = res := ⟨_, rfl⟩
  have hnum : (dots (bl t) ≠ 1 ∧ res = t) ∨ (dots (bl t) = 1 ∧ lastDot (strip0 (bl t)) = true ∧ res = mk (strip0 (bl t)).dropLast) ∨ (dots (bl t) = 1 ∧ lastDot (strip0 (bl t)) = false ∧ res = mk (strip0 (bl t))) := by
    have hb : bl t = lead (bl s) := by rw [ht]
    rw [hb, ← hres]
    unfold numL
    by_cases h1 : dots (lead (bl s)) ≠ 1
    · left; rw [if_pos h1]; exact ⟨h1, ht.symm⟩
    · right
      rw [if_neg h1]
      have h1' : dots (lead (bl s)) = 1 := by omega
      cases h2 : lastDot (strip0 (lead (bl s))) with
      | true => left; exact ⟨h1', rfl, by rw [if_pos rfl]⟩
      | false => right; exact ⟨h1', rfl, by rw [if_neg (by decide)]⟩
  rw [hres]
  have HNUM := Lib.hid hnum
  have C1 := Lib.hid (fun w' b' h' => cut1_any k w' R b' s (by omega) h')
  rw [← ht] at C1
  clear h hnum ht hres
  go_enter Try.func51, Try.ntmps51
  go_upto_region 2 with fail
  generalize w.alloc (.cells #[.string s] 9) = w1 at *
  generalize w.heap.size = b at *
  go_upto_region 4 with (go_at_call 75; (with_reducible refine (C1.out _ _ h1).mono ?_); rintro e w2 ⟨rfl, h2⟩)
  clear h1
  have c0 := txt_cell h2
  have h3 := h2.alloc (.stringIter t 0)
  go_wp2_with fail
  generalize w2.heap.size = o at *
  go_loopw [4, 6] (fun s4 _ wr => ∃ (pos n : Nat), pos ≤ t.size ∧ s4 = .int .i64 n ∧ n ≤ pos ∧ Hid (dots (bl t) = n + dots ((bl t).drop pos)) ∧ Sat k wr (blk o (.stringIter t pos) * (Txt b t * R))) (fun _ _ wr => t.size - wr.iterPos o)
  case atStart => exact ⟨0, 0, Nat.zero_le _, rfl, Nat.le_refl _, by unfold Hid; simp, h3⟩
  case round =>
    clear h3 h2 c0
    obtain ⟨pos, n, hpos, rfl, hn, HD, hr⟩ := hrel
    by_cases hlt : pos < t.size
    · have hnx : ∀ ty, (Instr.next (.pointer (some ⟨o, 0, none⟩)) true ty).run Try.prog wr = _ := fun ty => Lib.run_next_any_at wr o t pos ty hr.get hlt
      obtain ⟨w1', w2', _⟩ := decode_in t pos hlt
      have hstep := dots_step t pos hlt
      have h2 : Sat k (wr.iterAt o t (pos + (Utf8.decode t pos).2)) (blk o (.stringIter t (pos + (Utf8.decode t pos).2)) * (Txt b t * R)) := hr.setObj
      have HP : Hid (t.size - (wr.iterAt o t (pos + (Utf8.decode t pos).2)).iterPos o < t.size - wr.iterPos o) := by
        have e1 : wr.iterPos o = pos := by unfold World.iterPos; rw [hr.get]
        have e2 : (wr.iterAt o t (pos + (Utf8.decode t pos).2)).iterPos o = pos + (Utf8.decode t pos).2 := by unfold World.iterPos; rw [h2.get]
        unfold Hid; omega
      have HS : Hid (dots (bl t) = n + (dots ((bl t).drop (pos + (Utf8.decode t pos).2)) + if (Utf8.decode t pos).1 = 46 then 1 else 0)) := by
        unfold Hid; rw [HD.out, hstep]
      generalize wr.iterAt o t (pos + (Utf8.decode t pos).2) = wn at *
      generalize hwd : (Utf8.decode t pos).2 = wd at *
      generalize (Utf8.decode t pos).1 = ru at *
      clear HD hstep hwd
      by_cases h46 : ru = 46
      · have hb : ((ru : Int) == 46) = true := by simp [h46]
        have HN : Hid (dots (bl t) = n + 1 + dots ((bl t).drop (pos + wd))) := by
          have := HS.out; rw [if_pos h46] at this; unfold Hid; omega
        clear HS h46
        go_wp2_with fail
        go_roundw
        case rel => exact ⟨pos + wd, n + 1, by omega, by go_num, by omega, HN, h2⟩
        case measure => exact HP.out
      · have hb : ((ru : Int) == 46) = false := by simp; omega
        have HN : Hid (dots (bl t) = n + dots ((bl t).drop (pos + wd))) := by
          have := HS.out; rw [if_neg h46] at this; unfold Hid; omega
        clear HS h46
        go_wp2_with fail
        go_roundw
        case rel => exact ⟨pos + wd, n, by omega, rfl, by omega, HN, h2⟩
        case measure => exact HP.out
    · have hd : dots (bl t) = n := by
        rw [HD.out, List.drop_eq_nil_of_le (by rw [bl_len]; omega)]; rfl
      have hnx : ∀ ty, (Instr.next (.pointer (some ⟨o, 0, none⟩)) true ty).run Try.prog wr = _ := fun ty => Lib.run_next_end_at wr o t pos ty hr.get hlt
      replace hr := hr.drop
      have c0 := txt_cell hr
      have hnum := HNUM.out
      rw [hd] at hnum
      clear HD
      rcases hnum with ⟨h1, rfl⟩ | ⟨rfl, h2, rfl⟩ | ⟨rfl, h2, rfl⟩
      · have hb : ((n : Int) == 1) = false := by simp; omega
        clear hd h1
        go_wp2_with fail
        go_ret
        exact ⟨rfl, hr.drop⟩
      · have C2 := Lib.hid (cut2_any k wr R b t (by omega) hd hr)
        obtain ⟨t2, ht2⟩ : ∃ t2, t2 = mk (strip0 (bl t)) := ⟨_, rfl⟩
        have hb2 : bl t2 = strip0 (bl t) := by rw [ht2]
        have hd2 : dots (bl t2) = 1 := by rw [hb2, dots_strip _ _ rfl]; exact hd
        have hp2 := dots_pos hd2
        have hs2 : t2.size ≤ 1000000 := by
          have : (strip0 (bl t)).length ≤ (bl t).length := by
            unfold strip0
            rw [List.length_reverse]
            have := (List.dropWhile_sublist (fun c : UInt8 => decide (c.toNat = 48)) (l := (bl t).reverse)).length_le
            rw [List.length_reverse] at this
            exact this
          rw [ht2, mk_size]; rw [bl_len] at this; omega
        have hld := lastDot_of t2 hp2
        rw [hb2, h2] at hld
        rw [← ht2] at C2
        obtain ⟨m, hm⟩ : ∃ m, m = t2.size - 1 := ⟨_, rfl⟩
        have hms : m < t2.size := by omega
        have hmI : (m : Int) < t2.size := by omega
        have hwm : IntKind.i64.wrap ((t2.size : Int) - 1) = m := by rw [IntWalk.i64_in _ (by omega)]; omega
        have hld2 : (t2[m].toNat = 46) = True := by
          subst hm
          exact eq_true (of_decide_eq_true hld.symm)
        have hbb : ((t2[m].toNat : Int) == 46) = true := by
          have := of_eq_true hld2; simp [this]
        have D2 := Lib.hid (fun w' R' h' => do2_any k w' R' b t2 (by omega) (by omega) h')
        have HI : Hid (t2.extract 0 (t2.size - 1) = mk (strip0 (bl t)).dropLast) := by unfold Hid; rw [init_eq, hb2]
        have HT2 := Lib.hid ht2
        clear hd hld hld2 h2 hm hb2 hd2 ht2
        go_wp2_with (first | (go_at_call 75; (with_reducible refine (C2.out).mono ?_); rintro e w5 ⟨rfl, h5⟩; have c5 := txt_cell h5) | (go_at_call 78; (with_reducible refine (D2.out _ _ h5).mono ?_); rintro e w6 ⟨rfl, h6⟩; have c6 := txt_cell h6))
        go_ret
        exact ⟨by rw [← HI.out]; rfl, h6.drop⟩
      · have C2 := Lib.hid (cut2_any k wr R b t (by omega) hd hr)
        obtain ⟨t2, ht2⟩ : ∃ t2, t2 = mk (strip0 (bl t)) := ⟨_, rfl⟩
        have hb2 : bl t2 = strip0 (bl t) := by rw [ht2]
        have hd2 : dots (bl t2) = 1 := by rw [hb2, dots_strip _ _ rfl]; exact hd
        have hp2 := dots_pos hd2
        have hs2 : t2.size ≤ 1000000 := by
          have : (strip0 (bl t)).length ≤ (bl t).length := by
            unfold strip0
            rw [List.length_reverse]
            have := (List.dropWhile_sublist (fun c : UInt8 => decide (c.toNat = 48)) (l := (bl t).reverse)).length_le
            rw [List.length_reverse] at this
            exact this
          rw [ht2, mk_size]; rw [bl_len] at this; omega
        have hld := lastDot_of t2 hp2
        rw [hb2, h2] at hld
        rw [← ht2] at C2
        obtain ⟨m, hm⟩ : ∃ m, m = t2.size - 1 := ⟨_, rfl⟩
        have hms : m < t2.size := by omega
        have hmI : (m : Int) < t2.size := by omega
        have hwm : IntKind.i64.wrap ((t2.size : Int) - 1) = m := by rw [IntWalk.i64_in _ (by omega)]; omega
        have hld2 : (t2[m].toNat = 46) = False := by
          subst hm
          exact eq_false (of_decide_eq_false hld.symm)
        have hbb : ((t2[m].toNat : Int) == 46) = false := by
          have := of_eq_false hld2; simp; omega
        have D2 := Lib.hid (fun w' R' h' => do2_any k w' R' b t2 (by omega) (by omega) h')
        have HI : Hid (t2.extract 0 (t2.size - 1) = mk (strip0 (bl t)).dropLast) := by unfold Hid; rw [init_eq, hb2]
        have HT2 := Lib.hid ht2
        clear hd hld hld2 h2 hm hb2 hd2 ht2
        go_wp2_with (first | (go_at_call 75; (with_reducible refine (C2.out).mono ?_); rintro e w5 ⟨rfl, h5⟩; have c5 := txt_cell h5) | (go_at_call 78; (with_reducible refine (D2.out _ _ h5).mono ?_); rintro e w6 ⟨rfl, h6⟩; have c6 := txt_cell h6))
        go_ret
        exact ⟨by rw [← HT2.out]; rfl, h5.drop⟩

end Go.Proofs.Ytkjhfpjjcagecaa
