/- Several texts in one: StNu, StDg. -/
import Derived.Test.YtoeepbjnbgpmpaaStTy
import Derived.Lib.OthersKept
namespace Go.Proofs.Ytoeepbjnbgpmpaa
set_option linter.all false
open Go Go.RowKit

def numV (l : List UInt8) : Nat := l.foldl (fun n c => 10 * n + (c.toNat - 48)) 0
theorem numV_snoc (l : List UInt8) (c : UInt8) : numV (l ++ [c]) = 10 * numV l + (c.toNat - 48) := by unfold numV; rw [List.foldl_append]; rfl
theorem isDig_iff (c : UInt8) : isDig c = true ↔ 48 ≤ c.toNat ∧ c.toNat ≤ 57 := by unfold isDig; simp
theorem numV_lt : ∀ (n : Nat) (l : List UInt8), l.length = n → (∀ c ∈ l, isDig c = true) → numV l < 10 ^ n
  | 0, l, h, _ => by
    have : l = [] := List.length_eq_zero_iff.1 h
    subst this; decide
  | n + 1, l, h, hd => by
    have hne : l ≠ [] := by rintro rfl; simp at h
    have hs := List.dropLast_concat_getLast hne
    rw [← hs, numV_snoc]
    have h1 := numV_lt n l.dropLast (by rw [List.length_dropLast]; omega) (fun c hc => hd c (List.dropLast_subset _ hc))
    have h2 := (isDig_iff _).1 (hd _ (List.getLast_mem hne))
    rw [Nat.pow_succ]
    omega
def numB (x : Tok) : Bool := decide (x.k = 4) && (decide (0 < x.t.size) && (decide (x.t.size ≤ 6) && (bl x.t).all isDig))
theorem numB_all {x : Tok} (h : numB x = true) : x.k = 4 ∧ 0 < x.t.size ∧ x.t.size ≤ 6 ∧ ∀ c ∈ bl x.t, isDig c = true := by
  unfold numB at h
  simpa only [Bool.and_eq_true, decide_eq_true_eq, List.all_eq_true] using h
theorem numB_lt {x : Tok} (h : numB x = true) : numV (bl x.t) ≤ 999999 := by
  obtain ⟨_, _, h3, h4⟩ := numB_all h
  have h5 := numV_lt _ (bl x.t) rfl h4
  rw [bl_len] at h5
  have h6 : 10 ^ x.t.size ≤ 10 ^ 6 := Nat.pow_le_pow_right (by decide) h3
  omega
theorem decode_high (s : ByteArray) (pos : Nat) (h : pos < s.size) (hb : 128 ≤ (s[pos]'h).toNat) : 128 ≤ (Utf8.decode s pos).1 ∧ (Utf8.decode s pos).1 ≤ 1114111 := by
  have hg : s.get! (pos + 0) = s[pos] := by
    have : s.get! pos = s[pos] := getElem!_pos s.data pos h
    exact this
  unfold Utf8.decode
  simp only [hg]
  unfold Utf8.runeError
  have hv : ∀ c, Utf8.valid c = true → c ≤ 1114111 := by intro c hc; unfold Utf8.valid at hc; simp at hc; omega
  have hlt := (s[pos]'h).toNat_lt
  repeat' split
  all_goals (try simp only)
  all_goals first | omega | (rename_i q; simp only [Bool.and_eq_true, decide_eq_true_eq] at q; have := hv _ q.2; omega) | skip
  all_goals simp_all
  all_goals omega

/-- What of a number is told: whether there is one, and if so which. -/
def NuP (x : Tok) (n : Int) : Prop := numB x = true → n = (numV (bl x.t) : Int)


set_option maxRecDepth 100000 in
set_option maxHeartbeats 8000000 in
theorem number_any (k : Env) (w : World) (R : Assn) (x : Tok) (hs : x.t.size ≤ 1000000) (h : Sat k w R) :
    Calls Try.prog 49 #[.agg #[.int .i64 x.k, .string x.t, .int .i64 x.at']] w fun e w' => ∃ n, e = .returned (.tuple #[.int .i64 n, .bool (numB x)]) ∧ NuP x n ∧ Sat k w' R := by
  obtain ⟨res, hres⟩ : ∃ res, numB x = res := ⟨_, rfl⟩
  have HRES := Lib.hid hres
  rw [hres]
  have h0 := h.alloc (.cells #[.int .i64 x.k, .string x.t, .int .i64 x.at'] 27)
  have hgs : (res = true → numB x = true) := fun q => by rw [hres]; exact q
  have HNB : Hid (∀ (p : x.k = 4 ∧ 0 < x.t.size ∧ x.t.size ≤ 6 ∧ ∀ c ∈ bl x.t, isDig c = true), res = true) := by
    intro p
    rw [← hres]
    unfold numB
    simp only [Bool.and_eq_true, decide_eq_true_eq, List.all_eq_true]
    exact p
  have HNA : Hid (res = true → x.k = 4 ∧ 0 < x.t.size ∧ x.t.size ≤ 6 ∧ ∀ c ∈ bl x.t, isDig c = true) := fun q => numB_all (hgs q)
  have hres2 : res = true ∨ res = false := by cases res <;> simp
  have HNU : Hid (∀ n : Int, (res = true → n = (numV (bl x.t) : Int)) → NuP x n) := fun n q z => q (by rw [← hres]; exact z)
  obtain ⟨tk, tt, ta⟩ := x
  simp only at h0 hs HNB HNA HNU ⊢
  clear h hres hgs
  have h1 := h0.alloc (.stringIter tt 0)
  go_enter Try.func49, Try.ntmps49
  go_upto_region 2 with fail
  have b1 : (w.alloc (.cells #[.int .i64 tk, .string tt, .int .i64 ta] 27)).cell? ⟨w.heap.size, 1, none⟩ = some (.string tt) := h0.cell 1
  generalize w.alloc (.cells #[.int .i64 tk, .string tt, .int .i64 ta] 27) = w0 at *
  generalize w.heap.size = o at *
  go_wp2_with fail
  generalize w0.heap.size = o2 at *
  have h1b : Sat k (w0.iter tt 0) (blk o2 (.stringIter tt 0) * (blk o (.cells #[.int .i64 tk, .string tt, .int .i64 ta] 27 (0, 0)) * R)) := h1
  clear b1 h0 h1
  generalize w0.iter tt 0 = w1 at *
  have h1 := h1b
  clear h1b
  go_loopw [4] (fun s4 wr => ∃ (j n : Nat), j ≤ tt.size ∧ s4 = .int .i64 n ∧ n ≤ 999999 ∧ Hid (n = numV ((bl tt).take j)) ∧ Hid (∀ c ∈ (bl tt).take j, isDig c = true) ∧ Sat k wr (blk o2 (.stringIter tt j) * (blk o (.cells #[.int .i64 tk, .string tt, .int .i64 ta] 27 (0, 0)) * R))) (fun _ wr => tt.size - wr.iterPos o2)
  case atStart => exact ⟨0, 0, Nat.zero_le _, rfl, by omega, rfl, by intro c hc; simp at hc, h1⟩
  case round =>
    clear h1
    obtain ⟨j, n, hj, rfl, hn, HN, HD, hr⟩ := hrel
    by_cases hlt : j < tt.size
    · have hbl : (bl tt)[j]'(by rw [bl_len]; exact hlt) = tt[j] := rfl
      have HTK : Hid ((bl tt).take (j + 1) = (bl tt).take j ++ [tt[j]]) := by unfold Hid; rw [List.take_succ_eq_append_getElem (by rw [bl_len]; exact hlt), hbl]
      have HMEM : Hid (tt[j] ∈ bl tt) := by unfold Hid; rw [← hbl]; exact List.getElem_mem _
      by_cases hc : (tt[j]).toNat < 128
      · have hnx : ∀ ty, (Instr.next (.pointer (some ⟨o2, 0, none⟩)) true ty).run Try.prog wr = _ := fun ty => Lib.run_next_ascii_at wr o2 tt j ty hr.get hlt hc
        have h2 : Sat k (wr.iterAt o2 tt (j + 1)) (blk o2 (.stringIter tt (j + 1)) * (blk o (.cells #[.int .i64 tk, .string tt, .int .i64 ta] 27 (0, 0)) * R)) := hr.setObj
        have HP : Hid (tt.size - (wr.iterAt o2 tt (j + 1)).iterPos o2 < tt.size - wr.iterPos o2) := by
          have e1 : wr.iterPos o2 = j := by unfold World.iterPos; rw [hr.get]
          have e2 : (wr.iterAt o2 tt (j + 1)).iterPos o2 = j + 1 := by unfold World.iterPos; rw [h2.get]
          unfold Hid; omega
        generalize wr.iterAt o2 tt (j + 1) = w2 at *
        generalize tt[j] = d at *
        by_cases hd : isDig d = true
        · obtain ⟨d1, d2⟩ := (isDig_iff d).1 hd
          have e1 : ¬ (d.toNat : Int) < 48 := by omega
          have e2 : ¬ (57 : Int) < (d.toNat : Int) := by omega
          obtain ⟨m, hm⟩ : ∃ m, m = 10 * n + (d.toNat - 48) := ⟨_, rfl⟩
          have w1' : IntKind.i64.wrap (10 * (n : Int)) = 10 * (n : Int) := IntWalk.i64_in _ (by omega)
          obtain ⟨dd, hdd⟩ : ∃ dd, dd = d.toNat - 48 := ⟨_, rfl⟩
          have w2' : IntKind.i32.wrap ((d.toNat : Int) - 48) = (dd : Int) := by rw [IntKind.wrap_i32]; omega
          have w2'' : wrap32 ((d.toNat : Int) - 48) = (dd : Int) := by unfold wrap32; omega
          have w3' : IntKind.i64.wrap (dd : Int) = (dd : Int) := IntWalk.i64_in _ (by omega)
          have w4' : IntKind.i64.wrap (10 * (n : Int) + (dd : Int)) = (m : Int) := by rw [IntWalk.i64_in _ (by omega)]; omega
          have HM : Hid (m = numV ((bl tt).take (j + 1))) := by unfold Hid; rw [HTK.out, numV_snoc, ← HN.out]; exact hm
          have HD2 : Hid (∀ c ∈ (bl tt).take (j + 1), isDig c = true) := by
            unfold Hid
            rw [HTK.out]
            intro c hc'
            rw [List.mem_append, List.mem_singleton] at hc'
            rcases hc' with hc' | rfl
            · exact HD.out c hc'
            · exact hd
          by_cases hbig : 999999 < m
          · have hb' : (999999 : Int) < (m : Int) := by omega
            have HNO : Hid (res = false) := by
              rcases hres2 with q | q
              · exfalso
                obtain ⟨_, _, q6, _⟩ := HNA.out q
                have := numV_lt (j + 1) ((bl tt).take (j + 1)) (by rw [List.length_take, bl_len]; omega) HD2.out
                rw [← HM.out] at this
                have h6 : 10 ^ (j + 1) ≤ 10 ^ 6 := Nat.pow_le_pow_right (by decide) (by omega)
                omega
              · exact q
            clear HN HD HM HD2 hm hdd hres2
            (
              obtain rfl : res = false := HNO.out
              clear HNO
              go_wp2_with fail
              go_ret2
              exact ⟨0, rfl, HNU.out 0 (fun q => by cases q), h2.drop.drop⟩)
          · have hb' : ¬ (999999 : Int) < (m : Int) := by omega
            clear HN HD hm hdd
            go_wp2_with fail
            go_roundw
            case rel => exact ⟨j + 1, m, by omega, rfl, by omega, HM, HD2, h2⟩
            case measure => exact HP.out
        · have HNO : Hid (res = false) := by
            rcases hres2 with q | q
            · exact absurd ((HNA.out q).2.2.2 d HMEM.out) hd
            · exact q
          have hd2 : d.toNat < 48 ∨ 57 < d.toNat := by
            rcases Nat.lt_or_ge d.toNat 48 with q | q
            · exact .inl q
            · right
              rcases Nat.lt_or_ge 57 d.toNat with r | r
              · exact r
              · exact absurd ((isDig_iff d).2 ⟨q, r⟩) hd
          clear HN HD hd hres2
          by_cases d48 : d.toNat < 48
          · have e1 : (d.toNat : Int) < 48 := by omega
            (
              obtain rfl : res = false := HNO.out
              clear HNO
              go_wp2_with fail
              go_ret2
              exact ⟨0, rfl, HNU.out 0 (fun q => by cases q), h2.drop.drop⟩)
          · have e1 : ¬ (d.toNat : Int) < 48 := by omega
            have e2 : (57 : Int) < (d.toNat : Int) := by omega
            (
              obtain rfl : res = false := HNO.out
              clear HNO
              go_wp2_with fail
              go_ret2
              exact ⟨0, rfl, HNU.out 0 (fun q => by cases q), h2.drop.drop⟩)
      · have hnx : ∀ ty, (Instr.next (.pointer (some ⟨o2, 0, none⟩)) true ty).run Try.prog wr = _ := fun ty => Lib.run_next_any_at wr o2 tt j ty hr.get hlt
        have h2 : Sat k (wr.iterAt o2 tt (j + (Utf8.decode tt j).2)) (blk o2 (.stringIter tt (j + (Utf8.decode tt j).2)) * (blk o (.cells #[.int .i64 tk, .string tt, .int .i64 ta] 27 (0, 0)) * R)) := hr.setObj
        obtain ⟨u1, u2⟩ := decode_high tt j hlt (by omega)
        have HNO : Hid (res = false) := by
          rcases hres2 with q | q
          · have := (isDig_iff _).1 ((HNA.out q).2.2.2 tt[j] HMEM.out)
            omega
          · exact q
        generalize wr.iterAt o2 tt (j + (Utf8.decode tt j).2) = w2 at *
        generalize (Utf8.decode tt j).1 = ru at *
        have e1 : ¬ (ru : Int) < 48 := by omega
        have e2 : (57 : Int) < (ru : Int) := by omega
        clear HN HD hc hres2
        (
          obtain rfl : res = false := HNO.out
          clear HNO
          go_wp2_with fail
          go_ret2
          exact ⟨0, rfl, HNU.out 0 (fun q => by cases q), h2.drop.drop⟩)
    · obtain rfl : j = tt.size := by omega
      have hnx : ∀ ty, (Instr.next (.pointer (some ⟨o2, 0, none⟩)) true ty).run Try.prog wr = _ := fun ty => Lib.run_next_end_at wr o2 tt tt.size ty hr.get (by omega)
      have hall := HD.out
      rw [List.take_of_length_le (by rw [bl_len]; exact Nat.le_refl _)] at hall
      have hnv := HN.out
      rw [List.take_of_length_le (by rw [bl_len]; exact Nat.le_refl _)] at hnv
      have HA := Lib.hid hall
      have HV := Lib.hid hnv
      clear HN HD hall hnv
      have c0 : wr.cell? ⟨o, 0, none⟩ = some (.int .i64 tk) := hr.swap.cell 0
      have c1 : wr.cell? ⟨o, 1, none⟩ = some (.string tt) := hr.swap.cell 1
      go_upto_region 10 with fail
      by_cases hk : tk = 4
      · have k1 : ((tk : Int) == 4) = true := by simp [hk]
        by_cases hz : tt.size = 0
        · have hl : tt.toList = [] := by rw [← List.length_eq_zero_iff, ByteArray.toList_eq, Array.length_toList]; exact hz
          have HNO : Hid (res = false) := by
            rcases hres2 with q | q
            · have := (HNA.out q).2.1; omega
            · exact q
          clear hz hk hres2
          (
            obtain rfl : res = false := HNO.out
            clear HNO
            go_quiet (fail)
            replace hr := hr.drewN nq
            generalize wr.drewN nq = w3 at *
            go_wp2_with fail
            go_ret2
            exact ⟨n, rfl, HNU.out n (fun q => by cases q), hr.drop.drop⟩)
        · have hl : ¬ tt.toList = [] := by rw [← List.length_eq_zero_iff, ByteArray.toList_eq, Array.length_toList]; exact hz
          have hl2 : (tt.toList == ([] : List UInt8)) = false := by rw [Bool.eq_false_iff]; intro q; exact hl (by simpa using q)
          have hl3 : (tt.toList != ([] : List UInt8)) = true := by rw [bne, hl2]; rfl
          have hl4 : tt.toList.isEmpty = false := by rw [Bool.eq_false_iff]; intro q; exact hl (by simpa using q)
          by_cases h6 : tt.size ≤ 6
          · have h6' : (tt.size : Int) ≤ 6 := by omega
            obtain rfl : res = true := HNB.out ⟨hk, by omega, h6, HA.out⟩
            clear hz hk hres2
            go_quiet (fail)
            replace hr := hr.drewN nq
            generalize wr.drewN nq = w3 at *
            go_wp2_with fail
            go_ret2
            exact ⟨n, rfl, HNU.out n (fun _ => by rw [HV.out]), hr.drop.drop⟩
          · have h6' : ¬ (tt.size : Int) ≤ 6 := by omega
            have HNO : Hid (res = false) := by
              rcases hres2 with q | q
              · have := (HNA.out q).2.2.1; omega
              · exact q
            clear hz hk hres2
            (
              obtain rfl : res = false := HNO.out
              clear HNO
              go_quiet (fail)
              replace hr := hr.drewN nq
              generalize wr.drewN nq = w3 at *
              go_wp2_with fail
              go_ret2
              exact ⟨n, rfl, HNU.out n (fun q => by cases q), hr.drop.drop⟩)
      · have k1 : ((tk : Int) == 4) = false := by simp [hk]
        have HNO : Hid (res = false) := by
          rcases hres2 with q | q
          · exact absurd (HNA.out q).1 hk
          · exact q
        clear hk hres2
        (
          obtain rfl : res = false := HNO.out
          clear HNO
          go_quiet (fail)
          replace hr := hr.drewN nq
          generalize wr.drewN nq = w3 at *
          go_wp2_with fail
          go_ret2
          exact ⟨n, rfl, HNU.out n (fun q => by cases q), hr.drop.drop⟩)
end Go.Proofs.Ytoeepbjnbgpmpaa

namespace Go.Proofs.Ytoeepbjnbgpmpaa
set_option linter.all false
open Go Go.RowKit

def digV (x : Tok) : Int := if numB x = true then (numV (bl x.t) : Int) else -1

set_option maxRecDepth 100000 in
set_option maxHeartbeats 8000000 in
theorem digits_any (k : Env) (w : World) (R : Assn) (x : Tok) (hs : x.t.size ≤ 1000000) (h : Sat k w R) :
    Calls Try.prog 51 #[.agg #[.int .i64 x.k, .string x.t, .int .i64 x.at']] w fun e w' => e = .returned (.int .i64 (digV x)) ∧ Sat k w' R := by
  obtain ⟨res, hres⟩ : ∃ res, digV x = res := ⟨_, rfl⟩
  rw [hres]
  have h1 := h.alloc (.cells #[.int .i64 x.k, .string x.t, .int .i64 x.at'] 27)
  have HNB : Hid ((x.k = 4 ∧ 0 < x.t.size ∧ x.t.size ≤ 6 ∧ ∀ c ∈ bl x.t, isDig c = true) → res = (numV (bl x.t) : Int)) := by
    intro p
    rw [← hres]
    unfold digV
    rw [if_pos]
    unfold numB
    simp only [Bool.and_eq_true, decide_eq_true_eq, List.all_eq_true]
    exact p
  have HNA : Hid (¬ (x.k = 4 ∧ 0 < x.t.size ∧ x.t.size ≤ 6 ∧ ∀ c ∈ bl x.t, isDig c = true) → res = -1) := by
    intro p
    rw [← hres]
    unfold digV
    rw [if_neg (fun q => p (numB_all q))]
  obtain ⟨tk, tt, ta⟩ := x
  simp only at h1 hs HNB HNA ⊢
  clear h hres
  go_enter Try.func51, Try.ntmps51
  go_upto_region 1 with fail
  generalize w.alloc (.cells #[.int .i64 tk, .string tt, .int .i64 ta] 27) = w1 at *
  generalize w.heap.size = o at *
  have c0 : w1.cell? ⟨o, 0, none⟩ = some (.int .i64 tk) := h1.cell 0
  have c1 : w1.cell? ⟨o, 1, none⟩ = some (.string tt) := h1.cell 1
  by_cases hk : tk = 4
  · have k1 : ((tk : Int) == 4) = true := by simp [hk]
    have k2 : ((tk : Int) != 4) = false := by simp [hk]
    by_cases h6 : 6 < tt.size
    · have h6' : (6 : Int) < tt.size := by omega
      have HNO : Hid (res = -1) := HNA.out (fun q => by have := q.2.2.1; omega)
      clear hk h6
      (
        obtain rfl : res = -1 := HNO.out
        clear HNO
        go_wp2_with fail
        go_ret
        exact ⟨rfl, h1.drop⟩)
    · have h6' : ¬ (6 : Int) < tt.size := by omega
      by_cases hz : tt.size = 0
      · have hz1 : ((tt.size : Int) == 0) = true := by simp [hz]
        have HNO : Hid (res = -1) := HNA.out (fun q => by have := q.2.1; omega)
        have hz2 : (tt.size == 0) = true := by simp [hz]
        clear hk h6
        (
          obtain rfl : res = -1 := HNO.out
          clear HNO
          go_wp2_with fail
          go_ret
          exact ⟨rfl, h1.drop⟩)
      · have hz1 : ((tt.size : Int) == 0) = false := by simp [hz]
        have hz2 : (tt.size == 0) = false := by simp [hz]
        have HK := Lib.hid hk
        clear hk
        go_wp2_with fail
        go_loopw [4, 3] (fun s4 s3 wr => ∃ (j n : Nat), j ≤ tt.size ∧ s4 = .int .i64 j ∧ s3 = .int .i64 n ∧ n < 10 ^ j ∧ Hid (n = numV ((bl tt).take j)) ∧ Hid (∀ c ∈ (bl tt).take j, isDig c = true) ∧ w1 = wr) (fun s4 _ _ => tt.size - (intOf s4).toNat)
        case atStart => exact ⟨0, 0, Nat.zero_le _, rfl, rfl, by decide, rfl, by intro c hc; simp at hc, rfl⟩
        case round =>
          obtain ⟨j, n, hj, rfl, rfl, hn, HN, HD, rfl⟩ := hrel
          by_cases hlt : j < tt.size
          · have hlt' : (j : Int) < tt.size := by omega
            have hbl : (bl tt)[j]'(by rw [bl_len]; exact hlt) = tt[j] := rfl
            have HTK : Hid ((bl tt).take (j + 1) = (bl tt).take j ++ [tt[j]]) := by unfold Hid; rw [List.take_succ_eq_append_getElem (by rw [bl_len]; exact hlt), hbl]
            have HMEM : Hid (tt[j] ∈ bl tt) := by unfold Hid; rw [← hbl]; exact List.getElem_mem _
            have hpw : 10 ^ j ≤ 10 ^ 5 := Nat.pow_le_pow_right (by decide) (by omega)
            generalize hdd0 : tt[j] = d at *
            by_cases hd : isDig d = true
            · obtain ⟨d1, d2⟩ := (isDig_iff d).1 hd
              have e1 : ¬ (d.toNat : Int) < 48 := by omega
              have e2 : ¬ (57 : Int) < (d.toNat : Int) := by omega
              obtain ⟨m, hm⟩ : ∃ m, m = 10 * n + (d.toNat - 48) := ⟨_, rfl⟩
              have w1' : IntKind.i64.wrap (10 * (n : Int)) = 10 * (n : Int) := IntWalk.i64_in _ (by omega)
              obtain ⟨dd, hdd⟩ : ∃ dd, dd = d.toNat - 48 := ⟨_, rfl⟩
              have w2' : IntKind.u8.wrap ((d.toNat : Int) - 48) = (dd : Int) := by simp [IntKind.wrap, IntKind.bits, IntKind.signed]; omega
              have w3' : IntKind.i64.wrap (dd : Int) = (dd : Int) := IntWalk.i64_in _ (by omega)
              have w4' : IntKind.i64.wrap (10 * (n : Int) + (dd : Int)) = (m : Int) := by rw [IntWalk.i64_in _ (by omega)]; omega
              have HM : Hid (m = numV ((bl tt).take (j + 1))) := by unfold Hid; rw [HTK.out, numV_snoc, ← HN.out]; exact hm
              have HD2 : Hid (∀ c ∈ (bl tt).take (j + 1), isDig c = true) := by
                unfold Hid
                rw [HTK.out]
                intro c hc'
                rw [List.mem_append, List.mem_singleton] at hc'
                rcases hc' with hc' | rfl
                · exact HD.out c hc'
                · exact hd
              have HLT : Hid (m < 10 ^ (j + 1)) := by unfold Hid; rw [Nat.pow_succ]; omega
              clear HN HD hm hdd hn hpw
              go_wp2_with fail
              go_roundw
              case rel => exact ⟨j + 1, m, by omega, by go_num, rfl, HLT.out, HM, HD2, by first | rfl | trivial⟩
              case measure => simp [intOf]; omega
            · have HNO : Hid (res = -1) := HNA.out (fun q => hd (q.2.2.2 d HMEM.out))
              have hd2 : d.toNat < 48 ∨ 57 < d.toNat := by
                rcases Nat.lt_or_ge d.toNat 48 with q | q
                · exact .inl q
                · right
                  rcases Nat.lt_or_ge 57 d.toNat with r | r
                  · exact r
                  · exact absurd ((isDig_iff d).2 ⟨q, r⟩) hd
              clear HN HD hd hn hpw
              by_cases d48 : d.toNat < 48
              · have e1 : (d.toNat : Int) < 48 := by omega
                (
                  obtain rfl : res = -1 := HNO.out
                  clear HNO
                  go_wp2_with fail
                  go_ret
                  exact ⟨rfl, h1.drop⟩)
              · have e1 : ¬ (d.toNat : Int) < 48 := by omega
                have e2 : (57 : Int) < (d.toNat : Int) := by omega
                (
                  obtain rfl : res = -1 := HNO.out
                  clear HNO
                  go_wp2_with fail
                  go_ret
                  exact ⟨rfl, h1.drop⟩)
          · obtain rfl : j = tt.size := by omega
            have hall := HD.out
            rw [List.take_of_length_le (by rw [bl_len]; exact Nat.le_refl _)] at hall
            have hnv := HN.out
            rw [List.take_of_length_le (by rw [bl_len]; exact Nat.le_refl _)] at hnv
            obtain rfl : res = (n : Int) := by rw [hnv]; exact HNB.out ⟨HK.out, by omega, by omega, hall⟩
            clear HN HD hall hnv hn
            go_wp2_with fail
            go_ret
            exact ⟨rfl, h1.drop⟩
  · have k1 : ((tk : Int) == 4) = false := by simp [hk]
    have k2 : ((tk : Int) != 4) = true := by simp [hk]
    have HNO : Hid (res = -1) := HNA.out (fun q => hk q.1)
    clear hk
    (
      obtain rfl : res = -1 := HNO.out
      clear HNO
      go_wp2_with fail
      go_ret
      exact ⟨rfl, h1.drop⟩)

abbrev c1W : ByteArray := ⟨#[49]⟩
/-- The kind of token that a form's word is. -/
def kindW (s : ByteArray) : Int := if s = c1W then 4 else match bl s with
  | [] => 5
  | c :: _ => if 97 ≤ c.toNat ∧ c.toNat ≤ 122 then 1 else 5
theorem tl_1 (s : ByteArray) : (s.toList == [49]) = decide (s = c1W) := tl_const s c1W _ (by decide +kernel)
theorem kind_any (w : World) (s : ByteArray) (hs : 0 < s.size) :
    Calls Try.prog 50 #[.string s] w fun e w' => e = .returned (.int .i64 (kindW s)) ∧ w = w' := by
  obtain ⟨res, hres⟩ : ∃ res, kindW s = res := ⟨_, rfl⟩
  rw [hres]
  have q1 := tl_1 s
  have hbl : bl s = s[0] :: (bl s).drop 1 := by have := bl_drop s 0 hs; rwa [List.drop_zero] at this
  unfold kindW at hres
  have hs0 : (0 : Int) < s.size := by omega
  by_cases h1 : s = c1W
  · rw [if_pos h1] at hres
    rw [decide_eq_true h1] at q1
    subst hres
    clear h1 hbl
    go_enter Try.func50, Try.ntmps50
    go_wp2_with fail
    go_ret
    exact ⟨rfl, rfl⟩
  · rw [if_neg h1, hbl] at hres
    rw [decide_eq_false h1] at q1
    simp only at hres
    clear hbl h1
    generalize hc0 : s[0] = c at *
    by_cases ha : 97 ≤ c.toNat
    · have ha' : (97 : Int) ≤ c.toNat := by omega
      by_cases hb : c.toNat ≤ 122
      · have hb' : (c.toNat : Int) ≤ 122 := by omega
        rw [if_pos ⟨ha, hb⟩] at hres
        subst hres
        go_enter Try.func50, Try.ntmps50
        go_wp2_with fail
        go_ret
        exact ⟨rfl, rfl⟩
      · have hb' : ¬ (c.toNat : Int) ≤ 122 := by omega
        rw [if_neg (fun q => hb q.2)] at hres
        subst hres
        go_enter Try.func50, Try.ntmps50
        go_wp2_with fail
        go_ret
        exact ⟨rfl, rfl⟩
    · have ha' : ¬ (97 : Int) ≤ c.toNat := by omega
      rw [if_neg (fun q => ha q.1)] at hres
      subst hres
      go_enter Try.func50, Try.ntmps50
      go_wp2_with fail
      go_ret
      exact ⟨rfl, rfl⟩
end Go.Proofs.Ytoeepbjnbgpmpaa
