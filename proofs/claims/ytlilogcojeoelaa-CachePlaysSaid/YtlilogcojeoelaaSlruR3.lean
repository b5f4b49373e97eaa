/- Contracts of the document's store of two segments: Put. -/
import Derived.Test.YtlilogcojeoelaaMG
import Derived.Deep.QuietTactic
namespace Go.Proofs.Ytlilogcojeoelaa
set_option linter.all false
open Go Go.RowKit

theorem dropV_same {a : ByteArray} {l : List KV} (h : ∀ x ∈ l, x.1 ≠ a) : dropV a l = l := by
  unfold dropV
  rw [List.filter_eq_self]
  intro x hx
  simpa using h x hx
def NdV (t k : List KV) : Prop := ((t ++ k).map (·.1)).Nodup
theorem NdV.cons {t k : List KV} {x : KV} (h : NdV (t ++ [x]) k) : dropV x.1 (t ++ [x]) = t ∧ dropV x.1 k = k ∧ NdV t k := by
  unfold NdV at h
  rw [List.map_append, List.nodup_append, List.map_append, List.nodup_append] at h
  obtain ⟨⟨h1, _, h2⟩, h3, h4⟩ := h
  refine ⟨?_, dropV_same fun y hy e => h4 x.1 (by simp) y.1 (List.mem_map_of_mem hy) e.symm, ?_⟩
  · rw [dropV_snoc, if_pos rfl]
    exact dropV_same fun y hy e => h2 y.1 (List.mem_map_of_mem hy) x.1 (by simp) e
  · unfold NdV
    rw [List.map_append, List.nodup_append]
    exact ⟨h1, h3, fun a ha b hb => h4 a (by rw [List.mem_append]; exact .inl ha) b hb⟩
theorem NdV.snoc {t k : List KV} {x : KV} (h : NdV t (k ++ [x])) : dropV x.1 (k ++ [x]) = k ∧ dropV x.1 t = t ∧ NdV t k := by
  unfold NdV at h
  rw [List.map_append, List.nodup_append, List.map_append, List.nodup_append] at h
  obtain ⟨h3, ⟨h1, _, h2⟩, h4⟩ := h
  refine ⟨?_, dropV_same fun y hy e => h4 y.1 (List.mem_map_of_mem hy) x.1 (by simp) e, ?_⟩
  · rw [dropV_snoc, if_pos rfl]
    exact dropV_same fun y hy e => h2 y.1 (List.mem_map_of_mem hy) x.1 (by simp) e
  · unfold NdV
    rw [List.map_append, List.nodup_append]
    exact ⟨h3, h1, fun a ha b hb => h4 a ha b (by rw [List.mem_append]; exact .inl hb)⟩
theorem NdV.drop {t k : List KV} (a : ByteArray) (h : NdV t k) : NdV (dropV a t) (dropV a k) := by
  unfold NdV at *
  refine h.sublist ?_
  rw [List.map_append, List.map_append]
  exact List.Sublist.append ((List.filter_sublist).map _) ((List.filter_sublist).map _)
theorem posV_drop {l : List KV} (a : ByteArray) (h : posV l) : posV (dropV a l) := fun x hx => h x (List.mem_filter.1 hx).1
theorem posV_init {l : List KV} {x : KV} (h : posV (l ++ [x])) : posV l ∧ 1 ≤ x.2 := ⟨fun y hy => h y (by simp [hy]), h x (by simp)⟩
theorem posV_len {l : List KV} (h : posV l) : (l.length : Int) ≤ sumV l := by
  induction l with
  | nil => simp [sumV]
  | cons x r ih =>
    have := h x (by simp)
    have := ih fun y hy => h y (by simp [hy])
    simp only [List.length_cons, sumV]; omega
theorem sumV_snoc' (l : List KV) (x : KV) : sumV (l ++ [x]) = sumV l + x.2 := by rw [sumV_app]; simp [sumV]

set_option maxHeartbeats 1000000 in
theorem rput_bad (k : Env) (w : World) (R : Assn) (b : Nat) (al kp mo : Int) (t kk : List KV) (s : ByteArray) (size : Int) (hz : size < 1 ∨ mo < size) (h : Sat k w (RefV b al kp mo t kk * R)) :
    Calls Try.prog 55 #[.pointer (some ⟨b, 0, none⟩), .string s, .int .i64 size] w fun e w' => e = .returned (.tuple #[.slice none 0 0, .int .i64 (putE mo size)]) ∧ w = w' := by
  obtain ⟨a1, c1, a2, c2, hs⟩ := rv_open h
  have d4 : w.cell? ⟨b, 4, none⟩ = some (.int .i64 mo) := hs.cell 4
  by_cases h1 : size < 1
  · have e : putE mo size = 1 := by rw [putE, if_pos h1]
    rw [e]
    clear hz e
    go_enter Try.func55, Try.ntmps55
    go_wp2
    go_ret2
    exact ⟨rfl, rfl⟩
  · have h2 : mo < size := by omega
    have e : putE mo size = 2 := by rw [putE, if_neg h1, if_pos h2]
    rw [e]
    clear hz e
    go_enter Try.func55, Try.ntmps55
    go_wp2
    go_ret2
    exact ⟨rfl, rfl⟩

set_option maxRecDepth 100000 in
set_option maxHeartbeats 4000000 in
theorem rput_ok (k : Env) (w : World) (R : Assn) (b : Nat) (al kp mo : Int) (t kk : List KV) (s : ByteArray) (size : Int) (h1 : 1 ≤ size) (h2 : size ≤ mo) (h3 : mo ≤ al) (hal : al ≤ 1073741824)
    (hn : NdV t kk) (hpt : posV t) (hpk : posV kk) (hsum : sumV t + sumV kk ≤ al) (h : Sat k w (RefV b al kp mo t kk * R)) :
    Calls Try.prog 55 #[.pointer (some ⟨b, 0, none⟩), .string s, .int .i64 size] w fun e w' => ∃ v, e = .returned (.tuple #[v, .int .i64 0]) ∧ Sat k w' (Strs v (roomR al s size t kk).2.2 * (RefV b al kp mo ((s, size) :: (roomR al s size t kk).1) (roomR al s size t kk).2.1 * R)) := by
  have hlen : (t.length : Int) + kk.length ≤ 1073741824 := by have := posV_len hpt; have := posV_len hpk; omega
  have hs1 : sumV (dropV s t) + sumV (dropV s kk) ≤ al := by
    have := sumV_dropV s t fun x hx => by have := hpt x hx; omega
    have := sumV_dropV s kk fun x hx => by have := hpk x hx; omega
    omega
  have hl1 := dropV_len s t
  have hl2 := dropV_len s kk
  have hn1 := hn.drop s
  have hp1 := posV_drop s hpt
  have hp2 := posV_drop s hpk
  have q1 : ¬ size < 1 := by omega
  have q2 : ¬ mo < size := by omega
  have d4 : w.cell? ⟨b, 4, none⟩ = some (.int .i64 mo) := by obtain ⟨a1, c1, a2, c2, hs⟩ := rv_open h; exact hs.cell 4
  unfold roomR
  go_enter Try.func55, Try.ntmps55
  go_wp2_with fail
  refine (rdrop_any k w R b al kp mo t kk s hlen h).mono ?_
  rintro e w1 ⟨rfl, hd⟩
  clear h hn hpt hpk hsum d4
  obtain ⟨t0, ht0⟩ : ∃ t0, dropV s t = t0 := ⟨_, rfl⟩
  obtain ⟨k0, hk0⟩ : ∃ k0, dropV s kk = k0 := ⟨_, rfl⟩
  rw [ht0] at hs1 hl1 hn1 hp1 hd
  rw [hk0] at hs1 hl2 hn1 hp2 hd
  have HT0 := Lib.hid ht0
  have HK0 := Lib.hid hk0
  clear ht0 hk0
  go_wp2_with fail
  go_loopg [8, 9, 10] (t0.length + k0.length) (fun gk lv _ _ wr => ∃ (t' k' : List KV) (out : List ByteArray), gk = t'.length + k'.length ∧ NdV t' k' ∧ posV t' ∧ posV k' ∧ sumV t' + sumV k' ≤ al ∧ out.length + (t'.length + k'.length) ≤ t0.length + k0.length ∧
    Hid (roomV al size (t0.length + k0.length) t0 k0 = ((roomV al size gk t' k').1, (roomV al size gk t' k').2.1, out ++ (roomV al size gk t' k').2.2)) ∧ Sat k wr (Strs lv out * (RefV b al kp mo t' k' * R)))
  case atStart => exact ⟨t0, k0, [], rfl, hn1, hp1, hp2, hs1, by simp, rfl, own_nil hd⟩
  case round =>
    obtain ⟨t', k', out, rfl, hn', hpt, hpk, hsum, hol, HV, hs⟩ := hrel
    have hs0 := hs
    obtain ⟨a1, c1, a2, c2, hr⟩ := rv_open hs.swap
    have b1 := posV_len hpt
    have b2 := posV_len hpk
    have c0 : wr.cell? ⟨b, 0, none⟩ = some (.slice a1 t'.length c1) := hr.cell 0
    have c1' : wr.cell? ⟨b, 1, none⟩ = some (.slice a2 k'.length c2) := hr.cell 1
    have c2' : wr.cell? ⟨b, 2, none⟩ = some (.int .i64 al) := hr.cell 2
    have C1 := Lib.hid (fun n => (rsum_any k (wr.drewN n) _ a1 c1 t' hpt (by omega) (hr.drewN n).swap).mono fun _ _ ⟨p, q⟩ => And.intro p q.symm)
    have C2 := Lib.hid (fun n => (rsum_any k (wr.drewN n) _ a2 c2 k' hpk (by omega) (hr.drewN n).get3).mono fun _ _ ⟨p, q⟩ => And.intro p q.symm)
    have HB := Lib.hid (And.intro hn' (And.intro hpt hpk))
    clear hn' hpt hpk hn1 hp1 hp2 hs1 hd
    by_cases hq : al < sumV t' + sumV k' + size
    · have HQ := Lib.hid hq
      have w1 : IntKind.i64.wrap (sumV t' + sumV k') = sumV t' + sumV k' := IntWalk.i64_in _ (by omega)
      have w2 : IntKind.i64.wrap (sumV t' + sumV k' + size) = sumV t' + sumV k' + size := IntWalk.i64_in _ (by omega)
      obtain ⟨va, vc, rfl⟩ := own_val hs
      go_wp2_with fail
      go_quiet ((first | (go_at_call 67; (with_reducible exact Calls.quiet_of_same (C1.out _))) | (go_at_call 67; (with_reducible exact Calls.quiet_of_same (C2.out _))) | fail))
      clear w1 w2 C1 C2 c0 c1' c2'
      replace hs := hs.drewN nq
      replace hr := hr.drewN nq
      clear hs0
      generalize wr.drewN nq = wq at *
      have c0 : wq.cell? ⟨b, 0, none⟩ = some (.slice a1 t'.length c1) := hr.cell 0
      have c1' : wq.cell? ⟨b, 1, none⟩ = some (.slice a2 k'.length c2) := hr.cell 1
      rcases List.eq_nil_or_concat t' with rfl | ⟨T1, x, rfl⟩
      · rcases List.eq_nil_or_concat k' with rfl | ⟨K1, x, rfl⟩
        · exfalso
          simp [sumV] at hq
          omega
        · clear hq
          rw [List.concat_eq_append] at *
          obtain ⟨hn', hpt, hpk⟩ := HB.out
          obtain ⟨n1, n2, n3⟩ := hn'.snoc
          have hx1 := posV_init hpk
          have hle : ([] : List KV).length + (K1).length + 1 = ([] : List KV).length + ((K1 ++ [x])).length := by simp; try omega
          have HV2 := Lib.hid (roomV_k (al := al) (size := size) (x := x) (k := K1) (([] : List KV).length + K1.length) HQ.out)
          rw [sumV_snoc'] at hsum
          have HN := Lib.hid (And.intro n1 (And.intro n2 n3))
          have HR := Lib.hid (And.intro hpt hx1.1)
          have hx0 := hx1.2
          clear n1 n2 n3 hn' hpt hpk hx1 HQ
          obtain ⟨g, rfl, hg, d2, _⟩ := kv_get hr.get3 K1.length (by simp)
          rw [List.getElem_append_right (Nat.le_refl _)] at d2
          simp only [Nat.sub_self, List.getElem_cons_zero] at d2
          simp only [List.length_append, List.length_cons, List.length_nil, Nat.zero_add] at c1'
          simp only [List.length_nil] at c0
          have hlb : (K1.length : Int) ≤ 1073741824 := by simp at b1 b2; omega
          go_wp2_with fail
          refine (rdrop_any k _ _ b al kp mo [] (K1 ++ [x]) x.1 (by simp at b1 b2 ⊢; omega) hs.swap).mono ?_
          rintro e w4 ⟨rfl, h4⟩
          obtain ⟨n1, n2, n3⟩ := HN.out
          rw [n1, show dropV x.1 [] = [] from rfl] at h4
          clear n1 n2 n3
          have hob : (out.length : Int) ≤ 1073741824 := by omega
          go_wp2_with (at_builtin; refine wpList_append_sat TStrs (h4.swap.alloc' _) (.tmp 61) (.tmp 63) _ 1 1 [.string x.1] rfl rfl rfl rfl rfl (fun _ => ⟨_, rfl, new_cells_at _ _ _ _ (by first | rfl | simp)⟩) (strs_one [x.1]) (by simp [maxLen]; omega) (by omega) ?_; intro a3 c3 w5 h5)
          go_roundg (([] : List KV).length + K1.length)
          case measure => omega
          case rel =>
            refine ⟨([] : List KV), K1, out ++ [x.1], rfl, HN.out.2.2, HR.out.1, HR.out.2, by first | omega | (simp [sumV] at hsum ⊢; omega), by simp at hle hol ⊢; omega, ?_, strs_push h5⟩
            unfold Hid
            rw [HV.out, ← hle, HV2.out]
            simp
      · clear hq
        rw [List.concat_eq_append] at *
        obtain ⟨hn', hpt, hpk⟩ := HB.out
        obtain ⟨n1, n2, n3⟩ := hn'.cons
        have hx1 := posV_init hpt
        have hle : (T1).length + (k').length + 1 = ((T1 ++ [x])).length + (k').length := by simp; try omega
        have HV2 := Lib.hid (roomV_t (al := al) (size := size) (x := x) (t := T1) (k := k') (T1.length + k'.length) HQ.out)
        rw [sumV_snoc'] at hsum
        have HN := Lib.hid (And.intro n1 (And.intro n2 n3))
        have HR := Lib.hid (And.intro hx1.1 hpk)
        have hx0 := hx1.2
        clear n1 n2 n3 hn' hpt hpk hx1 HQ
        obtain ⟨g, rfl, hg, d2, _⟩ := kv_get hr.swap T1.length (by simp)
        rw [List.getElem_append_right (Nat.le_refl _)] at d2
        simp only [Nat.sub_self, List.getElem_cons_zero] at d2
        simp only [List.length_append, List.length_cons, List.length_nil, Nat.zero_add] at c0
        have hlz : (((T1.length + 1 : Nat) : Int) == 0) = false := by simp; omega
        have hlb : (T1.length : Int) ≤ 1073741824 := by simp at b1 b2; omega
        go_wp2_with fail
        refine (rdrop_any k _ _ b al kp mo (T1 ++ [x]) k' x.1 (by simp at b1 b2 ⊢; omega) hs.swap).mono ?_
        rintro e w4 ⟨rfl, h4⟩
        obtain ⟨n1, n2, n3⟩ := HN.out
        rw [n1, n2] at h4
        clear n1 n2 n3
        have hob : (out.length : Int) ≤ 1073741824 := by omega
        go_wp2_with (at_builtin; refine wpList_append_sat TStrs (h4.swap.alloc' _) (.tmp 61) (.tmp 63) _ 1 1 [.string x.1] rfl rfl rfl rfl rfl (fun _ => ⟨_, rfl, new_cells_at _ _ _ _ (by first | rfl | simp)⟩) (strs_one [x.1]) (by simp [maxLen]; omega) (by omega) ?_; intro a3 c3 w5 h5)
        go_roundg (T1.length + k'.length)
        case measure => omega
        case rel =>
          refine ⟨T1, k', out ++ [x.1], rfl, HN.out.2.2, HR.out.1, HR.out.2, by first | omega | (simp [sumV] at hsum ⊢; omega), by simp at hle hol ⊢; omega, ?_, strs_push h5⟩
          unfold Hid
          rw [HV.out, ← hle, HV2.out]
          simp
    · have w1 : IntKind.i64.wrap (sumV t' + sumV k') = sumV t' + sumV k' := IntWalk.i64_in _ (by omega)
      have w2 : IntKind.i64.wrap (sumV t' + sumV k' + size) = sumV t' + sumV k' + size := IntWalk.i64_in _ (by omega)
      go_wp2_with fail
      go_quiet ((first | (go_at_call 67; (with_reducible exact Calls.quiet_of_same (C1.out _))) | (go_at_call 67; (with_reducible exact Calls.quiet_of_same (C2.out _))) | fail))
      clear w1 w2 C1 C2 c0 c1' c2'
      replace hr := hs.drewN nq
      clear hs0 hs
      generalize wr.drewN nq = wq at *
      obtain ⟨a1, c1, a2, c2, h6⟩ := rv_open hr.swap
      have c0 : wq.cell? ⟨b, 0, none⟩ = some (.slice a1 t'.length c1) := h6.cell 0
      obtain ⟨va, vc, rfl⟩ := own_val hr
      go_wp2_with fail
      refine (rahead_any k _ _ a1 c1 t' (s, size) (by omega) h6.swap).mono ?_
      rintro e w7 ⟨v7, rfl, h7⟩
      obtain ⟨va7, vc7, rfl⟩ := rec_val h7
      have f7 := h7.get3.frozen 0
      have e0 : w7.cell? ⟨b, 0, none⟩ = some (.slice a1 t'.length c1) := h7.get3.cell 0
      clear c0
      go_wp2_with fail
      go_ret2
      refine ⟨_, rfl, ?_⟩
      rw [HT0.out, HK0.out, HV.out, roomV_stop _ (by omega)]
      simp only [List.append_nil]
      have h8 := h7.get3.set 0 (.slice va7 ((s, size) :: t').length vc7)
      exact (rv_close h8.drop3 rfl).swap

end Go.Proofs.Ytlilogcojeoelaa
