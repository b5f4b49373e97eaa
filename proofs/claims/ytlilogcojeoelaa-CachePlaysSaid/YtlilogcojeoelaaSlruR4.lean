/- Contracts of the document's store of two segments: Touch. -/
import Derived.Test.YtlilogcojeoelaaSlruR3
import Derived.Deep.DeepCutAuto
namespace Go.Proofs.Ytlilogcojeoelaa
set_option linter.all false
open Go Go.RowKit

set_option maxRecDepth 100000 in
set_option maxHeartbeats 1000000 in
theorem rtouch_none (k : Env) (w : World) (R : Assn) (b : Nat) (al kp mo : Int) (t kk : List KV) (s : ByteArray) (hms : mget s (t ++ kk) = none) (h : Sat k w (RefV b al kp mo t kk * R)) :
    Calls Try.prog 60 #[.pointer (some ⟨b, 0, none⟩), .string s] w fun e w' => e = .returned (.tuple #[.slice none 0 0, .bool false]) ∧ w = w' := by
  have HM := Lib.hid hms
  clear hms
  go_enter Try.func60, Try.ntmps60
  go_wp2_with fail
  refine (rhas_any k w R b al kp mo t kk s h).mono ?_
  rintro e w1 ⟨rfl, rfl⟩
  rw [HM.out]
  go_wp2_with fail
  go_ret2
  exact ⟨rfl, rfl⟩

theorem place_tried {s : ByteArray} {n : Int} {t kk : List KV} (h : mget s (t ++ kk) = some n) : (0 ≤ plcV s t 0 ∧ mget s t = some n) ∨ (plcV s t 0 = -1 ∧ mget s t = none ∧ mget s kk = some n) := by
  rw [mget_append] at h
  rcases plcV_cases s t 0 with ⟨h1, h2⟩ | ⟨j, hj, h1, _, h2⟩
  · right; rw [h2] at h; exact ⟨h1, h2, by simpa using h⟩
  · left; refine ⟨by omega, ?_⟩
    rw [h2] at h ⊢; simpa using h
theorem mget_sum {s : ByteArray} {n : Int} {l : List KV} (hp : posV l) (h : mget s l = some n) : n ≤ sumV l := by
  induction l with
  | nil => simp [mget] at h
  | cons x r ih =>
    have h1 := sumV_pos (l := r) fun y hy => by have := hp y (by simp [hy]); omega
    have h2 := hp x (by simp)
    rw [mget] at h
    simp only [sumV]
    split at h
    · cases h; omega
    · have := ih (fun y hy => hp y (by simp [hy])) h; omega

set_option maxRecDepth 100000 in
set_option maxHeartbeats 4000000 in
theorem rtouch_t (k : Env) (w : World) (R : Assn) (b : Nat) (al kp mo : Int) (t kk : List KV) (s : ByteArray) (n : Int) (hal : al ≤ 1073741824)
    (hpt : posV t) (hpk : posV kk) (hsum : sumV t + sumV kk ≤ al) (hkp : sumV kk ≤ kp) (hms : mget s (t ++ kk) = some n) (hks : kp < n) (h : Sat k w (RefV b al kp mo t kk * R)) :
    Calls Try.prog 60 #[.pointer (some ⟨b, 0, none⟩), .string s] w fun e w' => ∃ v, e = .returned (.tuple #[v, .bool true]) ∧ Sat k w' (Strs v (touchR kp s n t kk).2.2 * (RefV b al kp mo (touchR kp s n t kk).1 (touchR kp s n t kk).2.1 * R)) := by
  have hpl : 0 ≤ plcV s t 0 := by
    rcases place_tried hms with ⟨h1, _⟩ | ⟨_, _, h2⟩
    · exact h1
    · have := mget_sum hpk h2; omega
  have hlen : (t.length : Int) + kk.length ≤ 1073741824 := by have := posV_len hpt; have := posV_len hpk; omega
  have hlt := dropV_len s t
  have HS : Hid (touchR kp s n t kk = ((s, n) :: dropV s t, dropV s kk, [])) := by
    unfold Hid touchR touchP
    rw [if_pos hks]
    refine backV_stop _ ?_
    have := sumV_dropV s kk fun x hx => by have := hpk x hx; omega
    show ¬ kp < sumV (dropV s kk)
    omega
  have HM := Lib.hid hms
  clear hms hpt hpk hsum hkp
  go_enter Try.func60, Try.ntmps60
  go_wp2_with fail
  refine (rhas_any k w R b al kp mo t kk s h).mono ?_
  rintro e w1 ⟨rfl, rfl⟩
  rw [HM.out]
  simp only [Option.getD_some, Option.isSome_some]
  obtain ⟨a1, c1, a2, c2, hr⟩ := rv_open h
  have c0 : w.cell? ⟨b, 0, none⟩ = some (.slice a1 t.length c1) := hr.cell 0
  have hbl := hr.lt
  go_wp2_with fail
  refine (rplace_any k _ _ a1 c1 t s (hr.alloc' _).swap).mono ?_
  rintro e w2 ⟨rfl, rfl⟩
  have hd := (h.alloc (.cells #[.string s, .int .i64 n] 140)).swap
  generalize plcV s t 0 = p at *
  clear c0 hr hbl
  go_wp2_with fail
  refine (rdrop_any k _ _ b al kp mo t kk s hlen hd).mono ?_
  rintro e w3 ⟨rfl, h3⟩
  clear hd
  generalize w.heap.size = og at *
  obtain ⟨a1, c1, a2, c2, hr⟩ := rv_open h3
  have c0 : w3.cell? ⟨b, 0, none⟩ = some (.slice a1 (dropV s t).length c1) := hr.cell 0
  have c3 : w3.cell? ⟨b, 3, none⟩ = some (.int .i64 kp) := hr.cell 3
  have d0 : w3.cell? ⟨og, 0, none⟩ = some (.string s) := h3.drop.cell 0
  have d1 : w3.cell? ⟨og, 1, none⟩ = some (.int .i64 n) := h3.drop.cell 1
  have f0 := hr.frozen 0
  go_wp2_with fail
  go_region_law (go_simp; go_at_call 84; refine (rahead_any k _ _ a1 c1 (dropV s t) (s, n) (by omega) hr.drew.swap).mono ?_; rintro e w7 ⟨v7, rfl, h7⟩; obtain ⟨va7, vc7, rfl⟩ := rec_val h7; have f7 := h7.get3.frozen 0; have e0 : w7.cell? ⟨b, 0, none⟩ = some (.slice a1 (dropV s t).length c1) := h7.get3.cell 0)
  all_goals
    go_wp2_with fail
    go_ret2
    refine ⟨_, rfl, ?_⟩
    rw [HS.out]
    have h8 := h7.get3.set 0 (.slice va7 ((s, n) :: dropV s t).length vc7)
    exact own_nil (rv_close h8.drop3 rfl).drop2

theorem backV_fuel (kp : Int) : ∀ (n m : Nat) (t k : List KV), k.length ≤ n → k.length ≤ m → backV kp n t k = backV kp m t k := by
  intro n
  induction n with
  | zero => intro m t k h1 h2; cases k with
    | nil => cases m with
      | zero => rfl
      | succ m => rw [backV, backV]; split <;> rfl
    | cons x r => simp at h1
  | succ n ih =>
    intro m t k h1 h2
    cases m with
    | zero => cases k with
      | nil => rw [backV, backV]; split <;> rfl
      | cons x r => simp at h2
    | succ m =>
      rw [backV, backV]
      split
      · rcases List.eq_nil_or_concat k with rfl | ⟨k1, x, rfl⟩
        · rfl
        · rw [List.concat_eq_append] at *
          simp only [List.getLast?_append, List.getLast?_singleton, Option.some_or, List.dropLast_concat]
          rw [ih m (x :: t) k1 (by simp at h1; omega) (by simp at h2; omega)]
      · rfl

set_option maxRecDepth 100000 in
set_option maxHeartbeats 4000000 in
theorem rtouch_k (k : Env) (w : World) (R : Assn) (b : Nat) (al kp mo : Int) (t kk : List KV) (s : ByteArray) (n : Int) (hal : al ≤ 1073741824) (hk0 : 0 ≤ kp) (hka : kp ≤ al) (hn0 : 1 ≤ n) (hn : NdV t kk)
    (hpt : posV t) (hpk : posV kk) (hsum : sumV t + sumV kk ≤ al) (hkp : sumV kk ≤ kp) (hms : mget s (t ++ kk) = some n) (hks : ¬ kp < n) (h : Sat k w (RefV b al kp mo t kk * R)) :
    Calls Try.prog 60 #[.pointer (some ⟨b, 0, none⟩), .string s] w fun e w' => ∃ v, e = .returned (.tuple #[v, .bool true]) ∧ Sat k w' (Strs v (touchR kp s n t kk).2.2 * (RefV b al kp mo (touchR kp s n t kk).1 (touchR kp s n t kk).2.1 * R)) := by
  have hlen : (t.length : Int) + kk.length ≤ 1073741824 := by have := posV_len hpt; have := posV_len hpk; omega
  have hl1 := dropV_len s t
  have hl2 := dropV_len s kk
  have hk1 : sumV (dropV s kk) ≤ kp := by
    have := sumV_dropV s kk fun x hx => by have := hpk x hx; omega
    omega
  have hs1 : sumV (dropV s t) + sumV (dropV s kk) ≤ al := by
    have := sumV_dropV s t fun x hx => by have := hpt x hx; omega
    have := sumV_dropV s kk fun x hx => by have := hpk x hx; omega
    omega
  have hn1 := hn.drop s
  have hp1 := posV_drop s hpt
  have hp2 := posV_drop s hpk
  have hn2 : NdV (dropV s t) ((s, n) :: dropV s kk) := by
    unfold NdV at *
    rw [List.map_append, List.nodup_append] at hn1 ⊢
    obtain ⟨h1, h2, h3⟩ := hn1
    have hs1 : ∀ l : List KV, ∀ x ∈ (dropV s l).map (·.1), x ≠ s := by
      intro l x hx
      obtain ⟨y, hy, rfl⟩ := List.mem_map.1 hx
      simpa using (List.mem_filter.1 hy).2
    refine ⟨h1, ?_, ?_⟩
    · rw [List.map_cons, List.nodup_cons]
      exact ⟨fun hm => hs1 _ _ hm rfl, h2⟩
    · intro a ha c hc
      rw [List.map_cons, List.mem_cons] at hc
      rcases hc with rfl | hc
      · exact hs1 _ _ ha
      · exact h3 a ha c hc
  have hp3 : posV ((s, n) :: dropV s kk) := by
    intro x hx
    rcases List.mem_cons.1 hx with rfl | hx
    · exact hn0
    · exact hp2 x hx
  have HS : Hid (touchR kp s n t kk = backV kp ((s, n) :: dropV s kk).length (dropV s t) ((s, n) :: dropV s kk)) := by
    unfold Hid touchR touchP
    rw [if_neg hks]
  have HM := Lib.hid hms
  have HNN := Lib.hid (And.intro hn2 (And.intro hp1 hp3))
  have hk3 : sumV ((s, n) :: dropV s kk) ≤ kp + kp := by simp only [sumV]; omega
  clear hms hpt hpk hsum hkp hn hn1 hn2 hp1 hp2 hp3
  obtain ⟨a1, c1, a2, c2, hr⟩ := rv_open h
  have c0 : w.cell? ⟨b, 0, none⟩ = some (.slice a1 t.length c1) := hr.cell 0
  have hbl := hr.lt
  go_enter Try.func60, Try.ntmps60
  go_wp2_with fail
  refine (rhas_any k w R b al kp mo t kk s h).mono ?_
  rintro e w1 ⟨rfl, rfl⟩
  rw [HM.out]
  simp only [Option.getD_some, Option.isSome_some]
  go_wp2_with fail
  refine (rplace_any k _ _ a1 c1 t s (hr.alloc' _).swap).mono ?_
  rintro e w2 ⟨rfl, rfl⟩
  have hd := (h.alloc (.cells #[.string s, .int .i64 n] 140)).swap
  generalize plcV s t 0 = p at *
  clear c0 hr hbl
  go_wp2_with fail
  refine (rdrop_any k _ _ b al kp mo t kk s hlen hd).mono ?_
  rintro e w3 ⟨rfl, h3⟩
  clear hd
  generalize w.heap.size = og at *
  obtain ⟨t0, ht0⟩ : ∃ t0, dropV s t = t0 := ⟨_, rfl⟩
  obtain ⟨k0, hk0⟩ : ∃ k0, dropV s kk = k0 := ⟨_, rfl⟩
  rw [ht0] at hl1 h3 hs1
  rw [hk0] at hl2 h3 hk1 hs1
  have HT0 := Lib.hid ht0
  have HK0 := Lib.hid hk0
  clear ht0 hk0
  obtain ⟨a1, c1, a2, c2, hr⟩ := rv_open h3
  have c0 : w3.cell? ⟨b, 1, none⟩ = some (.slice a2 k0.length c2) := hr.cell 1
  have c3 : w3.cell? ⟨b, 3, none⟩ = some (.int .i64 kp) := hr.cell 3
  have d0 : w3.cell? ⟨og, 0, none⟩ = some (.string s) := h3.drop.cell 0
  have d1 : w3.cell? ⟨og, 1, none⟩ = some (.int .i64 n) := h3.drop.cell 1
  have f0 := hr.frozen 1
  go_upto_region 7 with fail
  go_cut [9, 29, 33, 34, 41] (fun _ _ _ _ s41 wx => s41 = .bool false ∧ Sat k wx (RefV b al kp mo t0 k0 * (blk og (.cells #[.string s, .int .i64 n] 140) * R)))
  case first =>
    have hkb : decide (kp < n) = false := by simpa using hks
    by_cases hp : 0 ≤ p
    · go_wp2_with fail
      go_meet
      case rel => exact ⟨rfl, h3⟩
    · go_wp2_with fail
      go_meet
      case rel => exact ⟨rfl, h3⟩
  case rest =>
    clear h3 hr c0 c3 d0 d1 f0 a1 c1 a2 c2
    obtain ⟨rfl, hcut⟩ := hcut
    obtain ⟨a1, c1, a2, c2, hr⟩ := rv_open hcut
    have c0 : wc.cell? ⟨b, 1, none⟩ = some (.slice a2 k0.length c2) := hr.cell 1
    have d0 : wc.cell? ⟨og, 0, none⟩ = some (.string s) := hcut.drop.cell 0
    have d1 : wc.cell? ⟨og, 1, none⟩ = some (.int .i64 n) := hcut.drop.cell 1
    have f0 := hr.frozen 1
    go_upto_region 10 with fail
    go_cut [] (fun wx => Sat k wx (RefV b al kp mo t0 ((s, n) :: k0) * R))
    case first =>
      go_region_law (go_simp; go_at_call 84; refine (rahead_any k _ _ a2 c2 k0 (s, n) (by omega) hr.drew.get3).mono ?_; rintro e w7 ⟨v7, rfl, h7⟩; obtain ⟨va7, vc7, rfl⟩ := rec_val h7; have f7 := h7.get3.frozen 1; have e0 : w7.cell? ⟨b, 1, none⟩ = some (.slice a2 k0.length c2) := h7.get3.cell 1)
      all_goals
        go_wp2_with fail
        go_meet
        have h8 := h7.get3.set 1 (.slice va7 ((s, n) :: k0).length vc7)
        exact (rv_close (h8.drop3.swap2) rfl).drop2
    case rest =>
      clear hr c0 d0 d1 f0 a1 c1 a2 c2
      go_wp2_with fail
      go_loopg [10, 11] (k0.length + 1) (fun gk lv _ wr => ∃ (t' k' : List KV) (out : List ByteArray), gk = k'.length ∧ NdV t' k' ∧ posV t' ∧ posV k' ∧ sumV t' + sumV k' ≤ al + al ∧ out.length + k'.length ≤ k0.length + 1 ∧
        Hid (backV kp (k0.length + 1) t0 ((s, n) :: k0) = ((backV kp gk t' k').1, (backV kp gk t' k').2.1, out ++ (backV kp gk t' k').2.2)) ∧ Sat k wr (Strs lv out * (RefV b al kp mo t' k' * R)))
      case atStart =>
        obtain ⟨m1, m2, m3⟩ := HNN.out
        rw [HT0.out, HK0.out] at m1
        rw [HT0.out] at m2
        rw [HK0.out] at m3
        refine ⟨t0, (s, n) :: k0, [], rfl, m1, m2, m3, ?_, by simp, rfl, own_nil hcut⟩
        simp only [sumV] at hk3 ⊢
        rw [HK0.out] at hk3
        omega
      case round =>
        obtain ⟨t', k', out, rfl, hn', hpt, hpk, hsum, hol, HV, hs⟩ := hrel
        obtain ⟨va, vc, rfl⟩ := own_val hs
        obtain ⟨a1, c1, a2, c2, hr⟩ := rv_open hs.swap
        have b1 := posV_len hpt
        have b2 := posV_len hpk
        have e1 : wr.cell? ⟨b, 1, none⟩ = some (.slice a2 k'.length c2) := hr.cell 1
        have e3 : wr.cell? ⟨b, 3, none⟩ = some (.int .i64 kp) := hr.cell 3
        have C2 := Lib.hid (fun n => (rsum_any k (wr.drewN n) _ a2 c2 k' hpk (by omega) (hr.drewN n).get3).mono fun _ _ ⟨p, q⟩ => And.intro p q.symm)
        have HB := Lib.hid (And.intro hn' (And.intro hpt hpk))
        clear hn' hpt hpk hcut hk3
        by_cases hq : kp < sumV k'
        · go_wp2_with fail
          go_quiet ((go_at_call 67; (with_reducible exact Calls.quiet_of_same (C2.out _))))
          replace hs := hs.drewN nq
          replace hr := hr.drewN nq
          clear C2 e1 e3
          generalize wr.drewN nq = wq at *
          rcases List.eq_nil_or_concat k' with rfl | ⟨K1, x, rfl⟩
          · exfalso
            simp [sumV] at hq
            omega
          · rw [List.concat_eq_append] at *
            have e1 : wq.cell? ⟨b, 1, none⟩ = some (.slice a2 (K1 ++ [x]).length c2) := hr.cell 1
            obtain ⟨g, rfl, hg, d2, d3⟩ := kv_get hr.get3 K1.length (by simp)
            rw [List.getElem_append_right (Nat.le_refl _)] at d2 d3
            simp only [Nat.sub_self, List.getElem_cons_zero] at d2 d3
            simp only [List.length_append, List.length_cons, List.length_nil, Nat.zero_add] at e1
            have w2 : IntKind.i64.wrap (K1.length : Int) = (K1.length : Int) := IntWalk.i64_in _ (by simp at b2; omega)
            have w3 : (K1.length : Int) < (K1.length : Int) + 1 := by omega
            have hbq := hr.lt
            have w4 : (0 : Int) ≤ (K1.length : Int) := by omega
            go_wp2_with fail
            go_cut [11] (fun s11 wx => ∃ ob : Nat, s11 = .pointer (some ⟨ob, 0, none⟩) ∧ Sat k wx (blk ob (.cells #[.string x.1, .int .i64 x.2] 140) * (Strs (.slice va out.length vc) out * (RefV b al kp mo t' (K1 ++ [x]) * R))))
            case first =>
              go_region_law (fail)
              all_goals
                go_wp2_with fail
                go_meet
                exact ⟨_, rfl, hs.alloc _⟩
            case rest =>
              obtain ⟨ob, rfl, h9⟩ := hcut
              obtain ⟨hn', hpt, hpk⟩ := HB.out
              obtain ⟨n1, n2, n3⟩ := hn'.snoc
              have hx1 := posV_init hpk
              have hx0 := hx1.2
              have HV2 := Lib.hid (backV_k (kp := kp) (t := t') (k := K1) (x := x) K1.length hq)
              rw [sumV_snoc'] at hsum
              have hn4 : NdV (x :: t') K1 := by
                unfold NdV at hn' ⊢
                refine (List.Perm.nodup_iff ?_).1 hn'
                refine List.Perm.map _ ?_
                rw [← List.append_assoc]
                exact List.perm_append_singleton x (t' ++ K1)
              have hp4 : posV (x :: t') := by
                intro y hy
                rcases List.mem_cons.1 hy with rfl | hy
                · exact hx0
                · exact hpt y hy
              have hkk := posV_len hx1.1
              have htl : (t'.length : Int) ≤ 4294967296 := by omega
              have HN := Lib.hid (And.intro n1 (And.intro hn4 (And.intro hp4 hx1.1)))
              have hlen1 : (K1 ++ [x]).length = K1.length + 1 := by simp
              rw [hlen1] at b2 hol
              have HL1 := Lib.hid hlen1
              clear hr e1 d2 d3 w2 w3 w4 hbq hg hs n1 n2 n3 hn' hpt hpk hx1 HB hn4 hp4
              obtain ⟨a1, c1, a2, c2, hr⟩ := rv_open h9.get3
              have CW := fun (w' : World) (R' : Assn) (hw' : Sat k w' (Kvs (.slice a2 (K1 ++ [x]).length c2) (K1 ++ [x]) * R')) => rwithout_any k w' R' a2 c2 (K1 ++ [x]) x.1 (by simp; omega) hw'
              simp only [hlen1] at CW hr
              have HCW := Lib.hid CW
              clear hlen1 CW
              have e1 : wc.cell? ⟨b, 1, none⟩ = some (.slice a2 (K1.length + 1) c2) := hr.cell 1
              have d2 : wc.cell? ⟨ob, 0, none⟩ = some (.string x.1) := h9.cell 0
              have f0 := hr.frozen 1
              go_upto_region 14 with fail
              go_cut [] (fun wx => Sat k wx (blk ob (.cells #[.string x.1, .int .i64 x.2] 140) * (Strs (.slice va out.length vc) out * (RefV b al kp mo t' K1 * R))))
              case first =>
                go_region_law (go_simp; go_at_call 88; refine (HCW.out _ _ hr.drew.get3).mono ?_; rintro e w7 ⟨v7, rfl, h7⟩; rw [HN.out.1] at h7; obtain ⟨va7, vc7, rfl⟩ := rec_val h7; have f7 := h7.get3.frozen 1; have e0 : w7.cell? ⟨b, 1, none⟩ = some (.slice a2 (K1.length + 1) c2) := h7.get3.cell 1)
                all_goals
                  go_wp2_with fail
                  go_meet
                  have h8 := h7.get3.set 1 (.slice va7 K1.length vc7)
                  exact (rv_close (h8.drop3.swap2) rfl).swap.swap2
              case rest =>
                clear hr e1 d2 f0 h9 a1 c1 a2 c2 HCW
                obtain ⟨a1, c1, a2, c2, hr⟩ := rv_open hcut.get3
                have e1 : wc.cell? ⟨b, 0, none⟩ = some (.slice a1 t'.length c1) := hr.cell 0
                have d2 : wc.cell? ⟨ob, 0, none⟩ = some (.string x.1) := hcut.cell 0
                have d3 : wc.cell? ⟨ob, 1, none⟩ = some (.int .i64 x.2) := hcut.cell 1
                have f0 := hr.frozen 0
                go_upto_region 15 with fail
                go_cut [] (fun wx => Sat k wx (blk ob (.cells #[.string x.1, .int .i64 x.2] 140) * (Strs (.slice va out.length vc) out * (RefV b al kp mo (x :: t') K1 * R))))
                case first =>
                  go_region_law (go_simp; go_at_call 84; refine (rahead_any k _ _ a1 c1 t' x (by omega) hr.drew.swap).mono ?_; rintro e w7 ⟨v7, rfl, h7⟩; obtain ⟨va7, vc7, rfl⟩ := rec_val h7; have f7 := h7.get3.frozen 0; have e0 : w7.cell? ⟨b, 0, none⟩ = some (.slice a1 t'.length c1) := h7.get3.cell 0)
                  all_goals
                    go_wp2_with fail
                    go_meet
                    have h8 := h7.get3.set 0 (.slice va7 (x :: t').length vc7)
                    exact (rv_close h8.drop3 rfl).swap.swap2
                case rest =>
                  clear hr e1 d2 d3 f0 a1 c1 a2 c2
                  have d2 : wc.cell? ⟨ob, 0, none⟩ = some (.string x.1) := hcut.cell 0
                  go_wp2_with (at_builtin; refine wpList_append_sat TStrs (hcut.drop.alloc' _) (.tmp 101) (.tmp 104) _ 1 1 [.string x.1] rfl rfl rfl rfl rfl (fun _ => ⟨_, rfl, new_cells_at _ _ _ _ (by first | rfl | simp)⟩) (strs_one [x.1]) (by simp [maxLen]; omega) (by omega) ?_; intro a3 c3 w5 h5)
                  go_roundg K1.length
                  case measure => simp
                  case rel =>
                    refine ⟨x :: t', K1, out ++ [x.1], rfl, HN.out.2.1, HN.out.2.2.1, HN.out.2.2.2, by simp only [sumV]; omega, by simp at hol ⊢; omega, ?_, strs_push h5⟩
                    unfold Hid
                    rw [HV.out, HL1.out, HV2.out]
                    simp
        · go_wp2_with fail
          go_quiet ((go_at_call 67; (with_reducible exact Calls.quiet_of_same (C2.out _))))
          go_wp2_with fail
          go_ret2
          refine ⟨_, rfl, ?_⟩
          rw [HS.out, HT0.out, HK0.out]
          simp only [List.length_cons]
          rw [HV.out, backV_stop _ (by omega)]
          simp only [List.append_nil]
          exact hs.drewN _

end Go.Proofs.Ytlilogcojeoelaa
