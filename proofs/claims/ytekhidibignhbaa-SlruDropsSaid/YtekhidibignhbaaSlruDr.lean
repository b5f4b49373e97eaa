/- The law SlruDrops, walked. -/
import Derived.Test.YtekhidibignhbaaSlruL
import Derived.Deep.DeepCutAuto
namespace Go.Proofs.Ytekhidibignhbaa
set_option linter.unusedSimpArgs false
set_option linter.unusedVariables false
open Go Go.RowKit

section
variable (k : Env) (w : World) (R : Assn) (b : Nat) (al kp mo : Int) (t kk : List KV) (a : ByteArray) (size : Int) (h : Sat k w (StoreV b al kp mo t kk * R))
include h
theorem put_some : Calls Try.prog 9 #[.pointer (some ⟨b, 0, none⟩), .string a, .int .i64 size] w fun e w' => ∃ v, e = .returned v ∧ ∃ t' k', Sat k w' (StoreV b al kp mo t' k' * R) := by
  by_cases h1 : size < 1
  · exact (put_bad k w R b al kp mo t kk a size (.inl h1) h).mono fun e w' ⟨e1, e2⟩ => ⟨_, e1, _, _, e2⟩
  · by_cases h2 : mo < size
    · exact (put_bad k w R b al kp mo t kk a size (.inr h2) h).mono fun e w' ⟨e1, e2⟩ => ⟨_, e1, _, _, e2⟩
    · exact (put_ok k w R b al kp mo t kk a size (by omega) (by omega) h).mono fun e w' ⟨v, e1, e2⟩ => ⟨_, e1, _, _, e2.drop⟩
theorem touch_some : Calls Try.prog 12 #[.pointer (some ⟨b, 0, none⟩), .string a] w fun e w' => ∃ v, e = .returned v ∧ ∃ t' k', Sat k w' (StoreV b al kp mo t' k' * R) := by
  cases hm : mget a (t ++ kk) with
  | none => exact (touch_none k w R b al kp mo t kk a hm h).mono fun e w' ⟨e1, e2⟩ => ⟨_, e1, _, _, e2⟩
  | some s =>
    by_cases hks : kp < s
    · exact (touch_t k w R b al kp mo t kk a s hm hks h).mono fun e w' ⟨v, e1, e2⟩ => ⟨_, e1, _, _, e2.drop⟩
    · exact (touch_k k w R b al kp mo t kk a s hm hks h).mono fun e w' ⟨v, e1, e2⟩ => ⟨_, e1, _, _, e2.drop⟩
end

theorem not_dropV (a : ByteArray) (l : List KV) : a ∉ (dropV a l).map (·.1) := fun h => (mem_dropV.1 h).2 rfl
theorem out_dropV (a : ByteArray) (l : List KV) : ∀ x ∈ dropV a l, x.1 ≠ a := by
  intro x hx
  unfold dropV at hx
  simpa using (List.mem_filter.1 hx).2
theorem mget_new (a : ByteArray) (s : Int) (t k : List KV) : mget a (((a, s) :: t) ++ k) = some s := by
  rw [List.cons_append, mget, if_pos rfl]
theorem src_own {k : Env} {w : World} {R : Assn} {e : TypeId} {n c : Nat} {a : Option Addr} {xs : List Value} (h : Sat k w (Own e 1 (.slice a n c) n xs * R)) (hn : 0 < n) :
    ∃ ad, a = some ad ∧ ∀ j u, xs[j]? = some u → w.cell? (ad.add j) = some u := by
  have hl := own_len h
  obtain ⟨g, rfl, _, hc, _⟩ := own_get h hn
  refine ⟨_, rfl, fun j u hu => ?_⟩
  rw [Addr.add_lit, Nat.zero_add, hc j (by have := (List.getElem?_eq_some_iff.1 hu).1; omega), hu]
theorem strs_app (l r : List ByteArray) : strs l ++ strs r = strs (l ++ r) := by simp [strs]
theorem dropV_append (a : ByteArray) (l r : List KV) : dropV a (l ++ r) = dropV a l ++ dropV a r := by
  unfold dropV; exact List.filter_append ..

theorem dropV_id {a : ByteArray} {l : List KV} (h : ∀ x ∈ l, x.1 ≠ a) : dropV a l = l := by
  unfold dropV
  rw [List.filter_eq_self]
  intro x hx
  simpa using h x hx
theorem drop_new {a : ByteArray} {s : Int} {t : List KV} (h : ∀ x ∈ t, x.1 ≠ a) : dropV a ((a, s) :: t) = t := by
  rw [show dropV a ((a, s) :: t) = dropV a t by simp [dropV], dropV_id h]
/-- Nobody went: nothing changed. -/
theorem roomV_nil {al s : Int} {n : Nat} {t k : List KV} (h : (roomV al s n t k).2.2 = []) : roomV al s n t k = (t, k, []) := by
  cases n with
  | zero => rfl
  | succ n =>
    rw [roomV] at h ⊢
    split
    · rename_i hlt
      rw [if_pos hlt] at h
      split
      · rename_i x hx
        rw [hx] at h
        simp at h
      · rename_i hx
        rw [hx] at h
        split
        · rename_i y hy
          rw [hy] at h
          simp at h
        · rfl
    · rfl

/-- The first key's going. -/
theorem drop_first {x : ByteArray} {t k : List KV} {l : List ByteArray} (hn : ((t ++ k).map (·.1)).Nodup) (h : (t ++ k).map (·.1) = x :: l) : (dropV x t ++ dropV x k).map (·.1) = l ∧ (mget x (t ++ k)).isSome = true := by
  constructor
  · rw [← dropV_append]
    cases hl : t ++ k with
    | nil => rw [hl] at h; cases h
    | cons y r =>
      rw [hl] at h hn
      simp only [List.map_cons, List.cons.injEq] at h
      rw [List.map_cons, List.nodup_cons, h.1] at hn
      rw [show dropV x (y :: r) = dropV x r by simp [dropV, h.1], dropV_id fun y hy e => hn.1 (by rw [← e]; exact List.mem_map_of_mem hy)]
      exact h.2
  · rw [mget_isSome, h]; exact List.mem_cons_self


theorem roomR_new (al s : Int) {a : ByteArray} {t k : List KV} (ht : ∀ x ∈ t, x.1 ≠ a) (hk : ∀ x ∈ k, x.1 ≠ a) :
    (∀ x ∈ (roomR al a s t k).1, x.1 ≠ a) ∧ (∀ x ∈ (roomR al a s t k).2.1, x.1 ≠ a) ∧ ((roomR al a s t k).2.2 = [] → (roomR al a s t k).1 = t ∧ (roomR al a s t k).2.1 = k) := by
  unfold roomR
  rw [dropV_id ht, dropV_id hk]
  obtain ⟨h1, h2, _⟩ := roomV_sub al s (t.length + k.length) t k
  refine ⟨fun x hx => ht x (h1 x hx), fun x hx => hk x (h2 x hx), fun h => ?_⟩
  rw [roomV_nil h]
  exact ⟨rfl, rfl⟩

set_option maxRecDepth 100000 in
set_option maxHeartbeats 16000000 in
theorem walkSlruDrops (W : World) (a : Option Addr) (len cap : Nat) (xs : List (List Value)) (z : IsRecs W a len cap 3 okOp xs) (key : ByteArray) (_w : key.size ≤ 140737488351232) :
    Calls Try.prog 5 #[.slice a len cap, .string key] W fun e w' => e = .returned (.bool true) ∧ Below W.heap.size W w' := by
  go_enter Try.func5, Try.ntmps5
  go_wp2_with fail
  refine (new_any _ _ _ 30 12 15 (by omega) (by omega) (by omega) (by omega) (by omega) (by omega) (Sat.whole W)).mono ?_
  rintro e w1 ⟨b, rfl, h1⟩
  by_cases hks : 100 < key.size
  · go_wp2_with fail
    refine (known_any _ _ _ h1.drop).mono ?_
    rintro e w2 ⟨rfl, h2⟩
    go_wp2_with fail
    go_ret
    exact ⟨rfl, h2.below⟩
  have hks' : ¬ (100 : Int) < (key.size : Int) := by omega
  clear hks
  go_wp2_with fail
  go_loopw [7] (fun i wr => ∃ (j : Nat) (T K : List KV), j ≤ len ∧ j ≤ 40 ∧ i = .int .i64 j ∧ Sat (World.env W) wr (StoreV b 30 12 15 T K * whole W)) (fun i _ => 40 - (intOf i).toNat)
  case atStart => exact ⟨0, [], [], Nat.zero_le _, Nat.zero_le _, rfl, h1⟩
  case round =>
    clear h1
    obtain ⟨j, T, K, hj, hj2, rfl, hr⟩ := hrel
    by_cases hlt : j < len ∧ j < 40
    · obtain ⟨hlt, hlt2⟩ := hlt
      obtain ⟨g, o, cs, rfl, _, _, ⟨kd, ky, sz, rfl, _, _, _⟩, hcs⟩ := rec_at z (by decide) j hlt
      by_cases hkl : 100 < ky.size
      · obtain ⟨hg, q0⟩ := whole_at hr.drop (hcs 0 (by decide))
        obtain ⟨_, q1⟩ := whole_at hr.drop (hcs 1 (by decide))
        obtain ⟨_, q2⟩ := whole_at hr.drop (hcs 2 (by decide))
        simp only [Nat.add_zero] at q0
        go_wp2_with fail
        go_roundw
        case rel => exact ⟨j + 1, T, K, by omega, by omega, by go_num, hr⟩
        case measure => simp [intOf]; omega
      · have hkl' : ¬ (100 : Int) < (ky.size : Int) := by omega
        clear hkl
        by_cases k0 : kd = 0
        · subst k0
          obtain ⟨hg, q0⟩ := whole_at hr.drop (hcs 0 (by decide))
          obtain ⟨_, q1⟩ := whole_at hr.drop (hcs 1 (by decide))
          obtain ⟨_, q2⟩ := whole_at hr.drop (hcs 2 (by decide))
          simp only [Nat.add_zero] at q0
          go_wp2_with fail
          go_region_held3 (fun w' => w'.cell? ⟨g, o + j * 3 + 1, none⟩ = some (.string ky) ∧ w'.cell? ⟨g, o + j * 3 + 2, none⟩ = some (.int .i64 sz)) (first | exact ⟨q1, q2⟩ | exact ⟨(whole_at h4.drop (hcs 1 (by decide))).2, (whole_at h4.drop (hcs 2 (by decide))).2⟩ | fail) (first | (go_at_call 9; refine (put_some _ _ _ b 30 12 15 T K ky sz hr.drew).mono ?_; rintro e w3 ⟨v, rfl, T2, K2, h4⟩) | fail)
          obtain ⟨hg, q0⟩ := whole_at h4.drop (hcs 0 (by decide))
          obtain ⟨_, q1⟩ := whole_at h4.drop (hcs 1 (by decide))
          obtain ⟨_, q2⟩ := whole_at h4.drop (hcs 2 (by decide))
          simp only [Nat.add_zero] at q0
          go_wp2_with fail
          go_roundw
          case rel => exact ⟨j + 1, T2, K2, by omega, by omega, by go_num, h4⟩
          case measure => simp [intOf]; omega
        · have b0 : (kd == 0) = false := by simpa using k0
          obtain ⟨hg, q0⟩ := whole_at hr.drop (hcs 0 (by decide))
          obtain ⟨_, q1⟩ := whole_at hr.drop (hcs 1 (by decide))
          obtain ⟨_, q2⟩ := whole_at hr.drop (hcs 2 (by decide))
          simp only [Nat.add_zero] at q0
          by_cases k1 : kd = 1
          · subst k1
            go_wp2_with fail
            refine (touch_some _ _ _ b 30 12 15 T K ky hr).mono ?_
            rintro e w3 ⟨v, rfl, T2, K2, h4⟩
            go_wp2_with fail
            go_roundw
            case rel => exact ⟨j + 1, T2, K2, by omega, by omega, by go_num, h4⟩
            case measure => simp [intOf]; omega
          · have b1 : (kd == 1) = false := by simpa using k1
            go_wp2_with fail
            go_roundw
            case rel => exact ⟨j + 1, T, K, by omega, by omega, by go_num, hr⟩
            case measure => simp [intOf]; omega
    · have hlt' : ¬ (j : Int) < len ∨ ((j : Int) < len ∧ ¬ (j : Int) < 40) := by omega
      clear hlt
      rcases hlt' with hq | ⟨hq, hq2⟩
      all_goals
        go_wp2_with fail
        (
          refine (drop_any _ _ _ b 30 12 15 _ _ key hr).mono ?_
          rintro e w2 ⟨rfl, h2⟩
          go_wp2_with fail
          refine (bytes_f _ _ _ b 30 12 15 _ _ h2).mono ?_
          rintro e w3 ⟨rfl, h3⟩
          go_wp2_with fail
          refine (bytes_t _ _ _ b 30 12 15 _ _ h3).mono ?_
          rintro e w4 ⟨rfl, h4⟩
          obtain ⟨f1, f2, f3, f4, f5, _, _, f6, f7⟩ := sv_facts h4
          have HT := Lib.hid (out_dropV key T)
          have HK := Lib.hid (out_dropV key K)
          generalize dropV key T = T3 at *
          generalize dropV key K = K3 at *
          clear f3 h2 h3
          go_wp2_with fail
          refine (put_ok _ _ _ b 30 12 15 _ _ key 3 (by omega) (by omega) h4).mono ?_
          rintro e w5 ⟨v5, rfl, h5⟩
          have hn := roomR_new 30 3 HT.out HK.out
          have H4 := Lib.hid hn.1
          have H5 := Lib.hid hn.2.1
          have hn2 := hn.2.2
          clear hn
          generalize (roomR 30 key 3 T3 K3).1 = T5 at *
          generalize (roomR 30 key 3 T3 K3).2.1 = K5 at *
          generalize (roomR 30 key 3 T3 K3).2.2 = G5 at *
          obtain ⟨ga, gc, rfl⟩ := own_val h5
          have h5 := h5.drop
          go_wp2_with fail
          first
          | (have hg : G5 = [] := by assumption
             obtain ⟨e1, e2⟩ := hn2 hg
             clear hn2
             subst e1
             subst e2
             obtain ⟨s1, s2, _, _, _, _, _, s3, s4⟩ := sv_facts h5
             rw [show sumV ((key, 3) :: T5) = 3 + sumV T5 from rfl] at s1 s3
             refine (bytes_f _ _ _ b 30 12 15 _ _ h5).mono ?_
             rintro e w6 ⟨rfl, h6⟩
             rw [show sumV ((key, 3) :: T5) = 3 + sumV T5 from rfl]
             go_wp2_with fail
             refine (bytes_t _ _ _ b 30 12 15 _ _ h6).mono ?_
             rintro e w7 ⟨rfl, h7⟩
             go_wp2_with fail
             replace h5 := h7
             generalize w7 = w5 at *)
          | skip
          all_goals (
            refine (drop_any _ _ _ b 30 12 15 _ _ key h5).mono ?_
            rintro e w8 ⟨rfl, h8⟩
            rw [mget_new, drop_new H4.out, dropV_id H5.out] at *
            obtain ⟨m1, _, m3, m4, _⟩ := sv_facts h8
            have HN : Hid (∀ x ∈ (T5 ++ K5).map (·.1), x ≠ key) := by
              intro x hx
              obtain ⟨y, hy, rfl⟩ := List.mem_map.1 hx
              rcases List.mem_append.1 hy with hy | hy
              · exact H4.out y hy
              · exact H5.out y hy
            have HL : Hid ((T5 ++ K5).map (·.1) = T5.map (·.1) ++ K5.map (·.1)) := List.map_append
            generalize hL : (T5 ++ K5).map (·.1) = L at *
            clear m3
            go_wp2_with fail
            refine (keys_f _ _ _ b 30 12 15 _ _ h8).mono ?_
            rintro e w9 ⟨ka, kc, rfl, h9⟩
            go_wp2_with fail
            refine (keys_t _ _ _ b 30 12 15 _ _ h9.swap).mono ?_
            rintro e w10 ⟨la, lc, rfl, h10⟩
            go_wp2_with (at_builtin; refine wpList_append_sat TStrs h10.get3 (.tmp 135) (.tmp 137) la K5.length lc (strs (K5.map (·.1))) rfl rfl rfl rfl (by simp [strs]) (src_own h10) (strs_one _) (by simp [maxLen]; omega) (by omega) ?_; intro a2 c2 w11 h11)
            rw [strs_app, ← HL.out] at h11
            have HL2 : Hid (L.length = T5.length + K5.length) := by unfold Hid; rw [HL.out]; simp
            have h12 := h11.swap.drop
            have h0 : Hid ((T5 ++ K5).map (·.1) = L.drop 0) := by unfold Hid; rw [hL]; rfl
            have HM : Hid (T5.length + K5.length ≤ 30) := by unfold Hid; omega
            clear h11 h10 h9 hL HL H4 H5 m1 m4
            generalize T5.length + K5.length = n2 at *
            have hm2 := HM.out
            go_loopw [12] (fun i wr => ∃ (j : Nat) (T K : List KV), j ≤ n2 ∧ i = .int .i64 j ∧ Hid ((T ++ K).map (·.1) = L.drop j) ∧ Sat (World.env W) wr (Own 9 1 (.slice a2 n2 c2) n2 (strs L) * (StoreV b 30 12 15 T K * whole W))) (fun i _ => n2 - (intOf i).toNat)
            case atStart => exact ⟨0, T5, K5, Nat.zero_le _, rfl, h0, h12.of_eq rfl⟩
            case round =>
              clear h0 h12
              obtain ⟨j, T6, K6, hj, rfl, hd, hr⟩ := hrel
              by_cases hlt : j < n2
              · obtain ⟨g, rfl, hg, da⟩ := strs_get hr j (by rw [HL2.out]; exact hlt)
                have hjl : j < L.length := by rw [HL2.out]; exact hlt
                have hx := HN.out _ (List.getElem_mem hjl)
                have hdr := hd.out
                rw [List.drop_eq_getElem_cons hjl] at hdr
                obtain ⟨_, _, f3, _⟩ := sv_facts hr.drop
                obtain ⟨g1, g2⟩ := drop_first f3 hdr
                have G1 := Lib.hid g1
                have G2 := Lib.hid g2
                clear hdr f3 g1 g2
                have hbq : (L[j].toList == key.toList) = false := by rw [tl_beq]; simp [hx]
                generalize L[j] = x at *
                go_wp2_with fail
                refine (drop_any _ _ _ b 30 12 15 T6 K6 x hr.swap).mono ?_
                rintro e w13 ⟨rfl, h13⟩
                rw [G2.out]
                go_wp2_with fail
                go_roundw
                case rel => exact ⟨j + 1, _, _, by omega, by go_num, G1, h13.swap⟩
                case measure => simp [intOf]; omega
              · obtain rfl : j = n2 := by omega
                have hd := hd.out
                rw [List.drop_eq_nil_of_le (by rw [HL2.out]; exact Nat.le_refl _), List.map_eq_nil_iff, List.append_eq_nil_iff] at hd
                obtain ⟨rfl, rfl⟩ := hd
                go_wp2_with fail
                refine (bytes_f _ _ _ b 30 12 15 _ _ hr.drop).mono ?_
                rintro e w14 ⟨rfl, h14⟩
                rw [show sumV [] = 0 from rfl]
                go_wp2_with fail
                refine (bytes_t _ _ _ b 30 12 15 _ _ h14).mono ?_
                rintro e w15 ⟨rfl, h15⟩
                rw [show sumV [] = 0 from rfl]
                go_wp2_with fail
                refine (keys_f _ _ _ b 30 12 15 _ _ h15).mono ?_
                rintro e w16 ⟨xa, xc, rfl, h16⟩
                go_wp2_with fail
                refine (keys_t _ _ _ b 30 12 15 _ _ h16.drop).mono ?_
                rintro e w17 ⟨ya, yc, rfl, h17⟩
                go_wp2_with fail
                refine (known_any _ _ _ h17.drop.drop).mono ?_
                rintro e w18 ⟨rfl, h18⟩
                go_wp2_with fail
                go_ret
                exact ⟨rfl, h18.below⟩))

end Go.Proofs.Ytekhidibignhbaa
