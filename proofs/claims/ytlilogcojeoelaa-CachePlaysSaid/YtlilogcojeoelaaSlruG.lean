/- Contracts of package slru: New, Drop, Has, Keys, Bytes. -/
import Derived.Test.YtlilogcojeoelaaMI
namespace Go.Proofs.Ytlilogcojeoelaa
set_option linter.all false
open Go Go.RowKit

/-- A store that holds these tried and these kept entries, the newest ones first. -/
def StoreV (b : Nat) (al kp mo : Int) (t k : List KV) : Assn :=
  ex fun p : St × List Nat × List Nat => pur (Rep p.1 p.2.1 p.2.2 [] ∧ view p.1.A p.2.1 = t ∧ view p.1.A p.2.2 = k ∧ p.1.al = al ∧ p.1.kp = kp ∧ p.1.mo = mo ∧ sumV k ≤ kp) * StoreR b p.1
section
variable {k : Env} {w : World} {b : Nat} {al kp mo : Int} {t kk : List KV} {R : Assn}
theorem sv_open (h : Sat k w (StoreV b al kp mo t kk * R)) : ∃ st T K, Rep st T K [] ∧ view st.A T = t ∧ view st.A K = kk ∧ st.al = al ∧ st.kp = kp ∧ st.mo = mo ∧ sumV kk ≤ kp ∧ Sat k w (StoreR b st * R) := by
  obtain ⟨⟨st, T, K⟩, h⟩ := Sat.ex.1 h
  rw [star_assoc] at h
  obtain ⟨⟨h1, h2, h3, h4, h5, h6, h7⟩, h⟩ := Sat.pure.1 h
  exact ⟨st, T, K, h1, h2, h3, h4, h5, h6, h7, h⟩
theorem sv_close {st : St} {T K : List Nat} (h : Sat k w (StoreR b st * R)) (hr : Rep st T K []) (h1 : view st.A T = t) (h2 : view st.A K = kk) (h3 : st.al = al) (h4 : st.kp = kp) (h5 : st.mo = mo) (h6 : sumV kk ≤ kp) : Sat k w (StoreV b al kp mo t kk * R) :=
  Sat.ex.2 ⟨(st, T, K), by rw [star_assoc]; exact Sat.pure.2 ⟨⟨hr, h1, h2, h3, h4, h5, h6⟩, h⟩⟩
end

theorem sumV_dropV (a : ByteArray) (l : List KV) (h : ∀ x ∈ l, 0 ≤ x.2) : sumV (dropV a l) ≤ sumV l := by
  induction l with
  | nil => exact Int.le_refl _
  | cons x r ih =>
    have h1 := h x (by simp)
    have h2 := ih (fun y hy => h y (by simp [hy]))
    unfold dropV at *
    rw [List.filter_cons]
    split
    · simp only [sumV]; omega
    · simp only [sumV]; omega
theorem Rep.viewPos {st : St} {T K : List Nat} (h : Rep st T K []) : (∀ x ∈ view st.A T, 1 ≤ x.2) ∧ (∀ x ∈ view st.A K, 1 ≤ x.2) := by
  constructor
  · intro x hx
    obtain ⟨i, hi, rfl⟩ := List.mem_map.1 hx
    exact h.sz i (by simp [hi])
  · intro x hx
    obtain ⟨i, hi, rfl⟩ := List.mem_map.1 hx
    exact h.sz i (by simp [hi])

theorem mget_view {st : St} {T K : List Nat} (h : Rep st T K []) (a : ByteArray) : mget a (view st.A T ++ view st.A K) = (mget a st.P).map fun v => sizA st.A v.toNat := by
  rw [← view_append]
  rcases h.look a with ⟨h1, h2⟩ | ⟨i, h1, h2, h3⟩
  · rw [h1, Option.map_none, mget_none]
    intro x hx
    obtain ⟨j, hj, rfl⟩ := List.mem_map.1 hx
    exact h2 j hj
  · rw [h1, Option.map_some]
    have hn : ((view st.A (T ++ K)).map (·.1)).Nodup := by
      have hnd := h.nd
      rw [List.append_nil] at hnd
      unfold view
      rw [List.map_map]
      show ((T ++ K).map fun i => keyA st.A i).Nodup
      rw [List.Nodup, List.pairwise_map]
      refine List.Pairwise.imp_of_mem ?_ hnd
      intro x y hx hy hxy e
      exact hxy (h.keys (by simpa using hx) (by simpa using hy) e)
    rw [mget_mem hn]
    exact List.mem_map.2 ⟨i, h2, by rw [h3]; simp⟩

set_option maxHeartbeats 1000000 in
theorem drop_rep (k : Env) (w : World) (R : Assn) (b : Nat) (st : St) (T K : List Nat) (a : ByteArray) (hr : Rep st T K []) (h : Sat k w (StoreR b st * R)) :
    Calls Try.prog 74 #[.pointer (some ⟨b, 0, none⟩), .string a] w fun e w' => e = .returned (.bool (mget a (view st.A T ++ view st.A K)).isSome) ∧ ∃ (st' : St) (T' K' : List Nat), Rep st' T' K' [] ∧ view st'.A T' = dropV a (view st.A T) ∧ view st'.A K' = dropV a (view st.A K) ∧
      (st'.al = st.al ∧ st'.kp = st.kp ∧ st'.mo = st.mo) ∧ Sat k w' (StoreR b st' * R) := by
  obtain ⟨aa, ac, fa, fc, m, hs⟩ := store_open h
  have c2 : w.cell? ⟨b, 2, none⟩ = some (.map (some m)) := hs.cell 2
  have hl := run_lookup_ok_sat KStr mapT zeroI hs.get4 a
  rw [plv_get] at hl
  rw [mget_view hr]
  rcases hr.look a with ⟨h1, h2⟩ | ⟨i, h1, h2, h3⟩
  · rw [h1] at hl ⊢
    simp only [Option.map_none, Option.getD_none, Option.isSome_none] at hl ⊢
    go_enter Try.func74, Try.ntmps74
    go_wp2_with (go_at_call 73; refine (sthere_any _ _ _ c2).mono ?_; rintro e w' ⟨rfl, rfl⟩)
    go_ret
    exact ⟨rfl, st, T, K, hr, (dropV_none fun j hj => h2 j (by simp [hj])).symm, (dropV_none fun j hj => h2 j (by simp [hj])).symm, ⟨rfl, rfl, rfl⟩, h⟩
  · rw [h1] at hl ⊢
    simp only [Option.map_some, Option.getD_some, Option.isSome_some] at hl ⊢
    clear h1
    go_enter Try.func74, Try.ntmps74
    go_wp2_with (go_at_call 73; refine (sthere_any _ _ _ c2).mono ?_; rintro e w' ⟨rfl, rfl⟩)
    refine (remove_rep k _ _ b st T K [] i hr h2 h).mono ?_
    rintro e w1 ⟨rfl, h4⟩
    go_wp2_with fail
    go_ret
    refine ⟨rfl, ?_⟩
    subst h3
    have hnd := hr.nd
    rw [List.append_nil] at hnd
    rw [List.nodup_append] at hnd
    obtain ⟨n1, n2, n3⟩ := hnd
    rcases List.mem_append.1 h2 with hi | hi
    · obtain ⟨T1, T2, rfl⟩ := List.append_of_mem hi
      obtain ⟨r1, r2⟩ := rep_remove0 hr
      refine ⟨_, T1 ++ T2, K, r1, ?_, ?_, removeS_par st i, h4⟩
      · rw [r2 _ (fun j hj => by simp at hj ⊢; rcases hj with h | h <;> simp [h]), view_keys hr (fun j hj => by simp at hj ⊢; rcases hj with h | h | h <;> simp [h]) n1]
      · rw [r2 _ (fun j hj => by simp [hj]), dropV_none]
        intro j hj e
        have := hr.keys (i := j) (j := i) (by simp [hj]) (by simp) e
        subst this
        exact n3 j (by simp) j hj rfl
    · obtain ⟨K1, K2, rfl⟩ := List.append_of_mem hi
      obtain ⟨r1, r2⟩ := rep_remove1 hr
      refine ⟨_, T, K1 ++ K2, r1, ?_, ?_, removeS_par st i, h4⟩
      · rw [r2 _ (fun j hj => by simp [hj]), dropV_none]
        intro j hj e
        have := hr.keys (i := j) (j := i) (by simp [hj]) (by simp) e
        subst this
        exact n3 j hj j (by simp) rfl
      · rw [r2 _ (fun j hj => by simp at hj ⊢; rcases hj with h | h <;> simp [h]), view_keys hr (fun j hj => by simp at hj ⊢; rcases hj with h | h | h <;> simp [h]) n2]

theorem drop_any (k : Env) (w : World) (R : Assn) (b : Nat) (al kp mo : Int) (t kk : List KV) (a : ByteArray) (h : Sat k w (StoreV b al kp mo t kk * R)) :
    Calls Try.prog 74 #[.pointer (some ⟨b, 0, none⟩), .string a] w fun e w' => e = .returned (.bool (mget a (t ++ kk)).isSome) ∧ Sat k w' (StoreV b al kp mo (dropV a t) (dropV a kk) * R) := by
  obtain ⟨st, T, K, hr, rfl, rfl, rfl, rfl, rfl, hk, hs⟩ := sv_open h
  refine (drop_rep k w R b st T K a hr hs).mono ?_
  rintro e w' ⟨rfl, st', T', K', hr', e1, e2, ⟨e3, e4, e5⟩, h'⟩
  refine ⟨rfl, sv_close h' hr' e1 e2 e3 e4 e5 (Int.le_trans (sumV_dropV _ _ fun x hx => ?_) hk)⟩
  have := hr.viewPos.2 x hx
  omega


theorem segment_any (keep : Bool) (w : World) : Calls Try.prog 82 #[.bool keep] w fun e w' => e = .returned (.int .i64 (if keep = true then 1 else 0)) ∧ w' = w := by
  cases keep
  · go_enter Try.func82, Try.ntmps82
    go_wp2
    go_ret
    exact ⟨rfl, rfl⟩
  · go_enter Try.func82, Try.ntmps82
    go_wp2
    go_ret
    exact ⟨rfl, rfl⟩

set_option maxRecDepth 100000 in
theorem bytes_any (k : Env) (w : World) (R : Assn) (b : Nat) (al kp mo : Int) (t kk : List KV) (keep : Bool) (h : Sat k w (StoreV b al kp mo t kk * R)) :
    Calls Try.prog 53 #[.pointer (some ⟨b, 0, none⟩), .bool keep] w fun e w' => e = .returned (.int .i64 (sumV (if keep = true then kk else t))) ∧ Sat k w' (StoreV b al kp mo t kk * R) := by
  obtain ⟨st, T, K, hr, rfl, rfl, rfl, rfl, rfl, hk, hs0⟩ := sv_open h
  obtain ⟨aa, ac, fa, fc, m, hs⟩ := store_open hs0
  have c2 : w.cell? ⟨b, 2, none⟩ = some (.map (some m)) := hs.cell 2
  have c5 : w.cell? ⟨b, 5, none⟩ = some (.int .i64 st.l0.bytes) := hs.cell 5
  have c8 : w.cell? ⟨b, 8, none⟩ = some (.int .i64 st.l1.bytes) := hs.cell 8
  have HB : Hid (sumV (view st.A T) = st.l0.bytes ∧ sumV (view st.A K) = st.l1.bytes) := ⟨by rw [sumV_view, hr.b0], by rw [sumV_view, hr.b1]⟩
  cases keep
  all_goals
    have hsg := fun (w : World) => segment_any true w
    have hsg' := fun (w : World) => segment_any false w
    simp only [if_true, Bool.false_eq_true, if_false] at hsg hsg' ⊢
    have H1 := Lib.hid hsg
    have H2 := Lib.hid hsg'
    clear hsg hsg'
    go_enter Try.func53, Try.ntmps53
    go_wp2_with (go_at_call 73; refine (sthere_any _ _ _ c2).mono ?_; rintro e w' ⟨rfl, rfl⟩)
    go_quiet ((go_at_call 82; first | exact Calls.quiet_of_same (H1.out _) | exact Calls.quiet_of_same (H2.out _)))
    go_wp2
    go_ret
  · rw [HB.out.1]; exact ⟨rfl, h.drewN _⟩
  · rw [HB.out.2]; exact ⟨rfl, h.drewN _⟩

set_option maxRecDepth 100000 in
set_option maxHeartbeats 2000000 in
theorem keys_seg (k : Env) (w : World) (R : Assn) (b : Nat) (st : St) (T K L : List Nat) (l : Lst) (keep : Bool) (hr : Rep st T K []) (hL : (keep = false ∧ L = T ∧ l = st.l0) ∨ (keep = true ∧ L = K ∧ l = st.l1)) (h : Sat k w (StoreR b st * R)) :
    Calls Try.prog 65 #[.pointer (some ⟨b, 0, none⟩), .bool keep] w fun e w' => ∃ v, e = .returned v ∧ Sat k w' (Strs v ((view st.A L).map (·.1)) * (StoreR b st * R)) := by
  obtain ⟨aa, ac, fa, fc, m, hs⟩ := store_open h
  have c2 : w.cell? ⟨b, 2, none⟩ = some (.map (some m)) := hs.cell 2
  have c3 : w.cell? ⟨b, 3, none⟩ = some (.int .i64 st.l0.first) := hs.cell 3
  have c6 : w.cell? ⟨b, 6, none⟩ = some (.int .i64 st.l1.first) := hs.cell 6
  have HS : Hid (Seg st.A (if keep = true then 1 else 0) L l) := by
    rcases hL with ⟨rfl, rfl, rfl⟩ | ⟨rfl, rfl, rfl⟩
    · exact hr.t
    · exact hr.k
  have hin : ∀ j ∈ L, j ∈ T ++ K ++ [] := by
    intro j hj
    rcases hL with ⟨_, rfl, _⟩ | ⟨_, rfl, _⟩ <;> simp [hj]
  have hlen : L.length ≤ 1073741824 := by
    have h3 := sumA_nonneg (A := st.A) (L := T ++ K ++ []) hr.sz
    have h4 := hr.tot
    have h5 := hr.pa
    simp at h3
    simp only [List.append_nil] at h4
    rcases hL with ⟨_, rfl, _⟩ | ⟨_, rfl, _⟩ <;> omega
  have H1 := Lib.hid (fun (w : World) => segment_any true w)
  have H2 := Lib.hid (fun (w : World) => segment_any false w)
  simp only [if_true, Bool.false_eq_true, if_false] at H1 H2
  have Hin := Lib.hid hin
  clear hin
  obtain ⟨z, hz⟩ : ∃ z : Int, z = l.first := ⟨_, rfl⟩
  rcases hL with ⟨rfl, rfl, rfl⟩ | ⟨rfl, rfl, rfl⟩
  all_goals
    go_enter Try.func65, Try.ntmps65
    go_wp2_with (go_at_call 73; refine (sthere_any _ _ _ c2).mono ?_; rintro e w' ⟨rfl, rfl⟩)
    go_quiet ((go_at_call 82; first | exact Calls.quiet_of_same (H1.out _) | exact Calls.quiet_of_same (H2.out _)))
    go_wp2
    go_loopg [5, 6] L.length (fun gk lv iv wr => ∃ (d r : List Nat), Hid (L = d ++ r) ∧ gk = r.length ∧ iv = .int .i64 (hdd r (-1)) ∧ Hid (∃ g p, Dl st.A g p r (-1)) ∧ Sat k wr (Strs lv ((view st.A d).map (·.1)) * (StoreR b st * R)))
    case atStart => exact ⟨[], L, rfl, rfl, by rw [HS.out.2.1], ⟨_, _, HS.out.1⟩, own_nil (h.drewN _)⟩
    case round =>
      obtain ⟨d, r, HL, rfl, hi, HD, hs3⟩ := hrel
      have hdl : d.length + r.length ≤ 1073741824 := by have := congrArg List.length HL.out; simp at this; omega
      cases r with
      | nil =>
        have hi' : u6 = .int .i64 (-1) := hi
        subst hi'
        clear hi
        have hLd : Hid (L = d) := by unfold Hid; rw [HL.out]; simp
        go_wp2_with fail
        go_ret
        exact ⟨_, rfl, by rw [hLd.out]; exact hs3⟩
      | cons i r =>
        have hi' : u6 = .int .i64 i := hi
        subst hi'
        clear hi
        obtain ⟨g1, p1, ⟨e1, he1, _, _, ho1⟩, hd2⟩ := HD.out
        obtain ⟨aa, ac, fa, fc, m, hs'⟩ := store_open hs3.swap
        obtain ⟨g, rfl⟩ := ent_addr hs'.drop he1
        obtain ⟨hgl, d0, _, _, _, d4, _⟩ := ent_cells hs'.drop he1
        have c0 : wr.cell? ⟨b, 0, none⟩ = some (.slice (some ⟨g, 0, none⟩) st.A.length ac) := hs'.cell 0
        have hil : (i : Int) < st.A.length := by have := (List.getElem?_eq_some_iff.1 he1).1; omega
        have hi0 : (0 : Int) ≤ i := by omega
        have hi1 : ((i : Int) != -1) = true := by simp
        have HKX : Hid (keyA st.A i = e1.k) := by unfold Hid keyA; simp [List.getD, he1]
        rw [ho1] at d4
        have HD2 := Lib.hid hd2
        obtain ⟨va, vc, rfl⟩ := own_val hs3
        have hl : ((view st.A d).map (·.1)).length = d.length := by simp [view]
        have hs4 : Sat k wr (Own 9 1 (.slice va d.length vc) d.length (strs ((view st.A d).map (·.1))) * (StoreR b st * R)) := by have := hs3; unfold Strs at this; rw [hl] at this; exact this
        rw [hl]
        simp only [List.length_cons] at hdl
        have hsb := hs'.lt
        have HE := Lib.hid he1
        have HO := Lib.hid ho1
        clear he1 ho1 hd2 hl
        go_wp2_with (at_builtin; refine wpList_append_sat TStrs (hs4.alloc' _) (.tmp 28) (.tmp 37) _ 1 1 [.string e1.k] rfl rfl rfl rfl rfl (fun _ => ⟨_, rfl, new_cells_at _ _ _ _ (by simp)⟩) (strs_one [e1.k]) (by simp [maxLen]; omega) (by omega) ?_; intro a3 c3 w3 h4; obtain ⟨ab, ac2, fa2, fc2, m2, hs6⟩ := store_open h4.swap; obtain ⟨g2, rfl⟩ := ent_addr hs6.drop HE.out; obtain ⟨hgl2, _, _, _, _, d42, _⟩ := ent_cells hs6.drop HE.out; have c02 : w3.cell? ⟨b, 0, none⟩ = some (.slice (some ⟨g2, 0, none⟩) st.A.length ac2) := hs6.cell 0; rw [HO.out] at d42)
        go_roundg r.length
        case measure => simp
        case rel => exact ⟨d ++ [i], r, by unfold Hid; rw [HL.out]; simp, rfl, rfl, ⟨g1, _, HD2.out⟩, by rw [view_snoc, List.map_append, HKX.out, List.map_cons, List.map_nil]; exact strs_push (by rw [show ((view st.A d).map (·.1)).length = d.length by simp [view]]; exact h4)⟩

theorem keys_any (k : Env) (w : World) (R : Assn) (b : Nat) (al kp mo : Int) (t kk : List KV) (keep : Bool) (h : Sat k w (StoreV b al kp mo t kk * R)) :
    Calls Try.prog 65 #[.pointer (some ⟨b, 0, none⟩), .bool keep] w fun e w' => ∃ v, e = .returned v ∧ Sat k w' (Strs v ((if keep = true then kk else t).map (·.1)) * (StoreV b al kp mo t kk * R)) := by
  obtain ⟨st, T, K, hr, rfl, rfl, rfl, rfl, rfl, hk, hs0⟩ := sv_open h
  cases keep
  · refine (keys_seg k w R b st T K T _ false hr (.inl ⟨rfl, rfl, rfl⟩) hs0).mono ?_
    rintro e w' ⟨v, rfl, h'⟩
    exact ⟨v, rfl, (sv_close h'.swap hr rfl rfl rfl rfl rfl hk).swap⟩
  · refine (keys_seg k w R b st T K K _ true hr (.inr ⟨rfl, rfl, rfl⟩) hs0).mono ?_
    rintro e w' ⟨v, rfl, h'⟩
    exact ⟨v, rfl, (sv_close h'.swap hr rfl rfl rfl rfl rfl hk).swap⟩

end Go.Proofs.Ytlilogcojeoelaa
