/- Contracts of package slru: Copy. -/
import Derived.Test.YtlilogcojeoelaaSlruL0
import Derived.Test.YtlilogcojeoelaaMA
namespace Go.Proofs.Ytlilogcojeoelaa
set_option linter.all false
open Go Go.RowKit

theorem mput_new {K V : Type} [DecidableEq K] {a : K} {v : V} {l : List (K × V)} (h : ∀ x ∈ l, x.1 ≠ a) : mput a v l = l ++ [(a, v)] := by
  induction l with
  | nil => rfl
  | cons x r ih => rw [mput, if_neg (h x (by simp)), ih fun y hy => h y (by simp [hy])]; rfl
theorem perm_eraseIdx {α : Type} (d l : List α) (j : Nat) (hj : j < l.length) : (d ++ [l[j]] ++ l.eraseIdx j).Perm (d ++ l) := by
  rw [List.append_assoc]
  refine List.Perm.append_left _ ?_
  induction l generalizing j with
  | nil => simp at hj
  | cons x r ih =>
    cases j with
    | zero => exact List.Perm.refl _
    | succ j => exact (List.Perm.swap _ _ _).trans ((ih j (by simpa using hj)).cons x)

theorem rep_perm {st : St} {T K X : List Nat} {P : List (ByteArray × Int)} (h : Rep st T K X) (hp : P.Perm st.P) : Rep { st with P := P } T K X :=
  { h with
    pl := fun a v => by show (a, v) ∈ P ↔ _; rw [hp.mem_iff]; exact h.pl a v
    pn := by show (P.map (·.1)).Nodup; exact (hp.map _).nodup_iff.2 h.pn }

theorem ents_one (A : List Ent) : ∀ u ∈ ents A, u.oneCell' = true := by
  intro u hu
  obtain ⟨x, _, hx⟩ := List.mem_flatMap.1 hu
  simp only [entc, List.mem_cons, List.not_mem_nil, or_false] at hx
  rcases hx with rfl | rfl | rfl | rfl | rfl <;> rfl
theorem plv_cells (va vf : Value) (m : Nat) (st : St) (P : List (ByteArray × Int)) : cellsS va vf m { st with P := P } = cellsS va vf m st := rfl

set_option maxRecDepth 100000 in
set_option maxHeartbeats 4000000 in
theorem copy_any (k : Env) (w : World) (R : Assn) (b : Nat) (al kp mo : Int) (t kk : List KV) (h : Sat k w (StoreV b al kp mo t kk * R)) :
    Calls Try.prog 63 #[.pointer (some ⟨b, 0, none⟩)] w fun e w' => ∃ c, e = .returned (.pointer (some ⟨c, 0, none⟩)) ∧ Sat k w' (StoreV c al kp mo t kk * (StoreV b al kp mo t kk * R)) := by
  obtain ⟨st, T, K, hr, ht, hk, e1, e2, e3, e4, h⟩ := sv_open h
  have HT := Lib.hid ht
  have HK := Lib.hid hk
  have HE := Lib.hid (And.intro e1 (And.intro e2 (And.intro e3 e4)))
  have hAl : (st.A.length : Int) ≤ 1073741824 := by have := hr.len; have := hr.pa; omega
  have hFl : st.F.length ≤ st.A.length := hr.flen
  have HR := Lib.hid hr
  clear ht hk e1 e2 e3 e4 hr
  obtain ⟨aa, ac, fa, fc, m, hs⟩ := store_open h
  clear h
  have hca := own_cap hs.drop
  have hcf := own_cap hs.get3
  have hbl := hs.lt
  have c0 : w.cell? ⟨b, 0, none⟩ = some (.slice aa st.A.length ac) := hs.cell 0
  have c1 : w.cell? ⟨b, 1, none⟩ = some (.slice fa st.F.length fc) := hs.cell 1
  have c2 : w.cell? ⟨b, 2, none⟩ = some (.map (some m)) := hs.cell 2
  have c3 : w.cell? ⟨b, 3, none⟩ = some (.int .i64 st.l0.first) := hs.cell 3
  have c4 : w.cell? ⟨b, 4, none⟩ = some (.int .i64 st.l0.last) := hs.cell 4
  have c5 : w.cell? ⟨b, 5, none⟩ = some (.int .i64 st.l0.bytes) := hs.cell 5
  have c6 : w.cell? ⟨b, 6, none⟩ = some (.int .i64 st.l1.first) := hs.cell 6
  have c7 : w.cell? ⟨b, 7, none⟩ = some (.int .i64 st.l1.last) := hs.cell 7
  have c8 : w.cell? ⟨b, 8, none⟩ = some (.int .i64 st.l1.bytes) := hs.cell 8
  have c9 : w.cell? ⟨b, 9, none⟩ = some (.int .i64 st.al) := hs.cell 9
  have c10 : w.cell? ⟨b, 10, none⟩ = some (.int .i64 st.kp) := hs.cell 10
  have c11 : w.cell? ⟨b, 11, none⟩ = some (.int .i64 st.mo) := hs.cell 11
  have h0 := hs.alloc (.cells (cellsS (.slice aa st.A.length ac) (.slice fa st.F.length fc) m st) 129)
  obtain ⟨c, hc⟩ : ∃ c, w.heap.size = c := ⟨_, rfl⟩
  have hcb : c ≠ b := by omega
  have hcb' : b ≠ c := by omega
  rw [hc] at h0
  have HC := Lib.hid hc
  clear hc
  have hmm := @run_makeMap Try.prog
  go_enter Try.func63, Try.ntmps63
  go_wp2_with (first | (go_at_call 73; refine (sthere_any _ _ _ c2).mono ?_; rintro e w' ⟨rfl, rfl⟩) | (at_builtin; refine wpList_append_sat TEnt (own_nil h0) (.const (.slice none 0 0)) (.tmp 15) aa st.A.length ac (ents st.A) rfl rfl rfl rfl (ents_len _) (own_src h0.get3) (ents_one _) (by unfold maxLen at *; omega) (by omega) ?_; intro a2 c2' w2 h2; rw [HC.out]; simp only [Nat.zero_add, List.nil_append] at h2; have d1 : w2.cell? ⟨b, 1, none⟩ = some (.slice fa st.F.length fc) := h2.get3.cell 1; have d0 : w2.cell? ⟨c, 0, none⟩ = some (.slice aa st.A.length ac) := h2.swap.cell 0; have f0 := h2.swap.frozen; clear c0 c1 c2 c3 c4 c5 c6 c7 c8 c9 c10 c11) | (at_builtin; refine wpList_append_sat TInts (own_nil (h2.swap.set 0 (.slice a2 st.A.length c2'))) (.const (.slice none 0 0)) (.tmp 21) fa st.F.length fc (ints st.F) rfl rfl rfl rfl (by simp [ints]) (own_src (h2.swap.set 0 (.slice a2 st.A.length c2')).get5) (ints_one _) (by unfold maxLen at *; omega) (by omega) ?_; intro a3 c3' w3 h3; simp only [Nat.zero_add, List.nil_append] at h3; have d2 : w3.cell? ⟨b, 2, none⟩ = some (.map (some m)) := h3.get4.cell 2; have d3 : w3.cell? ⟨c, 1, none⟩ = some (.slice fa st.F.length fc) := h3.swap.cell 1; have d4 : w3.cell? ⟨c, 2, none⟩ = some (.map (some m)) := h3.swap.cell 2; have f3 := h3.swap.frozen; have hz3 := h3.get4.lt; have hz4 := h3.swap.lt; clear d0 d1 f0; have h4 := (h3.swap.set 1 (.slice a3 st.F.length c3')).set 2 (.map (some w3.heap.size)); have h5 := map_made (kv := Value.string) h4; simp only [World.size_setCell] at h5; skip) | (at_range; generalize w3.heap.size = m2 at h5 ⊢; (refine wpList_range_sat rfl (.tmp 29) rfl mapT rfl (b := m) (l := plv st.P) (kv := Value.string) h5.get8 ?_); intro g w6 h6))
  go_frame
  clear d2 d3 d4 f3 hz3 hz4 h2 h3 h4 h5
  simp only [cellsS, List.setIfInBounds_toArray, List.set_cons_zero, List.set_cons_succ] at h6
  go_loopg [4, 5] st.P.length (fun gk _ _ wr => ∃ D L : List (ByteArray × Int), gk = L.length ∧ Hid ((D ++ L).Perm st.P) ∧ Sat k wr (RangeK Value.string m g (plv st.P) (plv L) * (MapK Value.string m2 (plv D) *
    (blk c (.cells (cellsS (.slice a2 st.A.length c2') (.slice a3 st.F.length c3') m2 st) 129) * (Own 3 1 (.slice a3 st.F.length c3') st.F.length (ints st.F) * (Own 134 5 (.slice a2 st.A.length c2') st.A.length (ents st.A) * (blk b (.cells (cellsS (.slice aa st.A.length ac) (.slice fa st.F.length fc) m st) 129) *
     (Own 134 5 (.slice aa st.A.length ac) st.A.length (ents st.A) * (Own 3 1 (.slice fa st.F.length fc) st.F.length (ints st.F) * R)))))))))
  case atStart => exact ⟨[], st.P, rfl, List.Perm.refl _, h6⟩
  case round =>
    obtain ⟨D, L, rfl, HP, hr⟩ := hrel
    clear h6
    have e2 : wr.cell? ⟨c, 2, none⟩ = some (.map (some m2)) := hr.get3.cell 2
    go_wp2_with (at_next; refine wpList_next_sat rfl (.tmp 30) rfl rfl hr ?_ ?_)
    · intro h0
      have hL : L = [] := by cases L with
        | nil => rfl
        | cons x r => simp [plv] at h0
      clear h0
      go_wp2
      go_ret
      subst hL
      have hp := HP.out
      rw [List.append_nil] at hp
      have h7 := range_map hr
      have h8 := store_close (st := { st with P := D }) h7.swap.get4.get5.get5 rfl rfl rfl rfl rfl rfl
      have h9 := store_close (st := st) h8.swap.get5.get5.get5 rfl rfl rfl rfl rfl rfl
      obtain ⟨e1, e2, e3, e4⟩ := HE.out
      have h10 := sv_close h9 HR.out HT.out HK.out e1 e2 e3 e4
      exact ⟨_, rfl, sv_close h10.swap (rep_perm HR.out hp) HT.out HK.out e1 e2 e3 e4⟩
    · intro j hj w1 h1 hen
      have hj' : j < L.length := by simpa [plv] using hj
      have hx : (plv L)[j] = (L[j].1, Value.int .i64 L[j].2) := by simp [plv]
      rw [hx] at hen ⊢
      have hL : (plv L).eraseIdx j = plv (L.eraseIdx j) := (map_erase _ L j).symm
      rw [hL] at h1
      have HQ := Lib.hid (perm_eraseIdx D L j hj')
      have hlen : (L.eraseIdx j).length < L.length := by rw [List.length_eraseIdx_of_lt hj']; omega
      generalize L[j] = x at *
      generalize L.eraseIdx j = L2 at *
      have e3 : w1.cell? ⟨c, 2, none⟩ = some (.map (some m2)) := h1.get3.cell 2
      clear hr e2 hx hL hj hj'
      go_wp2_with (at_mapUpdate; refine wpList_update_sat KStr mapT h1.swap x.1 (.int .i64 x.2) (.tmp 37) (.tmp 38) (.tmp 39) rfl rfl rfl rfl rfl ?_; intro w2 h2)
      go_roundg L2.length
      case measure => exact hlen
      case rel =>
        refine ⟨D ++ [x], L2, rfl, HQ.out.trans HP.out, ?_⟩
        have hnew : ∀ y ∈ D, y.1 ≠ x.1 := by
          intro y hy e
          have hn : ((D ++ [x] ++ L2).map (·.1)).Nodup := ((HQ.out.trans HP.out).map _).nodup_iff.2 HR.out.pn
          rw [List.map_append, List.nodup_append, List.map_append, List.nodup_append] at hn
          exact hn.1.2.2 _ (List.mem_map_of_mem hy) _ (by simp) e
        have hq : mput x.1 (Value.int .i64 x.2) (plv D) = plv (D ++ [x]) := by
          rw [mput_new]
          · simp [plv]
          · intro y hy
            obtain ⟨z, hz, rfl⟩ := List.mem_map.1 hy
            exact hnew z hz
        rw [hq] at h2
        exact h2.swap

end Go.Proofs.Ytlilogcojeoelaa
