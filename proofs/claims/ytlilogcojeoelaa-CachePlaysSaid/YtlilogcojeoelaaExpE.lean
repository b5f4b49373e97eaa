/- Contracts of package expiry: Copy. -/
import Derived.Test.YtlilogcojeoelaaExpD
import Derived.Test.YtlilogcojeoelaaSlruCp
import Derived.Test.YtlilogcojeoelaaMA
namespace Go.Proofs.Ytlilogcojeoelaa
set_option linter.all false
open Go Go.RowKit

theorem qnew_raw (k : Env) (w : World) (R : Assn) (h : Sat k w R) :
    Calls Try.prog 46 #[] w fun e w' => ∃ b m, e = .returned (pq b) ∧ Sat k w' (blk b (.cells (cellsQ (.slice none 0 0) m 0) 132 (0, 0)) * (MapK Value.string m ([] : List (ByteArray × Value)) * R)) := by
  have hmm := @run_makeMap Try.prog
  go_enter Try.func46, Try.ntmps46
  go_wp2_with fail
  go_ret
  have h1 := map_made (K := ByteArray) (kv := Value.string) h
  have h2 := h1.alloc (.cells (cellsQ (.slice none 0 0) w.heap.size 0) 132)
  simp only [World.size_alloc] at h2
  exact ⟨_, _, rfl, h2⟩

theorem plok_perm {H : List It} {P D : List (ByteArray × Int)} (h : PlOK H P) (hp : D.Perm P) (hn : (P.map (·.1)).Nodup) : PlOK H D := by
  intro a v
  rw [← h a v, mget_mem hn, mget_mem ((hp.map _).nodup_iff.2 hn), hp.mem_iff]

set_option maxRecDepth 100000 in
set_option maxHeartbeats 4000000 in
theorem qcopy_any (k : Env) (w : World) (R : Assn) (b n : Nat) (L : List KA) (hn : n ≤ 1000000000) (h : Sat k w (QueueV b L n * R)) :
    Calls Try.prog 64 #[pq b] w fun e w' => ∃ c, e = .returned (pq c) ∧ Sat k w' (QueueV c L n * (QueueV b L n * R)) := by
  obtain ⟨H, s, hi, hs, hr⟩ := qv_open h
  obtain ⟨P, hp, hc⟩ := queue_open hr
  obtain ⟨aa, ca, m, hm⟩ := qc_open hc
  have hpn : (P.map (·.1)).Nodup := by
    have := map_nodup hm.get3
    unfold plv at this
    rw [List.map_map] at this
    exact this
  have hln := hi.ln
  have hlen : (H.length : Int) ≤ 1000000000 := by omega
  have c1 : w.cell? ⟨b, 1, none⟩ = some (.map (some m)) := hm.cell 1
  have C1 := Lib.hid (qnew_raw k w _ hm)
  have HI := Lib.hid hi
  have HP := Lib.hid hp
  have HPN := Lib.hid hpn
  clear h hc hr hi hp hpn hm
  go_enter Try.func64, Try.ntmps64
  go_upto_region 4 with (first | (go_at_call 78; refine (qthere_any _ _ _ c1).mono ?_; rintro e w' ⟨rfl, rfl⟩) | (go_at_call 46; (with_reducible refine C1.out.mono ?_); rintro e w1 ⟨c, m2, rfl, h1⟩))
  clear c1 C1
  have c2 : w1.cell? ⟨b, 2, none⟩ = some (.int .i64 s) := h1.get3.cell 2
  have e2 : w1.cell? ⟨c, 2, none⟩ = some (.int .i64 0) := h1.cell 2
  have f2 := h1.frozen 2
  have h2 := h1.set 2 (.int .i64 s)
  go_upto_region 5 with fail
  generalize w1.setCell ⟨c, 2, none⟩ (.int .i64 s) = w2 at *
  clear c2 e2 f2 h1
  have c0 : w2.cell? ⟨b, 0, none⟩ = some (.slice aa H.length ca) := h2.get3.cell 0
  have e0 : w2.cell? ⟨c, 0, none⟩ = some (.slice none 0 0) := h2.cell 0
  have hcap := own_cap h2.get4
  have HN : Hid (0 < H.length → ∃ ad', aa = some ad' ∧ ∀ j u, (EIt.recs H)[j]? = some u → w2.drew.cell? (ad'.add j) = some u) := by
    intro hpz
    obtain ⟨g, rfl, _, hc, _⟩ := own_get h2.get4 hpz
    refine ⟨_, rfl, fun j u hu => ?_⟩
    have hj := (List.getElem?_eq_some_iff.1 hu).1
    have hl3 : (EIt.recs H).length = H.length * 3 := EIt.recs_len H
    rw [Addr.add_lit, Nat.zero_add]
    exact (hc j (by omega)).trans hu
  go_region_law (refine step_append_sat TIt (own_nil h2.drew) (.tmp 21) (.tmp 25) aa H.length ca (EIt.recs H) rfl rfl (by simp [Act.eval, Act.put]) (by simp [Act.eval, Act.put]) (EIt.recs_len H) HN.out (EIt.recs_ones H) (by simp [maxLen]; omega) (by omega) ?_; intro a3 c3 w3 h3; simp only [Nat.zero_add, List.nil_append] at h3; have e0' : w3.cell? ⟨c, 0, none⟩ = some (.slice none 0 0) := h3.swap.cell 0; have f0' := h3.swap.frozen 0)
  all_goals
    have h4 := h3.swap.set 0 (.slice a3 H.length c3)
    generalize w3.setCell ⟨c, 0, none⟩ (.slice a3 H.length c3) = w4 at *
    clear c0 e0 e0' f0' h3 HN h2
    simp only [cellsQ, List.setIfInBounds_toArray, List.set_cons_zero, List.set_cons_succ] at h4
    have c1 : w4.cell? ⟨b, 1, none⟩ = some (.map (some m)) := h4.get4.cell 1
    go_wp2_with (at_range; refine wpList_range_sat rfl (.tmp 32) rfl mapT rfl (kv := Value.string) (l := plv P) h4.get6 ?_; intro g w5 h5)
    go_frame
    clear c1 h4
    go_loopg [4, 5] P.length (fun gk _ _ wr => ∃ D L' : List (ByteArray × Int), gk = L'.length ∧ Hid ((D ++ L').Perm P) ∧ Sat k wr (RangeK Value.string m g (plv P) (plv L') * (blk c (.cells #[.slice a3 H.length c3, .map (some m2), .int .i64 s] 132 (0, 0)) * (Own 137 3 (.slice a3 H.length c3) H.length (EIt.recs H) * (MapK Value.string m2 (plv D) * (blk b (.cells #[.slice aa H.length ca, .map (some m), .int .i64 s] 132 (0, 0)) * (Own 137 3 (.slice aa H.length ca) H.length (EIt.recs H) * R)))))))
    case atStart => exact ⟨[], P, rfl, List.Perm.refl _, h5⟩
    case round =>
      clear h5
      obtain ⟨D, L', rfl, HPm, hr⟩ := hrel
      have e1 : wr.cell? ⟨c, 1, none⟩ = some (.map (some m2)) := hr.swap.cell 1
      go_wp2_with (at_next; refine wpList_next_sat rfl (.tmp 33) rfl rfl hr ?_ ?_)
      · intro h0
        have hL : L' = [] := by cases L' with
          | nil => rfl
          | cons x r => simp [plv] at h0
        clear h0
        go_wp2
        go_ret
        subst hL
        have hp := HPm.out
        rw [List.append_nil] at hp
        have h6 := range_map hr
        have h7 : Sat k wr (blk c (.cells (cellsQ (.slice a3 H.length c3) m2 s) 132 (0, 0)) * (Own 137 3 (.slice a3 H.length c3) H.length (EIt.recs H) * (MapK Value.string m2 (plv D) * (blk b (.cells (cellsQ (.slice aa H.length ca) m s) 132 (0, 0)) * (Own 137 3 (.slice aa H.length ca) H.length (EIt.recs H) * (MapK Value.string m (plv P) * R)))))) := h6.of_eq (by unfold cellsQ; ac_rfl)
        have h8 := qv_close (L := L) (n := n) (queue_close (qc_close h7 rfl rfl rfl rfl) (plok_perm HP.out hp HPN.out)) HI.out hs
        have h9 := qv_close (L := L) (n := n) (queue_close (qc_close (h8.of_eq (show _ = blk b (.cells (cellsQ (.slice aa H.length ca) m s) 132 (0, 0)) * (Own 137 3 (.slice aa H.length ca) H.length (EIt.recs H) * (MapK Value.string m (plv P) * (QueueV c L n * R))) by ac_rfl)) rfl rfl rfl rfl) HP.out) HI.out hs
        exact ⟨_, rfl, h9.swap⟩
      · intro j hj w6 h6 hen
        have hj' : j < L'.length := by simpa [plv] using hj
        have hx : (plv L')[j] = (L'[j].1, Value.int .i64 L'[j].2) := by simp [plv]
        rw [hx] at hen ⊢
        have hL : (plv L').eraseIdx j = plv (L'.eraseIdx j) := (map_erase _ L' j).symm
        rw [hL] at h6
        have HQ := Lib.hid (perm_eraseIdx D L' j hj')
        have hlen : (L'.eraseIdx j).length < L'.length := by rw [List.length_eraseIdx_of_lt hj']; omega
        generalize L'[j] = x at *
        generalize L'.eraseIdx j = L2 at *
        have e3 : w6.cell? ⟨c, 1, none⟩ = some (.map (some m2)) := h6.swap.cell 1
        clear hr e1 hx hL hj hj'
        go_wp2_with (at_mapUpdate; refine wpList_update_sat KStr mapT h6.get4 x.1 (.int .i64 x.2) (.tmp 42) (.tmp 43) (.tmp 44) rfl rfl rfl rfl rfl ?_; intro w7 h7)
        go_roundg L2.length
        case measure => exact hlen
        case rel =>
          refine ⟨D ++ [x], L2, rfl, HQ.out.trans HPm.out, ?_⟩
          have hnew : ∀ y ∈ D, y.1 ≠ x.1 := by
            intro y hy e
            have hn : ((D ++ [x] ++ L2).map (·.1)).Nodup := ((HQ.out.trans HPm.out).map _).nodup_iff.2 HPN.out
            rw [List.map_append, List.nodup_append, List.map_append, List.nodup_append] at hn
            exact hn.1.2.2 _ (List.mem_map_of_mem hy) _ (by simp) e
          have hq : mput x.1 (Value.int .i64 x.2) (plv D) = plv (D ++ [x]) := by
            rw [mput_new]
            · simp [plv]
            · intro y hy
              obtain ⟨z, hz, rfl⟩ := List.mem_map.1 hy
              exact hnew z hz
          rw [hq] at h7
          exact h7.put4

end Go.Proofs.Ytlilogcojeoelaa
