/- Contracts of package cache: Copy. -/
import Derived.Test.YtlilogcojeoelaaMH
import Derived.Test.YtlilogcojeoelaaExpE
import Derived.Deep.CutBlock
import Derived.Deep.DeepCutAuto
namespace Go.Proofs.Ytlilogcojeoelaa
set_option linter.all false
open Go Go.RowKit

theorem mput_fresh {a : Ky} {v : ByteArray} {l : List (Ky × ByteArray)} (h : ∀ x ∈ l, x.1 ≠ a) : mput a v l = l ++ [(a, v)] := by
  induction l with
  | nil => rfl
  | cons x r ih =>
    rw [mput, if_neg (h x (by simp)), ih (fun y hy => h y (by simp [hy]))]; rfl

set_option maxRecDepth 100000 in
set_option maxHeartbeats 16000000 in
theorem ccopy_any (k : Env) (w : World) (R : Assn) (b n : Nat) (c : CS) (hn : n ≤ 1000000000) (h : Sat k w (CacheR b c n * R)) :
    Calls Try.prog 31 #[pq b] w fun e w' => ∃ d V', e = .returned (pq d) ∧ V'.Perm c.V ∧ Sat k w' (CacheR d { c with V := V' } n * (CacheR b c n * R)) := by
  obtain ⟨s, q, m, hs⟩ := ca_open h
  have c0 : w.cell? ⟨b, 0, none⟩ = some (pq s) := hs.cell 0
  have c1 : w.cell? ⟨b, 1, none⟩ = some (pq q) := hs.cell 1
  have c2 : w.cell? ⟨b, 2, none⟩ = some (.map (some m)) := hs.cell 2
  have c3 : w.cell? ⟨b, 3, none⟩ = some (.int .i64 c.ttl) := hs.cell 3
  have CS1 := Lib.hid (fun w' R' => copy_any k w' R' s c.al c.kp c.mo c.T c.K)
  have CQ1 := Lib.hid (fun w' R' => qcopy_any k w' R' q n c.L hn)
  have hmm := @run_makeMap Try.prog
  have hmk := mapV
  have hM := map_made (K := Ky) (kv := kyV) hs
  have hbl := hs.lt
  have n1 : w.heap.size ≠ b := by omega
  have n2 : w.heap.size + 1 ≠ b := by omega
  have HO : Hid (∀ w', Sat k w' (blk b (.cells (cellsCa s q m c.ttl) 72 (0, 0)) * (StoreV s c.al c.kp c.mo c.T c.K * (QueueV q c.L n * (MapK kyV m (vlv c.V) * R)))) → w'.cell? ⟨b, 0, none⟩ = some (pq s) ∧ w'.cell? ⟨b, 1, none⟩ = some (pq q) ∧ w'.cell? ⟨b, 2, none⟩ = some (.map (some m)) ∧ w'.cell? ⟨b, 3, none⟩ = some (.int .i64 c.ttl)) :=
    fun w' h' => ⟨h'.cell 0, h'.cell 1, h'.cell 2, h'.cell 3⟩
  clear h
  go_enter Try.func31, Try.ntmps31
  go_upto_region 3 with (go_at_call 47; refine (cthere_any _ _ _ c2).mono ?_; rintro e w' ⟨rfl, rfl⟩)
  go_cut [3] (fun v3 wx => ∃ d m2 s2 q2, v3 = pq d ∧ Sat k wx (blk d (.cells (cellsCa s2 q2 m2 c.ttl) 72 (0, 0)) * (MapK kyV m2 ([] : List (Ky × Value)) * (StoreV s2 c.al c.kp c.mo c.T c.K * (QueueV q2 c.L n * (blk b (.cells (cellsCa s q m c.ttl) 72 (0, 0)) * (StoreV s c.al c.kp c.mo c.T c.K * (QueueV q c.L n * (MapK kyV m (vlv c.V) * R)))))))))
  case first =>
    have m0 : (w.alloc (.map #[] 0)).cell? ⟨b, 0, none⟩ = some (pq s) := hM.swap.cell 0
    have m1 : (w.alloc (.map #[] 0)).cell? ⟨b, 1, none⟩ = some (pq q) := hM.swap.cell 1
    have m3 : (w.alloc (.map #[] 0)).cell? ⟨b, 3, none⟩ = some (.int .i64 c.ttl) := hM.swap.cell 3
    go_region_law (first | (go_simp; go_at_call 63; (with_reducible refine (CS1.out _ _ (by first | exact (Sat.drew hs).swap | exact (Sat.drew hM).get3)).mono ?_); rintro e w1 ⟨s2, rfl, h1⟩; have d1 : w1.cell? ⟨b, 1, none⟩ = some (pq q) := (by first | exact h1.get3.cell 1 | exact h1.get4.cell 1); have d3 : w1.cell? ⟨b, 3, none⟩ = some (.int .i64 c.ttl) := (by first | exact h1.get3.cell 3 | exact h1.get4.cell 3); have hM1 := map_made (K := Ky) (kv := kyV) h1; have d1' : (w1.alloc (.map #[] 0)).cell? ⟨b, 1, none⟩ = some (pq q) := (by first | exact hM1.get4.cell 1 | exact hM1.get5.cell 1); have d3' : (w1.alloc (.map #[] 0)).cell? ⟨b, 3, none⟩ = some (.int .i64 c.ttl) := (by first | exact hM1.get4.cell 3 | exact hM1.get5.cell 3)) | (go_simp; go_at_call 64; (with_reducible refine (CQ1.out _ _ (by first | exact h1.get4 | exact h1.get5 | exact hM1.get5)).mono ?_); rintro e w2 ⟨q2, rfl, h2⟩; have g3 : w2.cell? ⟨b, 3, none⟩ = some (.int .i64 c.ttl) := (by first | exact h2.get5.cell 3 | exact h2.get6.cell 3 | exact h2.get4.cell 3); have hM2 := map_made (K := Ky) (kv := kyV) h2; have g3' : (w2.alloc (.map #[] 0)).cell? ⟨b, 3, none⟩ = some (.int .i64 c.ttl) := (by first | exact hM2.get6.cell 3 | exact hM2.get7.cell 3 | exact hM2.get5.cell 3)) | fail)
    all_goals
      go_wp2_with fail
      go_meet
      case rel =>
        first
          | (have hf := hM2.alloc (.cells (cellsCa s2 q2 w2.heap.size c.ttl) 72); simp only [World.size_alloc] at hf; exact ⟨_, w2.heap.size, s2, q2, rfl, hf.of_eq (by ac_rfl)⟩)
          | (have hf := h2.alloc (.cells (cellsCa s2 q2 w1.heap.size c.ttl) 72); exact ⟨_, w1.heap.size, s2, q2, rfl, hf.of_eq (by ac_rfl)⟩)
          | (have hf := h2.alloc (.cells (cellsCa s2 q2 w.heap.size c.ttl) 72); exact ⟨_, w.heap.size, s2, q2, rfl, hf.of_eq (by ac_rfl)⟩)
  case rest =>
    clear c0 c1 c2 c3 CS1 CQ1 hM hbl n1 n2 HO hs
    obtain ⟨d, m2, s2, q2, rfl, hr⟩ := hcut
    have hvn : (c.V.map (·.1)).Nodup := by
      have := map_nodup hr.get8
      unfold vlv at this
      rw [List.map_map] at this
      exact this
    have HVN := Lib.hid hvn
    clear hvn
    have c2 : wc.cell? ⟨b, 2, none⟩ = some (.map (some m)) := hr.get5.cell 2
    go_wp2_with (at_range; refine wpList_range_sat rfl (.tmp 29) rfl mapV rfl (kv := kyV) (l := vlv c.V) hr.get8 ?_; intro g w5 h5)
    go_frame
    clear c2 hr
    go_loopg [4, 5] c.V.length (fun gk _ _ wr => ∃ D L' : List (Ky × ByteArray), gk = L'.length ∧ Hid ((D ++ L').Perm c.V) ∧ Sat k wr (RangeK kyV m g (vlv c.V) (vlv L') * (blk d (.cells (cellsCa s2 q2 m2 c.ttl) 72 (0, 0)) * (MapK kyV m2 (vlv D) * (StoreV s2 c.al c.kp c.mo c.T c.K * (QueueV q2 c.L n * (blk b (.cells (cellsCa s q m c.ttl) 72 (0, 0)) * (StoreV s c.al c.kp c.mo c.T c.K * (QueueV q c.L n * R)))))))))
    case atStart => exact ⟨[], c.V, rfl, List.Perm.refl _, h5⟩
    case round =>
      clear h5
      obtain ⟨D, L', rfl, HPm, hr⟩ := hrel
      go_wp2_with (at_next; refine wpList_next_sat rfl (.tmp 30) rfl rfl hr ?_ ?_)
      · intro h0
        have hL : L' = [] := by cases L' with
          | nil => rfl
          | cons x r => simp [vlv] at h0
        clear h0
        go_wp2
        go_ret
        subst hL
        have hp := HPm.out
        rw [List.append_nil] at hp
        have h6 := range_map hr
        have h7 := ca_close (c := { c with V := D }) (b := d) (n := n) (R := CacheR b c n * R) (s := s2) (q := q2) (m := m2) (cs := cellsCa s2 q2 m2 c.ttl) (al := c.al) (kp := c.kp) (mo := c.mo) (T := c.T) (K := c.K) (L := c.L) (l := vlv D) ((ca_close (c := c) (b := b) (n := n) (R := blk d (.cells (cellsCa s2 q2 m2 c.ttl) 72 (0, 0)) * (StoreV s2 c.al c.kp c.mo c.T c.K * (QueueV q2 c.L n * (MapK kyV m2 (vlv D) * R)))) (s := s) (q := q) (m := m) (cs := cellsCa s q m c.ttl) (al := c.al) (kp := c.kp) (mo := c.mo) (T := c.T) (K := c.K) (L := c.L) (l := vlv c.V) (h6.of_eq (by ac_rfl)) rfl rfl rfl rfl rfl rfl rfl rfl).of_eq (by ac_rfl)) rfl rfl rfl rfl rfl rfl rfl rfl
        first | exact ⟨_, D, rfl, hp, h7⟩ | exact ⟨_, rfl, D, hp, h7⟩
      · intro j hj w6 h6 hen
        have hj' : j < L'.length := by simpa [vlv] using hj
        have hx : (vlv L')[j] = (L'[j].1, Value.string L'[j].2) := by simp [vlv]
        rw [hx] at hen ⊢
        have hL : (vlv L').eraseIdx j = vlv (L'.eraseIdx j) := (map_erase _ L' j).symm
        rw [hL] at h6
        have HQ := Lib.hid (perm_eraseIdx D L' j hj')
        have hlen : (L'.eraseIdx j).length < L'.length := by rw [List.length_eraseIdx_of_lt hj']; omega
        generalize L'[j] = x at *
        generalize L'.eraseIdx j = L2 at *
        obtain ⟨y, v⟩ := x
        simp only at hen ⊢
        clear hr hx hL hj hj'
        unfold kyV at hen ⊢
        have h7 := h6.alloc (.cells #[.string y.db, .string y.ro, .int .i64 y.fm, .string y.nm] 23)
        go_upto_region 7 with fail
        generalize w6.alloc (.cells #[.string y.db, .string y.ro, .int .i64 y.fm, .string y.nm] 23) = w7 at *
        generalize w6.heap.size = o4 at *
        have e2 : w7.cell? ⟨d, 2, none⟩ = some (.map (some m2)) := h7.get3.cell 2
        have d0 : w7.cell? ⟨o4, 0, none⟩ = some (.string y.db) := h7.cell 0
        have d1 : w7.cell? ⟨o4, 1, none⟩ = some (.string y.ro) := h7.cell 1
        have d2 : w7.cell? ⟨o4, 2, none⟩ = some (.int .i64 y.fm) := h7.cell 2
        have d3 : w7.cell? ⟨o4, 3, none⟩ = some (.string y.nm) := h7.cell 3
        obtain ⟨w8, hrun, h8⟩ := run_update_sat (P := Try.prog) KKey mapV (Sat.drew h7).get4 y (.string v)
        unfold kyV at hrun
        go_region_held3 (fun w' => w'.cell? ⟨d, 2, none⟩ = some (.map (some m2)) ∧ w'.cell? ⟨o4, 0, none⟩ = some (.string y.db) ∧ w'.cell? ⟨o4, 1, none⟩ = some (.string y.ro) ∧ w'.cell? ⟨o4, 2, none⟩ = some (.int .i64 y.fm) ∧ w'.cell? ⟨o4, 3, none⟩ = some (.string y.nm))
          (first | exact ⟨e2, d0, d1, d2, d3⟩ | exact ⟨(h8.get4.cell 2).trans rfl, (h8.swap.cell 0).trans rfl, (h8.swap.cell 1).trans rfl, (h8.swap.cell 2).trans rfl, (h8.swap.cell 3).trans rfl⟩ | fail) (fail)
        rw [vlv_put] at h8
        go_wp2_with fail
        go_roundg L2.length
        case measure => exact hlen
        case rel =>
          refine ⟨D ++ [(y, v)], L2, rfl, HQ.out.trans HPm.out, ?_⟩
          have hnew : ∀ x ∈ D, x.1 ≠ y := by
            intro x hx e
            have hn : ((D ++ [(y, v)] ++ L2).map (·.1)).Nodup := ((HQ.out.trans HPm.out).map _).nodup_iff.2 HVN.out
            rw [List.map_append, List.nodup_append, List.map_append, List.nodup_append] at hn
            exact hn.1.2.2 _ (List.mem_map_of_mem hx) _ (by simp) e
          have hq : mput y v D = D ++ [(y, v)] := mput_fresh hnew
          rw [hq] at h8
          exact (h8.of_eq (show _ = blk o4 (.cells #[.string y.db, .string y.ro, .int .i64 y.fm, .string y.nm] 23 (0, 0)) * (RangeK kyV m g (vlv c.V) (vlv L2) * (blk d (.cells (cellsCa s2 q2 m2 c.ttl) 72 (0, 0)) * (MapK kyV m2 (vlv (D ++ [(y, v)])) * (StoreV s2 c.al c.kp c.mo c.T c.K * (QueueV q2 c.L n * (blk b (.cells (cellsCa s q m c.ttl) 72 (0, 0)) * (StoreV s c.al c.kp c.mo c.T c.K * (QueueV q c.L n * R)))))))) by ac_rfl)).drop

end Go.Proofs.Ytlilogcojeoelaa
