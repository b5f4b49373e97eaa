/- Several texts in one: CacheB, CacheC. -/
import Derived.Test.YtlilogcojeoelaaCacheA
namespace Go.Proofs.Ytlilogcojeoelaa
set_option linter.all false
open Go Go.RowKit

theorem strs_lit1 {k : Env} {w : World} {R : Assn} (x : ByteArray) (h : Sat k w R) (g : Nat) (hg : w.heap.size = g) : Sat k (w.alloc (.cells #[.string x] 9)) (Strs (.slice (some ⟨g, 0, none⟩) 1 1) [x] * R) :=
  strs_lit [x] (by simp [maxLen]) h g hg

set_option maxHeartbeats 1000000 in
theorem cnew_any (k : Env) (w : World) (R : Assn) (al kp mo ttl : Int) (h1 : 1 ≤ al) (h2 : al ≤ 1073741824) (h3 : 0 ≤ kp) (h4 : kp ≤ al) (h5 : 1 ≤ mo) (h6 : mo ≤ al) (t1 : 1 ≤ ttl) (t2 : ttl ≤ 549755813888) (h : Sat k w R) :
    Calls Try.prog 17 #[.int .i64 al, .int .i64 kp, .int .i64 mo, .int .i64 ttl] w fun e w' => ∃ b, e = .returned (.tuple #[pq b, .int .i64 0]) ∧ Sat k w' (CacheR b ⟨al, kp, mo, ttl, [], [], [], []⟩ 0 * R) := by
  have hmm := @run_makeMap Try.prog
  have C1 := Lib.hid (new_any k w R al kp mo h1 h2 h3 h4 h5 h6 h)
  have t1' : ¬ ttl < 1 := by omega
  have t2' : ¬ 549755813888 < ttl := by omega
  clear h1 h2 h3 h4 h5 h6
  go_enter Try.func17, Try.ntmps17
  go_wp2_with (first | (go_at_call 45; (with_reducible refine C1.out.mono ?_); rintro e w1 ⟨s, rfl, g1⟩) | (go_at_call 46; (with_reducible refine (qnew_any k w1 _ g1).mono ?_); rintro e w2 ⟨q, rfl, g2⟩))
  go_ret2
  refine ⟨_, rfl, ?_⟩
  have g3 := (map_made (K := Ky) (kv := kyV) g2).alloc (.cells (cellsCa s q w2.heap.size ttl) 72)
  simp only [World.size_alloc] at g3
  exact ca_close (c := ⟨al, kp, mo, ttl, [], [], [], []⟩) (l := []) (g3.of_eq (by ac_rfl)) rfl rfl rfl rfl rfl rfl rfl rfl

set_option maxHeartbeats 1000000 in
theorem cbytes_any (k : Env) (w : World) (R : Assn) (b n : Nat) (c : CS) (hs : -2305843009213693952 ≤ sumV c.T ∧ sumV c.T ≤ 2305843009213693952 ∧ -2305843009213693952 ≤ sumV c.K ∧ sumV c.K ≤ 2305843009213693952) (h : Sat k w (CacheR b c n * R)) :
    Calls Try.prog 20 #[pq b] w fun e w' => e = .returned (.int .i64 (sumV c.K + sumV c.T)) ∧ Sat k w' (CacheR b c n * R) := by
  obtain ⟨s, q, m, hs'⟩ := ca_open h
  have c0 : w.cell? ⟨b, 0, none⟩ = some (.pointer (some ⟨s, 0, none⟩)) := hs'.cell 0
  have c2 : w.cell? ⟨b, 2, none⟩ = some (.map (some m)) := hs'.cell 2
  have C1 := Lib.hid (fun w' R' => bytes_any k w' R' s c.al c.kp c.mo c.T c.K true)
  have C2 := Lib.hid (fun w' R' => bytes_any k w' R' s c.al c.kp c.mo c.T c.K false)
  simp only [if_true, Bool.false_eq_true, if_false] at C1 C2
  obtain ⟨s1, s2, s3, s4⟩ := hs
  clear h
  have HC : Hid (∀ {w' : World}, Sat k w' (blk b (.cells (cellsCa s q m c.ttl) 72 (0, 0)) * (StoreV s c.al c.kp c.mo c.T c.K * (QueueV q c.L n * (MapK kyV m (vlv c.V) * R)))) → Sat k w' (CacheR b c n * R)) := fun h => ca_close (c := c) h rfl rfl rfl rfl rfl rfl rfl rfl
  generalize sumV c.T = st at *
  generalize sumV c.K = sk at *
  have hW : IntKind.i64.wrap (sk + st) = sk + st := IntWalk.i64_in _ (by omega)
  go_enter Try.func20, Try.ntmps20
  go_wp2_with (go_at_call 47; refine (cthere_any _ _ _ c2).mono ?_; rintro e w' ⟨rfl, rfl⟩)
  go_region_held3 (fun w' => w'.cell? ⟨b, 0, none⟩ = some (.pointer (some ⟨s, 0, none⟩))) (first | exact c0 | exact (g1.swap.cell 0).trans rfl | exact (g2.swap.cell 0).trans rfl | fail) (first | (go_at_call 53; (with_reducible refine (C1.out _ _ hs'.drew.swap).mono ?_); rintro e w2 ⟨rfl, g1⟩) | (go_at_call 53; (with_reducible refine (C2.out _ _ g1).mono ?_); rintro e w3 ⟨rfl, g2⟩) | fail)
  go_wp2_with fail
  go_ret
  exact ⟨rfl, HC.out g2.swap⟩

set_option maxRecDepth 100000 in
set_option maxHeartbeats 2000000 in
theorem cdrop_some (k : Env) (w : World) (R : Assn) (b n : Nat) (c : CS) (y : Ky) (v : ByteArray) (hy1 : rightK y = true) (hy2 : tiny y) (hn : n ≤ 1000000000) (hv : mget y c.V = some v) (h : Sat k w (CacheR b c n * R)) :
    Calls Try.prog 25 #[pq b, kyV y] w fun e w' => e = .returned (.bool true) ∧ Sat k w' (CacheR b (cdrop c y) n * R) := by
  have h1 := h.alloc (.cells (kyc y).toArray 23)
  have HF := Lib.hid (fun w' R' v' => forget_any k w' R' b n c [y] v' (by simp [hy1, hy2]) hn (by simp))
  have HT := Lib.hid (fun w' R' => text_any k w' R' y hy2)
  have HX : Hid (cdrops [y] c = cdrop c y) := rfl
  clear h
  simp only [kyc] at h1
  unfold kyV
  go_enter Try.func25, Try.ntmps25
  go_upto_region 1 with fail
  generalize w.alloc (.cells #[.string y.db, .string y.ro, .int .i64 y.fm, .string y.nm] 23) = w1 at *
  generalize w.heap.size = o at *
  obtain ⟨s, q, m, hs⟩ := ca_open h1.swap
  have c2 : w1.cell? ⟨b, 2, none⟩ = some (.map (some m)) := hs.cell 2
  have d0 : w1.cell? ⟨o, 0, none⟩ = some (.string y.db) := h1.cell 0
  have d1 : w1.cell? ⟨o, 1, none⟩ = some (.string y.ro) := h1.cell 1
  have d2 : w1.cell? ⟨o, 2, none⟩ = some (.int .i64 y.fm) := h1.cell 2
  have d3 : w1.cell? ⟨o, 3, none⟩ = some (.string y.nm) := h1.cell 3
  have hl := run_lookup_ok_sat KKey mapV zeroS hs.drew.get4 y
  rw [vlv_get, hv] at hl
  simp only [Option.map_some, Option.getD_some, Option.isSome_some] at hl
  unfold kyV at hl
  go_wp2_with (go_at_call 47; refine (cthere_any _ _ _ c2).mono ?_; rintro e w' ⟨rfl, rfl⟩)
  go_region_held3 (fun w' => w'.cell? ⟨b, 2, none⟩ = some (.map (some m)) ∧ w'.cell? ⟨o, 0, none⟩ = some (.string y.db) ∧ w'.cell? ⟨o, 1, none⟩ = some (.string y.ro) ∧ w'.cell? ⟨o, 2, none⟩ = some (.int .i64 y.fm) ∧ w'.cell? ⟨o, 3, none⟩ = some (.string y.nm)) (exact ⟨c2, d0, d1, d2, d3⟩) (fail)
  have g1 := h1.drew
  generalize w1.drew = w2 at *
  clear c2 d0 d1 d2 d3 hs h1 hl
  have d0 : w2.cell? ⟨o, 0, none⟩ = some (.string y.db) := g1.cell 0
  have d1 : w2.cell? ⟨o, 1, none⟩ = some (.string y.ro) := g1.cell 1
  have d2 : w2.cell? ⟨o, 2, none⟩ = some (.int .i64 y.fm) := g1.cell 2
  have d3 : w2.cell? ⟨o, 3, none⟩ = some (.string y.nm) := g1.cell 3
  unfold kyV at HT
  go_wp2_with (first | (go_at_call 12; (with_reducible refine (HT.out w2 _ g1).mono ?_); rintro e w3 ⟨rfl, g2⟩) | (go_at_call 50; refine (HF.out _ _ _ (strs_lit1 (textK y) g2.swap _ rfl)).mono ?_; rintro e w4 ⟨v', rfl, g3⟩))
  go_ret
  exact ⟨rfl, g3.drop.drop.drop2⟩

set_option maxRecDepth 100000 in
set_option maxHeartbeats 2000000 in
theorem cdrop_none (k : Env) (w : World) (R : Assn) (b n : Nat) (c : CS) (y : Ky) (hv : mget y c.V = none) (h : Sat k w (CacheR b c n * R)) :
    Calls Try.prog 25 #[pq b, kyV y] w fun e w' => e = .returned (.bool false) ∧ Sat k w' (CacheR b c n * R) := by
  have h1 := h.alloc (.cells (kyc y).toArray 23)
  clear h
  simp only [kyc] at h1
  unfold kyV
  go_enter Try.func25, Try.ntmps25
  go_upto_region 1 with fail
  generalize w.alloc (.cells #[.string y.db, .string y.ro, .int .i64 y.fm, .string y.nm] 23) = w1 at *
  generalize w.heap.size = o at *
  obtain ⟨s, q, m, hs⟩ := ca_open h1.swap
  have c2 : w1.cell? ⟨b, 2, none⟩ = some (.map (some m)) := hs.cell 2
  have d0 : w1.cell? ⟨o, 0, none⟩ = some (.string y.db) := h1.cell 0
  have d1 : w1.cell? ⟨o, 1, none⟩ = some (.string y.ro) := h1.cell 1
  have d2 : w1.cell? ⟨o, 2, none⟩ = some (.int .i64 y.fm) := h1.cell 2
  have d3 : w1.cell? ⟨o, 3, none⟩ = some (.string y.nm) := h1.cell 3
  have hl := run_lookup_ok_sat KKey mapV zeroS hs.drew.get4 y
  rw [vlv_get, hv] at hl
  simp only [Option.map_none, Option.getD_none, Option.isSome_none] at hl
  unfold kyV at hl
  go_wp2_with (go_at_call 47; refine (cthere_any _ _ _ c2).mono ?_; rintro e w' ⟨rfl, rfl⟩)
  go_region_held3 (fun w' => w'.cell? ⟨b, 2, none⟩ = some (.map (some m)) ∧ w'.cell? ⟨o, 0, none⟩ = some (.string y.db) ∧ w'.cell? ⟨o, 1, none⟩ = some (.string y.ro) ∧ w'.cell? ⟨o, 2, none⟩ = some (.int .i64 y.fm) ∧ w'.cell? ⟨o, 3, none⟩ = some (.string y.nm)) (exact ⟨c2, d0, d1, d2, d3⟩) (fail)
  go_wp2_with fail
  go_ret
  exact ⟨rfl, h1.drop.drew⟩

end Go.Proofs.Ytlilogcojeoelaa

namespace Go.Proofs.Ytlilogcojeoelaa
set_option linter.all false
open Go Go.RowKit

set_option maxRecDepth 100000 in
set_option maxHeartbeats 2000000 in
theorem cput_arg (k : Env) (w : World) (R : Assn) (b n : Nat) (c : CS) (y : Ky) (v : ByteArray) (now : Int) (hy2 : tiny y) (ha : rightK y = false ∨ now < 0 ∨ 549755813888 < now) (h : Sat k w (CacheR b c n * R)) :
    Calls Try.prog 18 #[pq b, kyV y, .string v, .int .i64 now] w fun e w' => e = .returned (.tuple #[.slice none 0 0, .int .i64 1]) ∧ Sat k w' (CacheR b c n * R) := by
  have h1 := h.alloc (.cells (kyc y).toArray 23)
  have HR := Lib.hid (fun w' R' => right_any k w' R' y hy2)
  unfold kyV at HR
  generalize rightK y = rr at *
  have hcs : (rr = false) ∨ (rr = true ∧ now < 0) ∨ (rr = true ∧ ¬ now < 0 ∧ 549755813888 < now) := by
    cases rr
    · exact .inl rfl
    · simp at ha
      by_cases h0 : now < 0
      · exact .inr (.inl ⟨rfl, h0⟩)
      · exact .inr (.inr ⟨rfl, h0, by omega⟩)
  clear ha h
  simp only [kyc] at h1
  unfold kyV
  rcases hcs with rfl | ⟨rfl, hn0⟩ | ⟨rfl, hn0, hn1⟩
  all_goals
    go_enter Try.func18, Try.ntmps18
    go_upto_region 1 with fail
    generalize w.alloc (.cells #[.string y.db, .string y.ro, .int .i64 y.fm, .string y.nm] 23) = w1 at *
    generalize w.heap.size = o at *
    obtain ⟨s, q, m, hs⟩ := ca_open h1.swap
    have c2 : w1.cell? ⟨b, 2, none⟩ = some (.map (some m)) := hs.cell 2
    have d0 : w1.cell? ⟨o, 0, none⟩ = some (.string y.db) := h1.cell 0
    have d1 : w1.cell? ⟨o, 1, none⟩ = some (.string y.ro) := h1.cell 1
    have d2 : w1.cell? ⟨o, 2, none⟩ = some (.int .i64 y.fm) := h1.cell 2
    have d3 : w1.cell? ⟨o, 3, none⟩ = some (.string y.nm) := h1.cell 3
    go_wp2_with (first | (go_at_call 47; refine (cthere_any _ _ _ c2).mono ?_; rintro e w' ⟨rfl, rfl⟩) | (go_at_call 37; (with_reducible refine (HR.out w1 _ h1).mono ?_); rintro e w2 ⟨rfl, g1⟩))
    go_ret2
    exact ⟨rfl, g1.drop⟩

theorem sizeK_pos {y : Ky} {v : ByteArray} (h : rightK y = true) : 1 ≤ sizeK y v := by
  unfold sizeK; rw [if_pos h]; omega

set_option maxRecDepth 100000 in
set_option maxHeartbeats 4000000 in
theorem cput_big (k : Env) (w : World) (R : Assn) (b n : Nat) (c : CS) (y : Ky) (v : ByteArray) (now : Int) (hy1 : rightK y = true) (hy2 : tiny y) (hv : v.size ≤ 1000000000) (n0 : ¬ now < 0) (n1 : ¬ 549755813888 < now) (hb : c.mo < sizeK y v) (h : Sat k w (CacheR b c n * R)) :
    Calls Try.prog 18 #[pq b, kyV y, .string v, .int .i64 now] w fun e w' => e = .returned (.tuple #[.slice none 0 0, .int .i64 2]) ∧ Sat k w' (CacheR b c n * R) := by
  have h1 := h.alloc (.cells (kyc y).toArray 23)
  have HR := Lib.hid (fun w' R' => right_any k w' R' y hy2)
  have HT := Lib.hid (fun w' R' => text_any k w' R' y hy2)
  have HS := Lib.hid (fun w' R' => size_any k w' R' y v hy2 hv)
  have hp := sizeK_pos (v := v) hy1
  have hpe : putE c.mo (sizeK y v) = 2 := by unfold putE; rw [if_neg (by omega), if_pos hb]
  have HP := Lib.hid (fun w' R' s => put_bad k w' R' s c.al c.kp c.mo c.T c.K (textK y) (sizeK y v) (.inr hb))
  rw [hpe] at HP
  rw [hy1] at HR
  generalize sizeK y v = sz at *
  generalize textK y = tx at *
  clear h
  simp only [kyc] at h1
  unfold kyV at *
  go_enter Try.func18, Try.ntmps18
  go_upto_region 1 with fail
  generalize w.alloc (.cells #[.string y.db, .string y.ro, .int .i64 y.fm, .string y.nm] 23) = w1 at *
  generalize w.heap.size = o at *
  obtain ⟨s, q, m, hs⟩ := ca_open h1.swap
  have c2 : w1.cell? ⟨b, 2, none⟩ = some (.map (some m)) := hs.cell 2
  have d0 : w1.cell? ⟨o, 0, none⟩ = some (.string y.db) := h1.cell 0
  have d1 : w1.cell? ⟨o, 1, none⟩ = some (.string y.ro) := h1.cell 1
  have d2 : w1.cell? ⟨o, 2, none⟩ = some (.int .i64 y.fm) := h1.cell 2
  have d3 : w1.cell? ⟨o, 3, none⟩ = some (.string y.nm) := h1.cell 3
  have hs5 : Sat k w1 (blk o (.cells #[.string y.db, .string y.ro, .int .i64 y.fm, .string y.nm] 23 (0, 0)) * (blk b (.cells (cellsCa s q m c.ttl) 72 (0, 0)) * (StoreV s c.al c.kp c.mo c.T c.K * (QueueV q c.L n * (MapK kyV m (vlv c.V) * R))))) := hs.get5
  clear h1 hs
  go_wp2_with (first | (go_at_call 47; refine (cthere_any _ _ _ c2).mono ?_; rintro e w' ⟨rfl, rfl⟩) | (go_at_call 37; (with_reducible refine (HR.out w1 _ hs5).mono ?_); rintro e w2 ⟨rfl, g1⟩))
  clear c2 d0 d1 d2 d3 hs5
  have c0 : w2.cell? ⟨b, 0, none⟩ = some (.pointer (some ⟨s, 0, none⟩)) := g1.swap.cell 0
  have d0 : w2.cell? ⟨o, 0, none⟩ = some (.string y.db) := g1.cell 0
  have d1 : w2.cell? ⟨o, 1, none⟩ = some (.string y.ro) := g1.cell 1
  have d2 : w2.cell? ⟨o, 2, none⟩ = some (.int .i64 y.fm) := g1.cell 2
  have d3 : w2.cell? ⟨o, 3, none⟩ = some (.string y.nm) := g1.cell 3
  go_region_held3 (fun w' => w'.cell? ⟨b, 0, none⟩ = some (.pointer (some ⟨s, 0, none⟩)) ∧ w'.cell? ⟨o, 0, none⟩ = some (.string y.db) ∧ w'.cell? ⟨o, 1, none⟩ = some (.string y.ro) ∧ w'.cell? ⟨o, 2, none⟩ = some (.int .i64 y.fm) ∧ w'.cell? ⟨o, 3, none⟩ = some (.string y.nm))
    (first | exact ⟨c0, d0, d1, d2, d3⟩ | exact ⟨(g2.swap.cell 0).trans rfl, (g2.cell 0).trans rfl, (g2.cell 1).trans rfl, (g2.cell 2).trans rfl, (g2.cell 3).trans rfl⟩ | exact ⟨(g3.swap.cell 0).trans rfl, (g3.cell 0).trans rfl, (g3.cell 1).trans rfl, (g3.cell 2).trans rfl, (g3.cell 3).trans rfl⟩ | exact ⟨(g4.get3.cell 0).trans rfl, (g4.swap.cell 0).trans rfl, (g4.swap.cell 1).trans rfl, (g4.swap.cell 2).trans rfl, (g4.swap.cell 3).trans rfl⟩ | fail)
    (first | (go_at_call 12; (with_reducible refine (HT.out _ _ g1.drew).mono ?_); rintro e w3 ⟨rfl, g2⟩) | (go_at_call 15; (with_reducible refine (HS.out _ _ g2).mono ?_); rintro e w4 ⟨rfl, g3⟩) | (go_at_call 48; (with_reducible refine (HP.out _ _ _ g3.get3).mono ?_); rintro e w5 ⟨rfl, g4⟩) | fail)
  go_wp2_with fail
  go_ret2
  refine ⟨rfl, ca_close (c := c) (s := s) (q := q) (m := m) ((g4.swap.drop).swap.of_eq ?_) rfl rfl rfl rfl rfl rfl rfl rfl⟩
  rfl

end Go.Proofs.Ytlilogcojeoelaa
