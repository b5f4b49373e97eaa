/- Contracts of package cache: New, Bytes, Drop. -/
import Derived.Test.YtbeidnddahglbaaCacheA
namespace Go.Proofs.Ytbeidnddahglbaa
set_option linter.all false
open Go Go.RowKit

theorem strs_lit1 {k : Env} {w : World} {R : Assn} (x : ByteArray) (h : Sat k w R) (g : Nat) (hg : w.heap.size = g) : Sat k (w.alloc (.cells #[.string x] 9)) (Strs (.slice (some ⟨g, 0, none⟩) 1 1) [x] * R) :=
  strs_lit [x] (by simp [maxLen]) h g hg

set_option maxHeartbeats 1000000 in
theorem cnew_any (k : Env) (w : World) (R : Assn) (al kp mo ttl : Int) (h1 : 1 ≤ al) (h2 : al ≤ 1073741824) (h3 : 0 ≤ kp) (h4 : kp ≤ al) (h5 : 1 ≤ mo) (h6 : mo ≤ al) (t1 : 1 ≤ ttl) (t2 : ttl ≤ 549755813888) (h : Sat k w R) :
    Calls Try.prog 21 #[.int .i64 al, .int .i64 kp, .int .i64 mo, .int .i64 ttl] w fun e w' => ∃ b, e = .returned (.tuple #[pq b, .int .i64 0]) ∧ Sat k w' (CacheR b ⟨al, kp, mo, ttl, [], [], [], []⟩ 0 * R) := by
  have hmm := @run_makeMap Try.prog
  have C1 := Lib.hid (new_any k w R al kp mo h1 h2 h3 h4 h5 h6 h)
  have t1' : ¬ ttl < 1 := by omega
  have t2' : ¬ 549755813888 < ttl := by omega
  clear h1 h2 h3 h4 h5 h6
  go_enter Try.func21, Try.ntmps21
  go_wp2_with (first | (go_at_call 43; (with_reducible refine C1.out.mono ?_); rintro e w1 ⟨s, rfl, g1⟩) | (go_at_call 44; (with_reducible refine (qnew_any k w1 _ g1).mono ?_); rintro e w2 ⟨q, rfl, g2⟩))
  go_ret2
  refine ⟨_, rfl, ?_⟩
  have g3 := (map_made (K := Ky) (kv := kyV) g2).alloc (.cells (cellsCa s q w2.heap.size ttl) 83)
  simp only [World.size_alloc] at g3
  exact ca_close (c := ⟨al, kp, mo, ttl, [], [], [], []⟩) (l := []) (g3.of_eq (by ac_rfl)) rfl rfl rfl rfl rfl rfl rfl rfl

set_option maxHeartbeats 1000000 in
theorem cbytes_any (k : Env) (w : World) (R : Assn) (b n : Nat) (c : CS) (hs : -2305843009213693952 ≤ sumV c.T ∧ sumV c.T ≤ 2305843009213693952 ∧ -2305843009213693952 ≤ sumV c.K ∧ sumV c.K ≤ 2305843009213693952) (h : Sat k w (CacheR b c n * R)) :
    Calls Try.prog 38 #[pq b] w fun e w' => e = .returned (.int .i64 (sumV c.K + sumV c.T)) ∧ Sat k w' (CacheR b c n * R) := by
  obtain ⟨s, q, m, hs'⟩ := ca_open h
  have c0 : w.cell? ⟨b, 0, none⟩ = some (.pointer (some ⟨s, 0, none⟩)) := hs'.cell 0
  have c2 : w.cell? ⟨b, 2, none⟩ = some (.map (some m)) := hs'.cell 2
  have C1 := Lib.hid (fun w' R' => bytes_any k w' R' s c.al c.kp c.mo c.T c.K true)
  have C2 := Lib.hid (fun w' R' => bytes_any k w' R' s c.al c.kp c.mo c.T c.K false)
  simp only [if_true, Bool.false_eq_true, if_false] at C1 C2
  obtain ⟨s1, s2, s3, s4⟩ := hs
  clear h
  have HC : Hid (∀ {w' : World}, Sat k w' (blk b (.cells (cellsCa s q m c.ttl) 83 (0, 0)) * (StoreV s c.al c.kp c.mo c.T c.K * (QueueV q c.L n * (MapK kyV m (vlv c.V) * R)))) → Sat k w' (CacheR b c n * R)) := fun h => ca_close (c := c) h rfl rfl rfl rfl rfl rfl rfl rfl
  generalize sumV c.T = st at *
  generalize sumV c.K = sk at *
  have hW : IntKind.i64.wrap (sk + st) = sk + st := IntWalk.i64_in _ (by omega)
  go_enter Try.func38, Try.ntmps38
  go_wp2_with (go_at_call 48; refine (cthere_any _ _ _ c2).mono ?_; rintro e w' ⟨rfl, rfl⟩)
  go_region_held3 (fun w' => w'.cell? ⟨b, 0, none⟩ = some (.pointer (some ⟨s, 0, none⟩))) (first | exact c0 | exact (g1.swap.cell 0).trans rfl | exact (g2.swap.cell 0).trans rfl | fail) (first | (go_at_call 61; (with_reducible refine (C1.out _ _ hs'.drew.swap).mono ?_); rintro e w2 ⟨rfl, g1⟩) | (go_at_call 61; (with_reducible refine (C2.out _ _ g1).mono ?_); rintro e w3 ⟨rfl, g2⟩) | fail)
  go_wp2_with fail
  go_ret
  exact ⟨rfl, HC.out g2.swap⟩

set_option maxRecDepth 100000 in
set_option maxHeartbeats 2000000 in
theorem cdrop_some (k : Env) (w : World) (R : Assn) (b n : Nat) (c : CS) (y : Ky) (v : ByteArray) (hy1 : rightK y = true) (hy2 : tiny y) (hn : n ≤ 1000000000) (hv : mget y c.V = some v) (h : Sat k w (CacheR b c n * R)) :
    Calls Try.prog 30 #[pq b, kyV y] w fun e w' => e = .returned (.bool true) ∧ Sat k w' (CacheR b (cdrop c y) n * R) := by
  have h1 := h.alloc (.cells (kyc y).toArray 30)
  have HF := Lib.hid (fun w' R' v' => forget_any k w' R' b n c [y] v' (by simp [hy1, hy2]) hn (by simp))
  have HT := Lib.hid (fun w' R' => text_any k w' R' y hy2)
  have HX : Hid (cdrops [y] c = cdrop c y) := rfl
  clear h
  simp only [kyc] at h1
  unfold kyV
  go_enter Try.func30, Try.ntmps30
  go_upto_region 1 with fail
  generalize w.alloc (.cells #[.string y.db, .string y.ro, .int .i64 y.fm, .string y.nm] 30) = w1 at *
  generalize w.heap.size = o at *
  obtain ⟨s, q, m, hs⟩ := ca_open h1.swap
  have c2 : w1.cell? ⟨b, 2, none⟩ = some (.map (some m)) := hs.cell 2
  have d0 : w1.cell? ⟨o, 0, none⟩ = some (.string y.db) := h1.cell 0
  have d1 : w1.cell? ⟨o, 1, none⟩ = some (.string y.ro) := h1.cell 1
  have d2 : w1.cell? ⟨o, 2, none⟩ = some (.int .i64 y.fm) := h1.cell 2
  have d3 : w1.cell? ⟨o, 3, none⟩ = some (.string y.nm) := h1.cell 3
  have hl := run_lookup_ok_sat KKey mapV zeroS hs.drew.get4 y
  rw [vlv_get, hv] at hl
  simp only [Option.map_some, Option.getD_some, Option.isSome_some] at hl
  unfold kyV at hl
  go_wp2_with (go_at_call 48; refine (cthere_any _ _ _ c2).mono ?_; rintro e w' ⟨rfl, rfl⟩)
  go_region_held3 (fun w' => w'.cell? ⟨b, 2, none⟩ = some (.map (some m)) ∧ w'.cell? ⟨o, 0, none⟩ = some (.string y.db) ∧ w'.cell? ⟨o, 1, none⟩ = some (.string y.ro) ∧ w'.cell? ⟨o, 2, none⟩ = some (.int .i64 y.fm) ∧ w'.cell? ⟨o, 3, none⟩ = some (.string y.nm)) (exact ⟨c2, d0, d1, d2, d3⟩) (fail)
  have g1 := h1.drew
  generalize w1.drew = w2 at *
  clear c2 d0 d1 d2 d3 hs h1 hl
  have d0 : w2.cell? ⟨o, 0, none⟩ = some (.string y.db) := g1.cell 0
  have d1 : w2.cell? ⟨o, 1, none⟩ = some (.string y.ro) := g1.cell 1
  have d2 : w2.cell? ⟨o, 2, none⟩ = some (.int .i64 y.fm) := g1.cell 2
  have d3 : w2.cell? ⟨o, 3, none⟩ = some (.string y.nm) := g1.cell 3
  unfold kyV at HT
  go_wp2_with (first | (go_at_call 51; (with_reducible refine (HT.out w2 _ g1).mono ?_); rintro e w3 ⟨rfl, g2⟩) | (go_at_call 54; refine (HF.out _ _ _ (strs_lit1 (textK y) g2.swap _ rfl)).mono ?_; rintro e w4 ⟨v', rfl, g3⟩))
  go_ret
  exact ⟨rfl, g3.drop.drop.drop2⟩

set_option maxRecDepth 100000 in
set_option maxHeartbeats 2000000 in
theorem cdrop_none (k : Env) (w : World) (R : Assn) (b n : Nat) (c : CS) (y : Ky) (hv : mget y c.V = none) (h : Sat k w (CacheR b c n * R)) :
    Calls Try.prog 30 #[pq b, kyV y] w fun e w' => e = .returned (.bool false) ∧ Sat k w' (CacheR b c n * R) := by
  have h1 := h.alloc (.cells (kyc y).toArray 30)
  clear h
  simp only [kyc] at h1
  unfold kyV
  go_enter Try.func30, Try.ntmps30
  go_upto_region 1 with fail
  generalize w.alloc (.cells #[.string y.db, .string y.ro, .int .i64 y.fm, .string y.nm] 30) = w1 at *
  generalize w.heap.size = o at *
  obtain ⟨s, q, m, hs⟩ := ca_open h1.swap
  have c2 : w1.cell? ⟨b, 2, none⟩ = some (.map (some m)) := hs.cell 2
  have d0 : w1.cell? ⟨o, 0, none⟩ = some (.string y.db) := h1.cell 0
  have d1 : w1.cell? ⟨o, 1, none⟩ = some (.string y.ro) := h1.cell 1
  have d2 : w1.cell? ⟨o, 2, none⟩ = some (.int .i64 y.fm) := h1.cell 2
  have d3 : w1.cell? ⟨o, 3, none⟩ = some (.string y.nm) := h1.cell 3
  have hl := run_lookup_ok_sat KKey mapV zeroS hs.drew.get4 y
  rw [vlv_get, hv] at hl
  simp only [Option.map_none, Option.getD_none, Option.isSome_none] at hl
  unfold kyV at hl
  go_wp2_with (go_at_call 48; refine (cthere_any _ _ _ c2).mono ?_; rintro e w' ⟨rfl, rfl⟩)
  go_region_held3 (fun w' => w'.cell? ⟨b, 2, none⟩ = some (.map (some m)) ∧ w'.cell? ⟨o, 0, none⟩ = some (.string y.db) ∧ w'.cell? ⟨o, 1, none⟩ = some (.string y.ro) ∧ w'.cell? ⟨o, 2, none⟩ = some (.int .i64 y.fm) ∧ w'.cell? ⟨o, 3, none⟩ = some (.string y.nm)) (exact ⟨c2, d0, d1, d2, d3⟩) (fail)
  go_wp2_with fail
  go_ret
  exact ⟨rfl, h1.drop.drew⟩

end Go.Proofs.Ytbeidnddahglbaa
