/- Contracts of package cache: Get. -/
import Derived.Test.YtlilogcojeoelaaME
namespace Go.Proofs.Ytlilogcojeoelaa
set_option linter.all false
open Go Go.RowKit

set_option maxRecDepth 100000 in
set_option maxHeartbeats 4000000 in
theorem cget_none (k : Env) (w : World) (R : Assn) (b n : Nat) (c : CS) (y : Ky) (now : Int) (hv : mget y c.V = none) (h : Sat k w (CacheR b c n * R)) :
    Calls Try.prog 19 #[pq b, kyV y, .int .i64 now] w fun e w' => e = .returned (.tuple #[.string ⟨#[]⟩, .bool false]) ∧ Sat k w' (CacheR b c n * R) := by
  have h1 := h.alloc (.cells (kyc y).toArray 23)
  clear h
  simp only [kyc] at h1
  unfold kyV
  go_enter Try.func19, Try.ntmps19
  go_upto_region 1 with fail
  generalize w.alloc (.cells #[.string y.db, .string y.ro, .int .i64 y.fm, .string y.nm] 23) = w1 at *
  generalize w.heap.size = o at *
  obtain ⟨s, q, m, hs⟩ := ca_open h1.swap
  have c2 : w1.cell? ⟨b, 2, none⟩ = some (.map (some m)) := hs.cell 2
  have d0 : w1.cell? ⟨o, 0, none⟩ = some (.string y.db) := h1.cell 0
  have d1 : w1.cell? ⟨o, 1, none⟩ = some (.string y.ro) := h1.cell 1
  have d2 : w1.cell? ⟨o, 2, none⟩ = some (.int .i64 y.fm) := h1.cell 2
  have d3 : w1.cell? ⟨o, 3, none⟩ = some (.string y.nm) := h1.cell 3
  have hl := run_lookup_ok_sat KKey mapV zeroS hs.drew.get4 y
  rw [vlv_get, hv] at hl
  simp only [Option.map_none, Option.getD_none, Option.isSome_none] at hl
  unfold kyV at hl
  go_wp2_with (go_at_call 47; refine (cthere_any _ _ _ c2).mono ?_; rintro e w' ⟨rfl, rfl⟩)
  go_region_held3 (fun w' => w'.cell? ⟨b, 2, none⟩ = some (.map (some m)) ∧ w'.cell? ⟨o, 0, none⟩ = some (.string y.db) ∧ w'.cell? ⟨o, 1, none⟩ = some (.string y.ro) ∧ w'.cell? ⟨o, 2, none⟩ = some (.int .i64 y.fm) ∧ w'.cell? ⟨o, 3, none⟩ = some (.string y.nm)) (exact ⟨c2, d0, d1, d2, d3⟩) (fail)
  go_wp2_with fail
  go_ret2
  exact ⟨rfl, h1.drop.drew⟩

/-- What is told when a key is there: its deadline t has come, or not. -/
def ctouch (c : CS) (y : Ky) (sz : Int) : CS := { c with T := (touchR c.kp (textK y) sz c.T c.K).1, K := (touchR c.kp (textK y) sz c.T c.K).2.1 }

set_option maxRecDepth 100000 in
set_option maxHeartbeats 4000000 in
theorem cget_late (k : Env) (w : World) (R : Assn) (b n : Nat) (c : CS) (y : Ky) (now t : Int) (v : ByteArray) (hy1 : rightK y = true) (hy2 : tiny y) (hn : n ≤ 1000000000) (hv : mget y c.V = some v) (ht : mget (textK y) c.L = some t) (hle : t ≤ now) (h : Sat k w (CacheR b c n * R)) :
    Calls Try.prog 19 #[pq b, kyV y, .int .i64 now] w fun e w' => e = .returned (.tuple #[.string ⟨#[]⟩, .bool false]) ∧ Sat k w' (CacheR b (cdrop c y) n * R) := by
  have h1 := h.alloc (.cells (kyc y).toArray 23)
  have HT := Lib.hid (fun w' R' => text_any k w' R' y hy2)
  have HA := Lib.hid (fun w' R' q => qat_any k w' R' q n c.L (textK y))
  have HD := Lib.hid (fun w' R' => cdrop_some k w' R' b n c y v hy1 hy2 hn hv)
  rw [ht] at HA
  simp only [Option.getD_some, Option.isSome_some] at HA
  have HC : Hid (∀ {w' : World} {R' : Assn} {s q m : Nat}, Sat k w' (blk b (.cells (cellsCa s q m c.ttl) 72 (0, 0)) * (StoreV s c.al c.kp c.mo c.T c.K * (QueueV q c.L n * (MapK kyV m (vlv c.V) * R')))) → Sat k w' (CacheR b c n * R')) :=
    fun h => ca_close (c := c) h rfl rfl rfl rfl rfl rfl rfl rfl
  clear h
  generalize textK y = tx at *
  simp only [kyc] at h1
  unfold kyV at HT HD ⊢
  go_enter Try.func19, Try.ntmps19
  go_upto_region 1 with fail
  generalize w.alloc (.cells #[.string y.db, .string y.ro, .int .i64 y.fm, .string y.nm] 23) = w1 at *
  generalize w.heap.size = o at *
  obtain ⟨s, q, m, hs⟩ := ca_open h1.swap
  have c1 : w1.cell? ⟨b, 1, none⟩ = some (.pointer (some ⟨q, 0, none⟩)) := hs.cell 1
  have c2 : w1.cell? ⟨b, 2, none⟩ = some (.map (some m)) := hs.cell 2
  have d0 : w1.cell? ⟨o, 0, none⟩ = some (.string y.db) := h1.cell 0
  have d1 : w1.cell? ⟨o, 1, none⟩ = some (.string y.ro) := h1.cell 1
  have d2 : w1.cell? ⟨o, 2, none⟩ = some (.int .i64 y.fm) := h1.cell 2
  have d3 : w1.cell? ⟨o, 3, none⟩ = some (.string y.nm) := h1.cell 3
  have hl := run_lookup_ok_sat KKey mapV zeroS hs.drew.get4 y
  rw [vlv_get, hv] at hl
  simp only [Option.map_some, Option.getD_some, Option.isSome_some] at hl
  unfold kyV at hl
  go_wp2_with (go_at_call 47; refine (cthere_any _ _ _ c2).mono ?_; rintro e w' ⟨rfl, rfl⟩)
  go_region_held3 (fun w' => w'.cell? ⟨b, 2, none⟩ = some (.map (some m)) ∧ w'.cell? ⟨o, 0, none⟩ = some (.string y.db) ∧ w'.cell? ⟨o, 1, none⟩ = some (.string y.ro) ∧ w'.cell? ⟨o, 2, none⟩ = some (.int .i64 y.fm) ∧ w'.cell? ⟨o, 3, none⟩ = some (.string y.nm)) (exact ⟨c2, d0, d1, d2, d3⟩) (fail)
  replace hs := hs.drew
  generalize w1.drew = w2 at *
  clear c1 c2 d0 d1 d2 d3 hl h1
  have c1 : w2.cell? ⟨b, 1, none⟩ = some (.pointer (some ⟨q, 0, none⟩)) := hs.cell 1
  have d0 : w2.cell? ⟨o, 0, none⟩ = some (.string y.db) := hs.get5.cell 0
  have d1 : w2.cell? ⟨o, 1, none⟩ = some (.string y.ro) := hs.get5.cell 1
  have d2 : w2.cell? ⟨o, 2, none⟩ = some (.int .i64 y.fm) := hs.get5.cell 2
  have d3 : w2.cell? ⟨o, 3, none⟩ = some (.string y.nm) := hs.get5.cell 3
  go_wp2_with fail
  go_region_held3 (fun w' => w'.cell? ⟨b, 1, none⟩ = some (.pointer (some ⟨q, 0, none⟩)) ∧ w'.cell? ⟨o, 0, none⟩ = some (.string y.db) ∧ w'.cell? ⟨o, 1, none⟩ = some (.string y.ro) ∧ w'.cell? ⟨o, 2, none⟩ = some (.int .i64 y.fm) ∧ w'.cell? ⟨o, 3, none⟩ = some (.string y.nm))
    (first | exact ⟨c1, d0, d1, d2, d3⟩ | exact ⟨(g1.cell 1).trans rfl, (g1.get5.cell 0).trans rfl, (g1.get5.cell 1).trans rfl, (g1.get5.cell 2).trans rfl, (g1.get5.cell 3).trans rfl⟩ | exact ⟨(g2.swap.cell 1).trans rfl, (g2.get5.cell 0).trans rfl, (g2.get5.cell 1).trans rfl, (g2.get5.cell 2).trans rfl, (g2.get5.cell 3).trans rfl⟩ | fail)
    (first | (go_at_call 12; (with_reducible refine (HT.out _ _ hs.drew).mono ?_); rintro e w3 ⟨rfl, g1⟩) | (go_at_call 51; (with_reducible refine (HA.out _ _ q g1.get3).mono ?_); rintro e w4 ⟨rfl, g2⟩) | fail)
  have g3 := HC.out (w' := w4) (R' := blk o (.cells #[.string y.db, .string y.ro, .int .i64 y.fm, .string y.nm] 23 (0, 0)) * R) (g2.of_eq (by ac_rfl))
  have d0 : w4.cell? ⟨o, 0, none⟩ = some (.string y.db) := g3.swap.cell 0
  have d1 : w4.cell? ⟨o, 1, none⟩ = some (.string y.ro) := g3.swap.cell 1
  have d2 : w4.cell? ⟨o, 2, none⟩ = some (.int .i64 y.fm) := g3.swap.cell 2
  have d3 : w4.cell? ⟨o, 3, none⟩ = some (.string y.nm) := g3.swap.cell 3
  go_wp2_with (go_at_call 25; (with_reducible refine (HD.out w4 _ g3).mono ?_); rintro e w5 ⟨rfl, g4⟩)
  go_ret2
  exact ⟨rfl, g4.drop2⟩

set_option maxRecDepth 100000 in
set_option maxHeartbeats 4000000 in
theorem cget_some (k : Env) (w : World) (R : Assn) (b n : Nat) (c : CS) (y : Ky) (now t sz : Int) (v : ByteArray) (hy1 : rightK y = true) (hy2 : tiny y) (hv : mget y c.V = some v) (ht : mget (textK y) c.L = some t) (hle : ¬ t ≤ now) (hsz : mget (textK y) (c.T ++ c.K) = some sz) (h : Sat k w (CacheR b c n * R)) :
    Calls Try.prog 19 #[pq b, kyV y, .int .i64 now] w fun e w' => e = .returned (.tuple #[.string v, .bool true]) ∧ Sat k w' (CacheR b (ctouch c y sz) n * R) := by
  have h1 := h.alloc (.cells (kyc y).toArray 23)
  have HT := Lib.hid (fun w' R' => text_any k w' R' y hy2)
  have HA := Lib.hid (fun w' R' q => qat_any k w' R' q n c.L (textK y))
  have HTO : Hid (∀ (w' : World) (R' : Assn) (s : Nat), Sat k w' (StoreV s c.al c.kp c.mo c.T c.K * R') → Calls Try.prog 52 #[.pointer (some ⟨s, 0, none⟩), .string (textK y)] w' fun e w2 => ∃ v, e = .returned (.tuple #[v, .bool true]) ∧ Sat k w2 (Strs v (touchR c.kp (textK y) sz c.T c.K).2.2 * (StoreV s c.al c.kp c.mo (touchR c.kp (textK y) sz c.T c.K).1 (touchR c.kp (textK y) sz c.T c.K).2.1 * R'))) := by
    intro w' R' s h
    by_cases hk : c.kp < sz
    · exact touch_t k w' R' s c.al c.kp c.mo c.T c.K (textK y) sz hsz hk h
    · exact touch_k k w' R' s c.al c.kp c.mo c.T c.K (textK y) sz hsz hk h
  rw [ht] at HA
  simp only [Option.getD_some, Option.isSome_some] at HA
  have HC : Hid (∀ {w' : World} {R' : Assn} {s q m : Nat}, Sat k w' (blk b (.cells (cellsCa s q m c.ttl) 72 (0, 0)) * (StoreV s c.al c.kp c.mo (touchR c.kp (textK y) sz c.T c.K).1 (touchR c.kp (textK y) sz c.T c.K).2.1 * (QueueV q c.L n * (MapK kyV m (vlv c.V) * R')))) → Sat k w' (CacheR b (ctouch c y sz) n * R')) :=
    fun h => ca_close (c := ctouch c y sz) h rfl rfl rfl rfl rfl rfl rfl rfl
  clear h
  generalize (touchR c.kp (textK y) sz c.T c.K).1 = T2 at *
  generalize (touchR c.kp (textK y) sz c.T c.K).2.1 = K2 at *
  generalize (touchR c.kp (textK y) sz c.T c.K).2.2 = out at *
  generalize textK y = tx at *
  generalize ctouch c y sz = c2s at *
  simp only [kyc] at h1
  unfold kyV at HT ⊢
  go_enter Try.func19, Try.ntmps19
  go_upto_region 1 with fail
  generalize w.alloc (.cells #[.string y.db, .string y.ro, .int .i64 y.fm, .string y.nm] 23) = w1 at *
  generalize w.heap.size = o at *
  obtain ⟨s, q, m, hs⟩ := ca_open h1.swap
  have c1 : w1.cell? ⟨b, 1, none⟩ = some (.pointer (some ⟨q, 0, none⟩)) := hs.cell 1
  have c2 : w1.cell? ⟨b, 2, none⟩ = some (.map (some m)) := hs.cell 2
  have d0 : w1.cell? ⟨o, 0, none⟩ = some (.string y.db) := h1.cell 0
  have d1 : w1.cell? ⟨o, 1, none⟩ = some (.string y.ro) := h1.cell 1
  have d2 : w1.cell? ⟨o, 2, none⟩ = some (.int .i64 y.fm) := h1.cell 2
  have d3 : w1.cell? ⟨o, 3, none⟩ = some (.string y.nm) := h1.cell 3
  have hl := run_lookup_ok_sat KKey mapV zeroS hs.drew.get4 y
  rw [vlv_get, hv] at hl
  simp only [Option.map_some, Option.getD_some, Option.isSome_some] at hl
  unfold kyV at hl
  go_wp2_with (go_at_call 47; refine (cthere_any _ _ _ c2).mono ?_; rintro e w' ⟨rfl, rfl⟩)
  go_region_held3 (fun w' => w'.cell? ⟨b, 2, none⟩ = some (.map (some m)) ∧ w'.cell? ⟨o, 0, none⟩ = some (.string y.db) ∧ w'.cell? ⟨o, 1, none⟩ = some (.string y.ro) ∧ w'.cell? ⟨o, 2, none⟩ = some (.int .i64 y.fm) ∧ w'.cell? ⟨o, 3, none⟩ = some (.string y.nm)) (exact ⟨c2, d0, d1, d2, d3⟩) (fail)
  replace hs := hs.drew
  generalize w1.drew = w2 at *
  clear c1 c2 d0 d1 d2 d3 hl h1
  have c1 : w2.cell? ⟨b, 1, none⟩ = some (.pointer (some ⟨q, 0, none⟩)) := hs.cell 1
  have d0 : w2.cell? ⟨o, 0, none⟩ = some (.string y.db) := hs.get5.cell 0
  have d1 : w2.cell? ⟨o, 1, none⟩ = some (.string y.ro) := hs.get5.cell 1
  have d2 : w2.cell? ⟨o, 2, none⟩ = some (.int .i64 y.fm) := hs.get5.cell 2
  have d3 : w2.cell? ⟨o, 3, none⟩ = some (.string y.nm) := hs.get5.cell 3
  go_wp2_with fail
  go_region_held3 (fun w' => w'.cell? ⟨b, 1, none⟩ = some (.pointer (some ⟨q, 0, none⟩)) ∧ w'.cell? ⟨o, 0, none⟩ = some (.string y.db) ∧ w'.cell? ⟨o, 1, none⟩ = some (.string y.ro) ∧ w'.cell? ⟨o, 2, none⟩ = some (.int .i64 y.fm) ∧ w'.cell? ⟨o, 3, none⟩ = some (.string y.nm))
    (first | exact ⟨c1, d0, d1, d2, d3⟩ | exact ⟨(g1.cell 1).trans rfl, (g1.get5.cell 0).trans rfl, (g1.get5.cell 1).trans rfl, (g1.get5.cell 2).trans rfl, (g1.get5.cell 3).trans rfl⟩ | exact ⟨(g2.swap.cell 1).trans rfl, (g2.get5.cell 0).trans rfl, (g2.get5.cell 1).trans rfl, (g2.get5.cell 2).trans rfl, (g2.get5.cell 3).trans rfl⟩ | fail)
    (first | (go_at_call 12; (with_reducible refine (HT.out _ _ hs.drew).mono ?_); rintro e w3 ⟨rfl, g1⟩) | (go_at_call 51; (with_reducible refine (HA.out _ _ q g1.get3).mono ?_); rintro e w4 ⟨rfl, g2⟩) | fail)
  clear c1 d0 d1 d2 d3
  have c0 : w4.cell? ⟨b, 0, none⟩ = some (.pointer (some ⟨s, 0, none⟩)) := g2.swap.cell 0
  have d0 : w4.cell? ⟨o, 0, none⟩ = some (.string y.db) := g2.get5.cell 0
  have d1 : w4.cell? ⟨o, 1, none⟩ = some (.string y.ro) := g2.get5.cell 1
  have d2 : w4.cell? ⟨o, 2, none⟩ = some (.int .i64 y.fm) := g2.get5.cell 2
  have d3 : w4.cell? ⟨o, 3, none⟩ = some (.string y.nm) := g2.get5.cell 3
  go_wp2_with fail
  go_region_held3 (fun w' => w'.cell? ⟨b, 0, none⟩ = some (.pointer (some ⟨s, 0, none⟩)) ∧ w'.cell? ⟨o, 0, none⟩ = some (.string y.db) ∧ w'.cell? ⟨o, 1, none⟩ = some (.string y.ro) ∧ w'.cell? ⟨o, 2, none⟩ = some (.int .i64 y.fm) ∧ w'.cell? ⟨o, 3, none⟩ = some (.string y.nm))
    (first | exact ⟨c0, d0, d1, d2, d3⟩ | exact ⟨(g3.swap.cell 0).trans rfl, (g3.get5.cell 0).trans rfl, (g3.get5.cell 1).trans rfl, (g3.get5.cell 2).trans rfl, (g3.get5.cell 3).trans rfl⟩ | exact ⟨(g4.get4.cell 0).trans rfl, (g4.get6.cell 0).trans rfl, (g4.get6.cell 1).trans rfl, (g4.get6.cell 2).trans rfl, (g4.get6.cell 3).trans rfl⟩ | fail)
    (first | (go_at_call 12; (with_reducible refine (HT.out _ _ g2.drew).mono ?_); rintro e w5 ⟨rfl, g3⟩) | (go_at_call 52; (with_reducible refine (HTO.out _ _ s g3.get3).mono ?_); rintro e w6 ⟨v6, rfl, g4⟩; obtain ⟨va, vc, rfl⟩ := own_val g4) | fail)
  go_wp2_with fail
  go_ret2
  have g5 := HC.out (w' := w6) (R' := Strs (.slice va out.length vc) out * (blk o (.cells #[.string y.db, .string y.ro, .int .i64 y.fm, .string y.nm] 23 (0, 0)) * R)) (g4.of_eq (by ac_rfl))
  exact ⟨rfl, g5.drop2.drop2⟩

end Go.Proofs.Ytlilogcojeoelaa
