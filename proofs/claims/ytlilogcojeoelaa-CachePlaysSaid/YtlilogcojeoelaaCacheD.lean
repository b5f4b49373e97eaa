/- Contracts of package cache: Put, where it fits. -/
import Derived.Test.YtlilogcojeoelaaME
namespace Go.Proofs.Ytlilogcojeoelaa
set_option linter.all false
open Go Go.RowKit

def cputS (c : CS) (y : Ky) (v : ByteArray) (now : Int) : CS :=
  { c with T := (textK y, sizeK y v) :: (roomR c.al (textK y) (sizeK y v) c.T c.K).1, K := (roomR c.al (textK y) (sizeK y v) c.T c.K).2.1, L := qset (textK y) (now + c.ttl) c.L, V := mput y v c.V }
def cgone (c : CS) (y : Ky) (v : ByteArray) : List ByteArray := (roomR c.al (textK y) (sizeK y v) c.T c.K).2.2

set_option maxRecDepth 100000 in
set_option maxHeartbeats 4000000 in
theorem cput_ok (k : Env) (w : World) (R : Assn) (b n : Nat) (c : CS) (y : Ky) (v : ByteArray) (now : Int) (ys : List Ky) (hy1 : rightK y = true) (hy2 : tiny y) (hv : v.size ≤ 1000000000) (n0 : ¬ now < 0) (n1 : ¬ 549755813888 < now)
    (hb : sizeK y v ≤ c.mo) (ht1 : 1 ≤ c.ttl) (ht2 : c.ttl ≤ 549755813888) (hn : n + 1 ≤ 1000000000) (hg : cgone c y v = ys.map textK) (hys : ∀ x ∈ ys, rightK x = true ∧ tiny x) (hyl : (ys.length : Int) ≤ 1073741824) (h : Sat k w (CacheR b c n * R)) :
    Calls Try.prog 18 #[pq b, kyV y, .string v, .int .i64 now] w fun e w' => ∃ v', e = .returned (.tuple #[v', .int .i64 0]) ∧ Sat k w' (Kys v' ys * (CacheR b (cdrops ys (cputS c y v now)) (n + 1) * R)) := by
  have h1 := h.alloc (.cells (kyc y).toArray 23)
  have HR := Lib.hid (fun w' R' => right_any k w' R' y hy2)
  have HT := Lib.hid (fun w' R' => text_any k w' R' y hy2)
  have HS := Lib.hid (fun w' R' => size_any k w' R' y v hy2 hv)
  have hp := sizeK_pos (v := v) hy1
  have HP := Lib.hid (fun w' R' s => put_ok k w' R' s c.al c.kp c.mo c.T c.K (textK y) (sizeK y v) hp hb)
  have HQ := Lib.hid (fun w' R' q => qset_any k w' R' q n c.L (textK y) (now + c.ttl) (by omega) (by omega) (by omega))
  have HF := Lib.hid (fun w' R' v' => forget_any k w' R' b (n + 1) (cputS c y v now) ys v' hys (by omega) hyl)
  have HU := Lib.hid (fun w' R' m h' => run_update_sat (P := Try.prog) KKey mapV (R := R') (w := w') (k := k) (b := m) (l := vlv c.V) h' y (.string v))
  have hw : IntKind.i64.wrap (now + c.ttl) = now + c.ttl := IntWalk.i64_in _ (by omega)
  rw [hy1] at HR
  unfold cgone at hg
  rw [← hg] at HF
  have HC : Hid (∀ {w' : World} {R' : Assn} {s q m : Nat}, Sat k w' (blk b (.cells (cellsCa s q m c.ttl) 72 (0, 0)) * (StoreV s c.al c.kp c.mo ((textK y, sizeK y v) :: (roomR c.al (textK y) (sizeK y v) c.T c.K).1) (roomR c.al (textK y) (sizeK y v) c.T c.K).2.1 * (QueueV q (qset (textK y) (now + c.ttl) c.L) (n + 1) * (MapK kyV m (vlv (mput y v c.V)) * R')))) → Sat k w' (CacheR b (cputS c y v now) (n + 1) * R')) :=
    fun h => ca_close (c := cputS c y v now) h rfl rfl rfl rfl rfl rfl rfl rfl
  generalize (roomR c.al (textK y) (sizeK y v) c.T c.K).2.2 = gone at *
  generalize (roomR c.al (textK y) (sizeK y v) c.T c.K).2.1 = K2 at *
  generalize (textK y, sizeK y v) :: (roomR c.al (textK y) (sizeK y v) c.T c.K).1 = T2 at *
  generalize sizeK y v = sz at *
  generalize qset (textK y) (now + c.ttl) c.L = L2 at *
  generalize textK y = tx at *
  generalize cputS c y v now = c2s at *
  clear h hg hys hyl
  simp only [kyc] at h1
  unfold kyV at HR HT HS ⊢
  go_enter Try.func18, Try.ntmps18
  go_upto_region 1 with fail
  generalize w.alloc (.cells #[.string y.db, .string y.ro, .int .i64 y.fm, .string y.nm] 23) = w1 at *
  generalize w.heap.size = o at *
  obtain ⟨s, q, m, hs⟩ := ca_open h1.swap
  have c2 : w1.cell? ⟨b, 2, none⟩ = some (.map (some m)) := hs.cell 2
  have d0 : w1.cell? ⟨o, 0, none⟩ = some (.string y.db) := h1.cell 0
  have d1 : w1.cell? ⟨o, 1, none⟩ = some (.string y.ro) := h1.cell 1
  have d2 : w1.cell? ⟨o, 2, none⟩ = some (.int .i64 y.fm) := h1.cell 2
  have d3 : w1.cell? ⟨o, 3, none⟩ = some (.string y.nm) := h1.cell 3
  have hs5 : Sat k w1 (blk o (.cells #[.string y.db, .string y.ro, .int .i64 y.fm, .string y.nm] 23 (0, 0)) * (blk b (.cells (cellsCa s q m c.ttl) 72 (0, 0)) * (StoreV s c.al c.kp c.mo c.T c.K * (QueueV q c.L n * (MapK kyV m (vlv c.V) * R))))) := hs.get5
  clear h1 hs
  go_wp2_with (first | (go_at_call 47; refine (cthere_any _ _ _ c2).mono ?_; rintro e w' ⟨rfl, rfl⟩) | (go_at_call 37; (with_reducible refine (HR.out w1 _ hs5).mono ?_); rintro e w2 ⟨rfl, g1⟩))
  clear c2 d0 d1 d2 d3 hs5 HR
  have c0 : w2.cell? ⟨b, 0, none⟩ = some (.pointer (some ⟨s, 0, none⟩)) := g1.swap.cell 0
  have d0 : w2.cell? ⟨o, 0, none⟩ = some (.string y.db) := g1.cell 0
  have d1 : w2.cell? ⟨o, 1, none⟩ = some (.string y.ro) := g1.cell 1
  have d2 : w2.cell? ⟨o, 2, none⟩ = some (.int .i64 y.fm) := g1.cell 2
  have d3 : w2.cell? ⟨o, 3, none⟩ = some (.string y.nm) := g1.cell 3
  go_region_held3 (fun w' => w'.cell? ⟨b, 0, none⟩ = some (.pointer (some ⟨s, 0, none⟩)) ∧ w'.cell? ⟨o, 0, none⟩ = some (.string y.db) ∧ w'.cell? ⟨o, 1, none⟩ = some (.string y.ro) ∧ w'.cell? ⟨o, 2, none⟩ = some (.int .i64 y.fm) ∧ w'.cell? ⟨o, 3, none⟩ = some (.string y.nm))
    (first | exact ⟨c0, d0, d1, d2, d3⟩ | exact ⟨(g2.swap.cell 0).trans rfl, (g2.cell 0).trans rfl, (g2.cell 1).trans rfl, (g2.cell 2).trans rfl, (g2.cell 3).trans rfl⟩ | exact ⟨(g3.swap.cell 0).trans rfl, (g3.cell 0).trans rfl, (g3.cell 1).trans rfl, (g3.cell 2).trans rfl, (g3.cell 3).trans rfl⟩ | exact ⟨(g4.get4.cell 0).trans rfl, (g4.get3.cell 0).trans rfl, (g4.get3.cell 1).trans rfl, (g4.get3.cell 2).trans rfl, (g4.get3.cell 3).trans rfl⟩ | fail)
    (first | (go_at_call 12; (with_reducible refine (HT.out _ _ g1.drew).mono ?_); rintro e w3 ⟨rfl, g2⟩) | (go_at_call 15; (with_reducible refine (HS.out _ _ g2).mono ?_); rintro e w4 ⟨rfl, g3⟩) | (go_at_call 48; (with_reducible refine (HP.out _ _ _ g3.get3).mono ?_); rintro e w5 ⟨v5, rfl, g4⟩; obtain ⟨va, vc, rfl⟩ := own_val g4) | fail)
  clear c0 d0 d1 d2 d3 g1 g2 g3 HP HS
  have c2 : w5.cell? ⟨b, 2, none⟩ = some (.map (some m)) := g4.get4.cell 2
  have d0 : w5.cell? ⟨o, 0, none⟩ = some (.string y.db) := g4.get3.cell 0
  have d1 : w5.cell? ⟨o, 1, none⟩ = some (.string y.ro) := g4.get3.cell 1
  have d2 : w5.cell? ⟨o, 2, none⟩ = some (.int .i64 y.fm) := g4.get3.cell 2
  have d3 : w5.cell? ⟨o, 3, none⟩ = some (.string y.nm) := g4.get3.cell 3
  obtain ⟨w6, hrun, g5⟩ := HU.out w5.drew _ m g4.drew.get6
  rw [vlv_put] at g5
  unfold kyV at hrun
  go_wp2_with fail
  go_region_held3 (fun w' => w'.cell? ⟨b, 2, none⟩ = some (.map (some m)) ∧ w'.cell? ⟨o, 0, none⟩ = some (.string y.db) ∧ w'.cell? ⟨o, 1, none⟩ = some (.string y.ro) ∧ w'.cell? ⟨o, 2, none⟩ = some (.int .i64 y.fm) ∧ w'.cell? ⟨o, 3, none⟩ = some (.string y.nm))
    (first | exact ⟨c2, d0, d1, d2, d3⟩ | exact ⟨(g5.get5.cell 2).trans rfl, (g5.get4.cell 0).trans rfl, (g5.get4.cell 1).trans rfl, (g5.get4.cell 2).trans rfl, (g5.get4.cell 3).trans rfl⟩ | fail) (fail)
  clear c2 d0 d1 d2 d3 hrun HU
  have c1 : w6.cell? ⟨b, 1, none⟩ = some (.pointer (some ⟨q, 0, none⟩)) := g5.get5.cell 1
  have c3 : w6.cell? ⟨b, 3, none⟩ = some (.int .i64 c.ttl) := g5.get5.cell 3
  have d0 : w6.cell? ⟨o, 0, none⟩ = some (.string y.db) := g5.get4.cell 0
  have d1 : w6.cell? ⟨o, 1, none⟩ = some (.string y.ro) := g5.get4.cell 1
  have d2 : w6.cell? ⟨o, 2, none⟩ = some (.int .i64 y.fm) := g5.get4.cell 2
  have d3 : w6.cell? ⟨o, 3, none⟩ = some (.string y.nm) := g5.get4.cell 3
  go_wp2_with fail
  go_region_held3 (fun w' => w'.cell? ⟨b, 1, none⟩ = some (.pointer (some ⟨q, 0, none⟩)) ∧ w'.cell? ⟨b, 3, none⟩ = some (.int .i64 c.ttl) ∧ w'.cell? ⟨o, 0, none⟩ = some (.string y.db) ∧ w'.cell? ⟨o, 1, none⟩ = some (.string y.ro) ∧ w'.cell? ⟨o, 2, none⟩ = some (.int .i64 y.fm) ∧ w'.cell? ⟨o, 3, none⟩ = some (.string y.nm))
    (first | exact ⟨c1, c3, d0, d1, d2, d3⟩ | exact ⟨(g6.get5.cell 1).trans rfl, (g6.get5.cell 3).trans rfl, (g6.get4.cell 0).trans rfl, (g6.get4.cell 1).trans rfl, (g6.get4.cell 2).trans rfl, (g6.get4.cell 3).trans rfl⟩ | exact ⟨(g7.get6.cell 1).trans rfl, (g7.get6.cell 3).trans rfl, (g7.get5.cell 0).trans rfl, (g7.get5.cell 1).trans rfl, (g7.get5.cell 2).trans rfl, (g7.get5.cell 3).trans rfl⟩ | fail)
    (first | (go_at_call 12; (with_reducible refine (HT.out _ _ g5.drew).mono ?_); rintro e w7 ⟨rfl, g6⟩) | (go_at_call 49; (with_reducible refine (HQ.out _ _ q g6.get6).mono ?_); rintro e w8 ⟨rfl, g7⟩) | fail)
  have g8 := HC.out (w' := w8) (R' := blk o (.cells #[.string y.db, .string y.ro, .int .i64 y.fm, .string y.nm] 23 (0, 0)) * (Strs (.slice va gone.length vc) gone * R)) (g7.of_eq (by ac_rfl))
  clear c1 c3 d0 d1 d2 d3 g6 g7 g5 g4
  go_wp2_with (go_at_call 50; (with_reducible refine (HF.out w8 _ _ (g8.of_eq (show _ = Strs (.slice va gone.length vc) gone * (CacheR b c2s (n + 1) * (blk o (.cells #[.string y.db, .string y.ro, .int .i64 y.fm, .string y.nm] 23 (0, 0)) * R)) by ac_rfl))).mono ?_); rintro e w9 ⟨v9, rfl, g9⟩)
  go_ret2
  exact ⟨v9, rfl, g9.drop2.drop3.of_eq (by rfl)⟩

end Go.Proofs.Ytlilogcojeoelaa
