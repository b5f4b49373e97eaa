/- Contracts of package cache: Put, Get. -/
import Derived.Test.YtbeidnddahglbaaCacheB
namespace Go.Proofs.Ytbeidnddahglbaa
set_option linter.all false
open Go Go.RowKit

set_option maxRecDepth 100000 in
set_option maxHeartbeats 2000000 in
theorem cput_arg (k : Env) (w : World) (R : Assn) (b n : Nat) (c : CS) (y : Ky) (v : ByteArray) (now : Int) (hy2 : tiny y) (ha : rightK y = false ∨ now < 0 ∨ 549755813888 < now) (h : Sat k w (CacheR b c n * R)) :
    Calls Try.prog 26 #[pq b, kyV y, .string v, .int .i64 now] w fun e w' => e = .returned (.tuple #[.slice none 0 0, .int .i64 1]) ∧ Sat k w' (CacheR b c n * R) := by
  have h1 := h.alloc (.cells (kyc y).toArray 30)
  have HR := Lib.hid (fun w' R' => right_any k w' R' y hy2)
  unfold kyV at HR
  generalize rightK y = rr at *
  have hcs : (rr = false) ∨ (rr = true ∧ now < 0) ∨ (rr = true ∧ ¬ now < 0 ∧ 549755813888 < now) := by
    cases rr
    · exact .inl rfl
    · simp at ha
      by_cases h0 : now < 0
      · exact .inr (.inl ⟨rfl, h0⟩)
      · exact .inr (.inr ⟨rfl, h0, by omega⟩)
  clear ha h
  simp only [kyc] at h1
  unfold kyV
  rcases hcs with rfl | ⟨rfl, hn0⟩ | ⟨rfl, hn0, hn1⟩
  all_goals
    go_enter Try.func26, Try.ntmps26
    go_upto_region 1 with fail
    generalize w.alloc (.cells #[.string y.db, .string y.ro, .int .i64 y.fm, .string y.nm] 30) = w1 at *
    generalize w.heap.size = o at *
    obtain ⟨s, q, m, hs⟩ := ca_open h1.swap
    have c2 : w1.cell? ⟨b, 2, none⟩ = some (.map (some m)) := hs.cell 2
    have d0 : w1.cell? ⟨o, 0, none⟩ = some (.string y.db) := h1.cell 0
    have d1 : w1.cell? ⟨o, 1, none⟩ = some (.string y.ro) := h1.cell 1
    have d2 : w1.cell? ⟨o, 2, none⟩ = some (.int .i64 y.fm) := h1.cell 2
    have d3 : w1.cell? ⟨o, 3, none⟩ = some (.string y.nm) := h1.cell 3
    go_wp2_with (first | (go_at_call 48; refine (cthere_any _ _ _ c2).mono ?_; rintro e w' ⟨rfl, rfl⟩) | (go_at_call 49; (with_reducible refine (HR.out w1 _ h1).mono ?_); rintro e w2 ⟨rfl, g1⟩))
    go_ret2
    exact ⟨rfl, g1.drop⟩

theorem sizeK_pos {y : Ky} {v : ByteArray} (h : rightK y = true) : 1 ≤ sizeK y v := by
  unfold sizeK; rw [if_pos h]; omega

set_option maxRecDepth 100000 in
set_option maxHeartbeats 4000000 in
theorem cput_big (k : Env) (w : World) (R : Assn) (b n : Nat) (c : CS) (y : Ky) (v : ByteArray) (now : Int) (hy1 : rightK y = true) (hy2 : tiny y) (hv : v.size ≤ 1000000000) (n0 : ¬ now < 0) (n1 : ¬ 549755813888 < now) (hb : c.mo < sizeK y v) (h : Sat k w (CacheR b c n * R)) :
    Calls Try.prog 26 #[pq b, kyV y, .string v, .int .i64 now] w fun e w' => e = .returned (.tuple #[.slice none 0 0, .int .i64 2]) ∧ Sat k w' (CacheR b c n * R) := by
  have h1 := h.alloc (.cells (kyc y).toArray 30)
  have HR := Lib.hid (fun w' R' => right_any k w' R' y hy2)
  have HT := Lib.hid (fun w' R' => text_any k w' R' y hy2)
  have HS := Lib.hid (fun w' R' => size_any k w' R' y v hy2 hv)
  have hp := sizeK_pos (v := v) hy1
  have hpe : putE c.mo (sizeK y v) = 2 := by unfold putE; rw [if_neg (by omega), if_pos hb]
  have HP := Lib.hid (fun w' R' s => put_bad k w' R' s c.al c.kp c.mo c.T c.K (textK y) (sizeK y v) (.inr hb))
  rw [hpe] at HP
  rw [hy1] at HR
  generalize sizeK y v = sz at *
  generalize textK y = tx at *
  clear h
  simp only [kyc] at h1
  unfold kyV at *
  go_enter Try.func26, Try.ntmps26
  go_upto_region 1 with fail
  generalize w.alloc (.cells #[.string y.db, .string y.ro, .int .i64 y.fm, .string y.nm] 30) = w1 at *
  generalize w.heap.size = o at *
  obtain ⟨s, q, m, hs⟩ := ca_open h1.swap
  have c2 : w1.cell? ⟨b, 2, none⟩ = some (.map (some m)) := hs.cell 2
  have d0 : w1.cell? ⟨o, 0, none⟩ = some (.string y.db) := h1.cell 0
  have d1 : w1.cell? ⟨o, 1, none⟩ = some (.string y.ro) := h1.cell 1
  have d2 : w1.cell? ⟨o, 2, none⟩ = some (.int .i64 y.fm) := h1.cell 2
  have d3 : w1.cell? ⟨o, 3, none⟩ = some (.string y.nm) := h1.cell 3
  have hs5 : Sat k w1 (blk o (.cells #[.string y.db, .string y.ro, .int .i64 y.fm, .string y.nm] 30 (0, 0)) * (blk b (.cells (cellsCa s q m c.ttl) 83 (0, 0)) * (StoreV s c.al c.kp c.mo c.T c.K * (QueueV q c.L n * (MapK kyV m (vlv c.V) * R))))) := hs.get5
  clear h1 hs
  go_wp2_with (first | (go_at_call 48; refine (cthere_any _ _ _ c2).mono ?_; rintro e w' ⟨rfl, rfl⟩) | (go_at_call 49; (with_reducible refine (HR.out w1 _ hs5).mono ?_); rintro e w2 ⟨rfl, g1⟩))
  clear c2 d0 d1 d2 d3 hs5
  have c0 : w2.cell? ⟨b, 0, none⟩ = some (.pointer (some ⟨s, 0, none⟩)) := g1.swap.cell 0
  have d0 : w2.cell? ⟨o, 0, none⟩ = some (.string y.db) := g1.cell 0
  have d1 : w2.cell? ⟨o, 1, none⟩ = some (.string y.ro) := g1.cell 1
  have d2 : w2.cell? ⟨o, 2, none⟩ = some (.int .i64 y.fm) := g1.cell 2
  have d3 : w2.cell? ⟨o, 3, none⟩ = some (.string y.nm) := g1.cell 3
  go_region_held3 (fun w' => w'.cell? ⟨b, 0, none⟩ = some (.pointer (some ⟨s, 0, none⟩)) ∧ w'.cell? ⟨o, 0, none⟩ = some (.string y.db) ∧ w'.cell? ⟨o, 1, none⟩ = some (.string y.ro) ∧ w'.cell? ⟨o, 2, none⟩ = some (.int .i64 y.fm) ∧ w'.cell? ⟨o, 3, none⟩ = some (.string y.nm))
    (first | exact ⟨c0, d0, d1, d2, d3⟩ | exact ⟨(g2.swap.cell 0).trans rfl, (g2.cell 0).trans rfl, (g2.cell 1).trans rfl, (g2.cell 2).trans rfl, (g2.cell 3).trans rfl⟩ | exact ⟨(g3.swap.cell 0).trans rfl, (g3.cell 0).trans rfl, (g3.cell 1).trans rfl, (g3.cell 2).trans rfl, (g3.cell 3).trans rfl⟩ | exact ⟨(g4.get3.cell 0).trans rfl, (g4.swap.cell 0).trans rfl, (g4.swap.cell 1).trans rfl, (g4.swap.cell 2).trans rfl, (g4.swap.cell 3).trans rfl⟩ | fail)
    (first | (go_at_call 51; (with_reducible refine (HT.out _ _ g1.drew).mono ?_); rintro e w3 ⟨rfl, g2⟩) | (go_at_call 52; (with_reducible refine (HS.out _ _ g2).mono ?_); rintro e w4 ⟨rfl, g3⟩) | (go_at_call 50; (with_reducible refine (HP.out _ _ _ g3.get3).mono ?_); rintro e w5 ⟨rfl, g4⟩) | fail)
  go_wp2_with fail
  go_ret2
  refine ⟨rfl, ca_close (c := c) (s := s) (q := q) (m := m) ((g4.swap.drop).swap.of_eq ?_) rfl rfl rfl rfl rfl rfl rfl rfl⟩
  rfl

end Go.Proofs.Ytbeidnddahglbaa
