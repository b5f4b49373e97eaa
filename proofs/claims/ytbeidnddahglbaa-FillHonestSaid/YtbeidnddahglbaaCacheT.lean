/- Contracts of package cache: Tick. -/
import Derived.Test.YtbeidnddahglbaaCacheE
namespace Go.Proofs.Ytbeidnddahglbaa
set_option linter.all false
open Go Go.RowKit

set_option maxRecDepth 100000 in
set_option maxHeartbeats 2000000 in
theorem ctick_any (k : Env) (w : World) (R : Assn) (b n : Nat) (c : CS) (ys : List Ky) (now : Int) (hy : ∀ y ∈ ys, rightK y = true ∧ tiny y) (hys : qdue now c.L = ys.map textK) (hn : n ≤ 1000000000) (hl : (ys.length : Int) ≤ 1073741824) (h : Sat k w (CacheR b c n * R)) :
    Calls Try.prog 40 #[pq b, .int .i64 now] w fun e w' => ∃ v, e = .returned v ∧ Sat k w' (Kys v ys * (CacheR b (cdrops ys { c with L := qrest now c.L }) n * R)) := by
  obtain ⟨s, q, m, hs⟩ := ca_open h
  have c1 : w.cell? ⟨b, 1, none⟩ = some (.pointer (some ⟨q, 0, none⟩)) := hs.cell 1
  have c2 : w.cell? ⟨b, 2, none⟩ = some (.map (some m)) := hs.cell 2
  have D := qdue_any k w _ q n c.L now hn hs.get3
  rw [hys] at D
  have HD := Lib.hid D
  have HC : Hid (∀ {w' : World} {v : Value}, Sat k w' (Strs v (ys.map textK) * (QueueV q (qrest now c.L) n * (blk b (.cells (cellsCa s q m c.ttl) 83 (0, 0)) * (StoreV s c.al c.kp c.mo c.T c.K * (MapK kyV m (vlv c.V) * R))))) → Sat k w' (Strs v (ys.map textK) * (CacheR b { c with L := qrest now c.L } n * R))) := by
    unfold Hid
    intro w' v h'
    exact (ca_close (c := { c with L := qrest now c.L }) (R := Strs v (ys.map textK) * R) (h'.of_eq (by ac_rfl)) rfl rfl rfl rfl rfl rfl rfl rfl).swap
  have HF := Lib.hid (fun w' R' v => forget_any k w' R' b n { c with L := qrest now c.L } ys v hy hn hl)
  clear D h hys hs hy
  go_enter Try.func40, Try.ntmps40
  go_wp2_with (go_at_call 48; refine (cthere_any _ _ _ c2).mono ?_; rintro e w' ⟨rfl, rfl⟩)
  with_reducible refine HD.out.mono ?_
  rintro e w2 ⟨v2, rfl, h2⟩
  replace h2 := HC.out h2
  obtain ⟨va, vc, rfl⟩ := own_val h2
  rw [List.length_map] at h2 ⊢
  go_wp2_with fail
  with_reducible refine (HF.out _ _ _ h2).mono ?_
  rintro e w3 ⟨v3, rfl, h3⟩
  go_wp2_with fail
  go_ret
  exact ⟨_, rfl, h3.drop2⟩

end Go.Proofs.Ytbeidnddahglbaa
