/- Contracts of package fill: Size; New with a time that can't be. -/
import Derived.Test.YtbeidnddahglbaaFillG
namespace Go.Proofs.Ytbeidnddahglbaa
set_option linter.all false
open Go Go.RowKit

set_option maxRecDepth 100000 in
set_option maxHeartbeats 2000000 in
theorem fsize_any (k : Env) (w : World) (R : Assn) (b n nv : Nat) (c : CS) (V : VS) (S : List (Ky × StM)) (yk yt : List Ky) (hk : ∀ y ∈ yk, rightK y = true ∧ tiny y) (ht : ∀ y ∈ yt, rightK y = true ∧ tiny y) (hyk : c.K.map (·.1) = yk.map textK) (hyt : c.T.map (·.1) = yt.map textK)
    (hl : (yk.length : Int) ≤ 1073741824) (hl2 : (yt.length : Int) ≤ 1073741824) (hs : -2305843009213693952 ≤ sumV c.T ∧ sumV c.T ≤ 2305843009213693952 ∧ -2305843009213693952 ≤ sumV c.K ∧ sumV c.K ≤ 2305843009213693952) (h : Sat k w (FillR b c n nv V S * R)) :
    Calls Try.prog 17 #[pq b] w fun e w' => e = .returned (.tuple #[.int .i64 ((yk.length : Int) + yt.length), .int .i64 (sumV c.K + sumV c.T)]) ∧ Sat k w' (FillR b c n nv V S * R) := by
  obtain ⟨cb, vb, m, h0⟩ := fi_open h
  have c2 : w.cell? ⟨b, 2, none⟩ = some (.map (some m)) := h0.cell 2
  have c0 : w.cell? ⟨b, 0, none⟩ = some (pq cb) := h0.cell 0
  have CK := Lib.hid (ckeys_any k w.drew _ cb n c yk yt hk ht hyk hyt hl hl2 (Sat.drew h0).swap)
  have CB := Lib.hid (fun w' R' => cbytes_any k w' R' cb n c hs)
  clear h h0 hk ht hyk hyt hl hl2 hs
  go_enter Try.func17, Try.ntmps17
  go_upto_region 3 with (go_at_call 23; refine (fthere_any _ _ _ c2).mono ?_; rintro e w' ⟨rfl, rfl⟩)
  go_region_held3 (fun w' => w'.cell? ⟨b, 0, none⟩ = some (pq cb))
    (first | exact c0 | exact (h1.get3.cell 0).trans rfl | exact (h2.swap.cell 0).trans rfl | fail)
    (first | (go_at_call 37; (with_reducible refine CK.out.mono ?_); rintro e w1 ⟨v1, rfl, h1⟩; obtain ⟨xa, xc, rfl⟩ := rec_val h1) | (go_at_call 38; (with_reducible refine (CB.out w1 _ (by exact h1.drop)).mono ?_); rintro e w2 ⟨rfl, h2⟩) | fail)
  go_wp2_with fail
  go_ret2
  exact ⟨rfl, fi_close (cb := cb) (vb := vb) (m := m) h2.swap rfl⟩

theorem cnew_ttl0 (k : Env) (w : World) (R : Assn) (al kp mo ttl : Int) (h1 : 1 ≤ al) (h2 : al ≤ 1073741824) (h3 : 0 ≤ kp) (h4 : kp ≤ al) (h5 : 1 ≤ mo) (h6 : mo ≤ al) (t1 : ttl < 1) (h : Sat k w R) :
    Calls Try.prog 21 #[.int .i64 al, .int .i64 kp, .int .i64 mo, .int .i64 ttl] w fun e w' => e = .returned (.tuple #[.pointer none, .int .i64 1]) ∧ Sat k w' R := by
  have C1 := Lib.hid (new_any k w R al kp mo h1 h2 h3 h4 h5 h6 h)
  clear h1 h2 h3 h4 h5 h6
  go_enter Try.func21, Try.ntmps21
  go_wp2_with (first | (go_at_call 43; (with_reducible refine C1.out.mono ?_); rintro e w1 ⟨s, rfl, g1⟩))
  go_ret2
  exact ⟨rfl, g1.drop⟩
theorem fnew_ttl0 (k : Env) (w : World) (R : Assn) (al kp mo ttl : Int) (h1 : 1 ≤ al) (h2 : al ≤ 1073741824) (h3 : 0 ≤ kp) (h4 : kp ≤ al) (h5 : 1 ≤ mo) (h6 : mo ≤ al) (t1 : ttl < 1) (h : Sat k w R) :
    Calls Try.prog 7 #[.int .i64 al, .int .i64 kp, .int .i64 mo, .int .i64 ttl] w fun e w' => e = .returned (.tuple #[.pointer none, .int .i64 1]) ∧ Sat k w' R := by
  have C1 := Lib.hid (cnew_ttl0 k w R al kp mo ttl h1 h2 h3 h4 h5 h6 t1 h)
  clear h1 h2 h3 h4 h5 h6
  go_enter Try.func7, Try.ntmps7
  go_wp2_with (first | (go_at_call 21; (with_reducible refine C1.out.mono ?_); rintro e w1 ⟨rfl, g1⟩))
  go_ret2
  exact ⟨rfl, g1⟩

end Go.Proofs.Ytbeidnddahglbaa
