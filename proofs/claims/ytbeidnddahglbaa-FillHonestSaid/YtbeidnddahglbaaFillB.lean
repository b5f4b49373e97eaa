/- Contracts of package fill: Start, Write, Commit, All, copied, forget. -/
import Derived.Test.YtbeidnddahglbaaFillA
namespace Go.Proofs.Ytbeidnddahglbaa
set_option linter.all false
open Go Go.RowKit

set_option maxHeartbeats 1000000 in
theorem fstart_any (k : Env) (w : World) (R : Assn) (b n nv : Nat) (c : CS) (V : VS) (S : List (Ky × StM)) (a : Option Addr) (cap : Nat) (l : List ByteArray) (hr : Rd k R a l) (hn : l.length ≤ 1000000000) (h : Sat k w (FillR b c n nv V S * R)) :
    Calls Try.prog 10 #[pq b, .slice a l.length cap] w fun e w' => ∃ s : StM, e = .returned s.v ∧ s.ep = V.ep ∧ s.names = l ∧ s.nums = l.map V.N ∧ Sat k w' (stampS s * (FillR b c n nv V S * R)) := by
  have h0 := h.alloc (.cells #[.int .i64 0, .slice none 0 0, .slice none 0 0] 32)
  clear h
  go_enter Try.func10, Try.ntmps10
  go_upto_region 1 with fail
  generalize w.alloc (.cells #[.int .i64 0, .slice none 0 0, .slice none 0 0] 32) = w0 at *
  generalize w.heap.size = o4 at *
  obtain ⟨cb, vb, m, hs⟩ := fi_open h0.swap
  have c1 : w0.cell? ⟨b, 1, none⟩ = some (pq vb) := hs.cell 1
  have c2 : w0.cell? ⟨b, 2, none⟩ = some (.map (some m)) := hs.cell 2
  have C1 := Lib.hid (vtake_any k w0 _ vb nv V a cap l (hr.mono fun w' h' => h'.drop.drop.drop.drop.drop) hn hs.get3)
  clear h0 hr hs
  go_upto_region 3 with (go_at_call 23; refine (fthere_any _ _ _ c2).mono ?_; rintro e w' ⟨rfl, rfl⟩)
  go_wp2_with fail
  refine C1.out.mono ?_
  rintro e w1 ⟨va, vi, rfl, h1⟩
  obtain ⟨aa, ac, rfl⟩ := own_val h1
  obtain ⟨ia, ic, rfl⟩ := own_val h1.swap
  replace h1 := h1.get8
  rw [List.length_map] at h1
  clear C1 c1 c2
  have g0 : w1.cell? ⟨o4, 0, none⟩ = some (.int .i64 0) := h1.cell 0
  have g1 : w1.cell? ⟨o4, 1, none⟩ = some (.slice none 0 0) := h1.cell 1
  have g2 : w1.cell? ⟨o4, 2, none⟩ = some (.slice none 0 0) := h1.cell 2
  have f0 := h1.frozen 0
  have f1 := h1.frozen 1
  have f2 := h1.frozen 2
  rw [List.length_map]
  go_wp2_with fail
  have h2 := ((h1.set 0 (.int .i64 V.ep)).set 1 (.slice aa l.length ac)).set 2 (.slice ia l.length ic)
  generalize ((w1.setCell ⟨o4, 0, none⟩ (.int .i64 V.ep)).setCell ⟨o4, 1, none⟩ (.slice aa l.length ac)).setCell ⟨o4, 2, none⟩ (.slice ia l.length ic) = w9 at *
  clear g0 g1 g2 f0 f1 f2 h1
  have g0 : w9.cell? ⟨o4, 0, none⟩ = some (.int .i64 V.ep) := h2.cell 0
  have g1 : w9.cell? ⟨o4, 1, none⟩ = some (.slice aa l.length ac) := h2.cell 1
  have g2 : w9.cell? ⟨o4, 2, none⟩ = some (.slice ia l.length ic) := h2.cell 2
  refine bodyPost_ret (v := .agg #[.int .i64 V.ep, .slice aa l.length ac, .slice ia l.length ic]) (by simp [results, Try.results10, go_sem, g0, g1, g2]) rfl ?_
  refine ⟨⟨V.ep, aa, ac, l, ia, ic, l.map V.N⟩, by simp [StM.v], rfl, rfl, rfl, ?_⟩
  have h3 := h2.drop
  have h4 := fi_close (cb := cb) (vb := vb) (m := m) (b := b) (c := c) (n := n) (nv := nv) (V := V) (S := S) (R := stampS ⟨V.ep, aa, ac, l, ia, ic, l.map V.N⟩ * R) (h3.of_eq ?_) rfl
  · exact h4.swap
  · unfold stampS
    simp only [List.length_map]
    ac_rfl

theorem fwrite_any (k : Env) (w : World) (R : Assn) (b n nv : Nat) (c : CS) (V : VS) (S : List (Ky × StM)) (cl : Int) (a : Option Addr) (cap : Nat) (l : List ByteArray) (hr : Rd k R a l) (hn : nv + l.length + l.length < 1000000000) (h : Sat k w (FillR b c n nv V S * R)) :
    Calls Try.prog 12 #[pq b, .int .i64 cl, .slice a l.length cap] w fun e w' => e = .returned (.tuple #[]) ∧ Sat k w' (FillR b c n (nv + l.length + 1) ((V.dirty cl l).bump l) S * R) := by
  obtain ⟨cb, vb, m, hs⟩ := fi_open h
  have c1 : w.cell? ⟨b, 1, none⟩ = some (pq vb) := hs.cell 1
  have c2 : w.cell? ⟨b, 2, none⟩ = some (.map (some m)) := hs.cell 2
  have hr2 := Lib.hid (hr.mono (R' := blk b (.cells (cellsFi cb vb m) 54 (0, 0)) * (CacheR cb c n * (MapK kyV m (sents S) * (stars stampR S * R)))) fun w' h' => h'.drop.drop.drop.drop)
  have C1 := Lib.hid (vdirty_any k w _ vb nv V cl a cap l hr2.out (by omega) hs.get3)
  clear h hr hs
  go_enter Try.func12, Try.ntmps12
  go_wp2_with (go_at_call 23; refine (fthere_any _ _ _ c2).mono ?_; rintro e w' ⟨rfl, rfl⟩)
  refine C1.out.mono ?_
  rintro e w1 ⟨rfl, h1⟩
  have c1 : w1.cell? ⟨b, 1, none⟩ = some (pq vb) := h1.swap.cell 1
  go_wp2_with fail
  refine (vbump_any k w1 _ vb (nv + l.length) (V.dirty cl l) a cap l hr2.out (by omega) h1).mono ?_
  rintro e w2 ⟨rfl, h2⟩
  go_wp2_with fail
  go_end0
  exact ⟨rfl, fi_close (cb := cb) (vb := vb) (m := m) h2.put3 rfl⟩

theorem fcommit_any (k : Env) (w : World) (R : Assn) (b n nv : Nat) (c : CS) (V : VS) (S : List (Ky × StM)) (cl : Int) (a : Option Addr) (cap : Nat) (l : List ByteArray) (hr : Rd k R a l) (hn : nv + l.length < 1000000000) (h : Sat k w (FillR b c n nv V S * R)) :
    Calls Try.prog 14 #[pq b, .int .i64 cl, .slice a l.length cap] w fun e w' => e = .returned (.tuple #[]) ∧ Sat k w' (FillR b c n (nv + 1) ((V.bump l).clean cl) S * R) := by
  obtain ⟨cb, vb, m, hs⟩ := fi_open h
  have c1 : w.cell? ⟨b, 1, none⟩ = some (pq vb) := hs.cell 1
  have c2 : w.cell? ⟨b, 2, none⟩ = some (.map (some m)) := hs.cell 2
  have hr2 := Lib.hid (hr.mono (R' := blk b (.cells (cellsFi cb vb m) 54 (0, 0)) * (CacheR cb c n * (MapK kyV m (sents S) * (stars stampR S * R)))) fun w' h' => h'.drop.drop.drop.drop)
  have C1 := Lib.hid (vbump_any k w _ vb nv V a cap l hr2.out (by omega) hs.get3)
  clear h hr hs
  go_enter Try.func14, Try.ntmps14
  go_wp2_with (go_at_call 23; refine (fthere_any _ _ _ c2).mono ?_; rintro e w' ⟨rfl, rfl⟩)
  refine C1.out.mono ?_
  rintro e w1 ⟨rfl, h1⟩
  have c1 : w1.cell? ⟨b, 1, none⟩ = some (pq vb) := h1.swap.cell 1
  go_wp2_with fail
  refine (vclean_any k w1 _ vb (nv + 1) (V.bump l) cl h1).mono ?_
  rintro e w2 ⟨rfl, h2⟩
  go_wp2_with fail
  go_end0
  exact ⟨rfl, fi_close (cb := cb) (vb := vb) (m := m) h2.put3 rfl⟩

theorem fall_any (k : Env) (w : World) (R : Assn) (b n nv : Nat) (c : CS) (V : VS) (S : List (Ky × StM)) (hn : nv < 1000000000) (h : Sat k w (FillR b c n nv V S * R)) :
    Calls Try.prog 15 #[pq b] w fun e w' => e = .returned (.tuple #[]) ∧ Sat k w' (FillR b c n (nv + 1) V.all S * R) := by
  obtain ⟨cb, vb, m, hs⟩ := fi_open h
  have c1 : w.cell? ⟨b, 1, none⟩ = some (pq vb) := hs.cell 1
  have c2 : w.cell? ⟨b, 2, none⟩ = some (.map (some m)) := hs.cell 2
  have C1 := Lib.hid (vall_any k w _ vb nv V (by omega) hs.get3)
  clear h hs
  go_enter Try.func15, Try.ntmps15
  go_wp2_with (go_at_call 23; refine (fthere_any _ _ _ c2).mono ?_; rintro e w' ⟨rfl, rfl⟩)
  refine C1.out.mono ?_
  rintro e w1 ⟨rfl, h1⟩
  go_wp2_with fail
  go_end0
  exact ⟨rfl, fi_close (cb := cb) (vb := vb) (m := m) h1.put3 rfl⟩

end Go.Proofs.Ytbeidnddahglbaa
