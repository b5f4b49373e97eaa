/- Contracts of package fill: Fill. -/
import Derived.Test.YtbeidnddahglbaaFillC
namespace Go.Proofs.Ytbeidnddahglbaa
set_option linter.all false
open Go Go.RowKit


/-- What a stamp's test tells. -/
theorem vfresh_is (k : Env) (w : World) (R : Assn) (b n : Nat) (V : VS) (s : StM) (hr : Rd k R s.a s.names) (hi : RdI k R s.i s.nums) (hn : s.names.length ≤ 1000000000) (hm : s.nums.length ≤ 1000000000) (t : Bool) (ht : t = true ↔ freshV V s.ep s.names s.nums) (h : Sat k w (VersV b V n * R)) :
    Calls Try.prog 24 #[pv b, s.v] w fun e w' => e = .returned (.bool t) ∧ Sat k w' (VersV b V n * R) :=
  (vfresh_any k w R b n V s.ep s.a s.i s.ac s.ic s.names s.nums hr hi hn hm h).mono fun e w' ⟨r, he, hq, h'⟩ => ⟨by rw [he]; congr 2; cases r <;> cases t <;> simp_all, h'⟩
theorem vbusy_is (k : Env) (w : World) (R : Assn) (b n : Nat) (V : VS) (a : Option Addr) (cap : Nat) (l : List ByteArray) (hr : Rd k R a l) (hn : l.length ≤ 1000000000) (t : Bool) (ht : t = true ↔ busyV V l) (h : Sat k w (VersV b V n * R)) :
    Calls Try.prog 25 #[pv b, .slice a l.length cap] w fun e w' => e = .returned (.bool t) ∧ Sat k w' (VersV b V n * R) :=
  (vbusy_any k w R b n V a cap l hr hn h).mono fun e w' ⟨r, he, hq, h'⟩ => ⟨by rw [he]; congr 2; cases r <;> cases t <;> simp_all, h'⟩


set_option maxRecDepth 100000 in
set_option maxHeartbeats 4000000 in
theorem ffill_no (k : Env) (w : World) (R : Assn) (b n nv : Nat) (c : CS) (V : VS) (S : List (Ky × StM)) (y : Ky) (v : ByteArray) (now : Int) (ep : Int) (a i : Option Addr) (ac ic : Nat) (names : List ByteArray) (nums : List Int) (hr : Rd k R a names) (hi : RdI k R i nums) (hn : names.length ≤ 1000000000) (hm : nums.length ≤ 1000000000)
    (tf tb : Bool) (htf : tf = true ↔ freshV V ep names nums) (htb : tb = true ↔ busyV V names) (hno : tf = false ∨ tb = true) (h : Sat k w (FillR b c n nv V S * R)) :
    Calls Try.prog 9 #[pq b, kyV y, .string v, .agg #[.int .i64 ep, .slice a names.length ac, .slice i nums.length ic], .int .i64 now] w fun e w' => e = .returned (.tuple #[.bool false, .int .i64 0]) ∧ Sat k w' (FillR b c n nv V S * R) := by
  (
    have h0 := (h.alloc (.cells #[.string y.db, .string y.ro, .int .i64 y.fm, .string y.nm] 30)).alloc (.cells #[.int .i64 ep, .slice a names.length ac, .slice i nums.length ic] 32)
    rw [show (w.alloc (.cells #[.string y.db, .string y.ro, .int .i64 y.fm, .string y.nm] 30)).heap.size = w.heap.size + 1 from by simp] at h0
    clear h
    unfold kyV
    go_enter Try.func9, Try.ntmps9
    go_upto_region 1 with fail
    generalize (w.alloc (.cells #[.string y.db, .string y.ro, .int .i64 y.fm, .string y.nm] 30)).alloc (.cells #[.int .i64 ep, .slice a names.length ac, .slice i nums.length ic] 32) = w0 at *
    generalize w.heap.size = o6 at *
    obtain ⟨o8, ho8⟩ : ∃ o8, o6 + 1 = o8 := ⟨_, rfl⟩
    rw [ho8] at h0 ⊢
    obtain ⟨cb, vb, m, hs⟩ := fi_open h0.get3
    have HD : Hid (∀ w' : World, Sat k w' (blk b (.cells (cellsFi cb vb m) 54 (0, 0)) * (CacheR cb c n * (VersV vb V nv * (MapK kyV m (sents S) * (stars stampR S * (blk o8 (.cells #[.int .i64 ep, .slice a names.length ac, .slice i nums.length ic] 32 (0, 0)) * (blk o6 (.cells #[.string y.db, .string y.ro, .int .i64 y.fm, .string y.nm] 30 (0, 0)) * R))))))) → w'.cell? ⟨b, 0, none⟩ = some (pq cb) ∧ w'.cell? ⟨b, 1, none⟩ = some (pq vb) ∧ w'.cell? ⟨b, 2, none⟩ = some (.map (some m)) ∧ w'.cell? ⟨o8, 0, none⟩ = some (.int .i64 ep) ∧ w'.cell? ⟨o8, 1, none⟩ = some (.slice a names.length ac) ∧ w'.cell? ⟨o8, 2, none⟩ = some (.slice i nums.length ic) ∧ w'.cell? ⟨o6, 0, none⟩ = some (.string y.db) ∧ w'.cell? ⟨o6, 1, none⟩ = some (.string y.ro) ∧ w'.cell? ⟨o6, 2, none⟩ = some (.int .i64 y.fm) ∧ w'.cell? ⟨o6, 3, none⟩ = some (.string y.nm)) :=
      fun w' h' => ⟨h'.cell 0, h'.cell 1, h'.cell 2, h'.get6.cell 0, h'.get6.cell 1, h'.get6.cell 2, h'.get7.cell 0, h'.get7.cell 1, h'.get7.cell 2, h'.get7.cell 3⟩
    have CF := Lib.hid (fun (w' : World) (h' : Sat k w' (blk b (.cells (cellsFi cb vb m) 54 (0, 0)) * (CacheR cb c n * (VersV vb V nv * (MapK kyV m (sents S) * (stars stampR S * (blk o8 (.cells #[.int .i64 ep, .slice a names.length ac, .slice i nums.length ic] 32 (0, 0)) * (blk o6 (.cells #[.string y.db, .string y.ro, .int .i64 y.fm, .string y.nm] 30 (0, 0)) * R)))))))) => (vfresh_is k w' _ vb nv V ⟨ep, a, ac, names, i, ic, nums⟩ (hr.mono fun w' h' => h'.drop.drop.drop.drop.drop.drop) (hi.mono fun w' h' => h'.drop.drop.drop.drop.drop.drop) hn hm tf htf h'.get3).mono fun e w'' ⟨p, q⟩ => And.intro p q.put3)
    have CB := Lib.hid (fun (w' : World) (h' : Sat k w' (blk b (.cells (cellsFi cb vb m) 54 (0, 0)) * (CacheR cb c n * (VersV vb V nv * (MapK kyV m (sents S) * (stars stampR S * (blk o8 (.cells #[.int .i64 ep, .slice a names.length ac, .slice i nums.length ic] 32 (0, 0)) * (blk o6 (.cells #[.string y.db, .string y.ro, .int .i64 y.fm, .string y.nm] 30 (0, 0)) * R)))))))) => (vbusy_is k w' _ vb nv V a ac names (hr.mono fun w' h' => h'.drop.drop.drop.drop.drop.drop) hn tb htb h'.get3).mono fun e w'' ⟨p, q⟩ => And.intro p q.put3)
    simp only [StM.v] at CF
    have c2 : w0.cell? ⟨b, 2, none⟩ = some (.map (some m)) := hs.cell 2
    clear h0 htf htb
    go_wp2_with (go_at_call 23; refine (fthere_any _ _ _ c2).mono ?_; rintro e w' ⟨rfl, rfl⟩)
    clear c2)
  have HC : Hid (∀ w' : World, Sat k w' (blk b (.cells (cellsFi cb vb m) 54 (0, 0)) * (CacheR cb c n * (VersV vb V nv * (MapK kyV m (sents S) * (stars stampR S * (blk o8 (.cells #[.int .i64 ep, .slice a names.length ac, .slice i nums.length ic] 32 (0, 0)) * (blk o6 (.cells #[.string y.db, .string y.ro, .int .i64 y.fm, .string y.nm] 30 (0, 0)) * R))))))) → Sat k w' (FillR b c n nv V S * R)) :=
    fun w' h' => (fi_close (cb := cb) (vb := vb) (m := m) h' rfl).swap.drop.swap.drop
  have hor : tf = false ∨ (tf = true ∧ tb = true) := by rcases hno with h | h <;> cases tf <;> simp_all
  clear hno hr hi
  rcases hor with rfl | ⟨rfl, rfl⟩
  · obtain ⟨c0, c1, c2, s0, s1, s2, k0, k1, k2, k3⟩ := HD.out w0 hs
    first | (go_region_law (first | (go_simp; go_at_call 24; (with_reducible refine (CF.out _ (by first | assumption | exact Sat.drew (by assumption))).mono ?_); rintro e w2 ⟨rfl, h2⟩; obtain ⟨c0', c1', c2', s0', s1', s2', _⟩ := HD.out w2 h2) | fail)) | fail
    all_goals
      clear c0 c1 c2 s0 s1 s2 k0 k1 k2 k3 c0' c1' c2' s0' s1' s2'
      go_wp2_with fail
      go_ret2
      exact ⟨rfl, HC.out _ h2⟩
  · go_region_held3 (
    fun w' => w'.cell? ⟨b, 0, none⟩ = some (pq cb) ∧ w'.cell? ⟨b, 1, none⟩ = some (pq vb) ∧ w'.cell? ⟨b, 2, none⟩ = some (.map (some m)) ∧ w'.cell? ⟨o8, 0, none⟩ = some (.int .i64 ep) ∧ w'.cell? ⟨o8, 1, none⟩ = some (.slice a names.length ac) ∧ w'.cell? ⟨o8, 2, none⟩ = some (.slice i nums.length ic) ∧ w'.cell? ⟨o6, 0, none⟩ = some (.string y.db) ∧ w'.cell? ⟨o6, 1, none⟩ = some (.string y.ro) ∧ w'.cell? ⟨o6, 2, none⟩ = some (.int .i64 y.fm) ∧ w'.cell? ⟨o6, 3, none⟩ = some (.string y.nm))
      (first | exact HD.out _ (by assumption) | fail)
      (first | (go_at_call 24; (with_reducible refine (CF.out _ (by first | assumption | exact Sat.drew (by assumption))).mono ?_); rintro e w2 ⟨rfl, h2⟩) | (go_at_call 25; (with_reducible refine (CB.out _ (by first | assumption | exact Sat.drew (by assumption))).mono ?_); rintro e w3 ⟨rfl, h3⟩) | fail)
    go_wp2_with fail
    go_ret2
    exact ⟨rfl, HC.out _ h3⟩

end Go.Proofs.Ytbeidnddahglbaa
