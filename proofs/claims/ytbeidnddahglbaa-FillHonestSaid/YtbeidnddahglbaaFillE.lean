/- Contracts of package fill: Fill, where the cache is asked. -/
import Derived.Test.YtbeidnddahglbaaFillD
namespace Go.Proofs.Ytbeidnddahglbaa
set_option linter.all false
open Go Go.RowKit



set_option maxRecDepth 100000 in
set_option maxHeartbeats 4000000 in
theorem ffill_err (k : Env) (w : World) (R : Assn) (b n n' nv : Nat) (c c' : CS) (V : VS) (S : List (Ky × StM)) (y : Ky) (v : ByteArray) (now er : Int) (ep : Int) (a i : Option Addr) (ac ic : Nat) (names : List ByteArray) (nums : List Int) (hr : Rd k R a names) (hi : RdI k R i nums) (hn : names.length ≤ 1000000000) (hm : nums.length ≤ 1000000000)
    (htf : true = true ↔ freshV V ep names nums) (htb : false = true ↔ busyV V names)
    (HP : ∀ (cb : Nat) (w' : World) (R' : Assn), Sat k w' (CacheR cb c n * R') → Calls Try.prog 26 #[pq cb, kyV y, .string v, .int .i64 now] w' fun e w'' => e = .returned (.tuple #[.slice none 0 0, .int .i64 er]) ∧ Sat k w'' (CacheR cb c' n' * R')) (her : er ≠ 0) (h : Sat k w (FillR b c n nv V S * R)) :
    Calls Try.prog 9 #[pq b, kyV y, .string v, .agg #[.int .i64 ep, .slice a names.length ac, .slice i nums.length ic], .int .i64 now] w fun e w' => e = .returned (.tuple #[.bool false, .int .i64 er]) ∧ Sat k w' (FillR b c' n' nv V S * R) := by
  have HPP := Lib.hid HP
  clear HP
  unfold kyV at HPP
  have her' : (er != 0) = true := by simpa using her
  clear her
  (
    have h0 := (h.alloc (.cells #[.string y.db, .string y.ro, .int .i64 y.fm, .string y.nm] 30)).alloc (.cells #[.int .i64 ep, .slice a names.length ac, .slice i nums.length ic] 32)
    rw [show (w.alloc (.cells #[.string y.db, .string y.ro, .int .i64 y.fm, .string y.nm] 30)).heap.size = w.heap.size + 1 from by simp] at h0
    clear h
    unfold kyV
    go_enter Try.func9, Try.ntmps9
    go_upto_region 1 with fail
    generalize (w.alloc (.cells #[.string y.db, .string y.ro, .int .i64 y.fm, .string y.nm] 30)).alloc (.cells #[.int .i64 ep, .slice a names.length ac, .slice i nums.length ic] 32) = w0 at *
    generalize w.heap.size = o6 at *
    obtain ⟨o8, ho8⟩ : ∃ o8, o6 + 1 = o8 := ⟨_, rfl⟩
    rw [ho8] at h0 ⊢
    obtain ⟨cb, vb, m, hs⟩ := fi_open h0.get3
    have HD : Hid (∀ w' : World, Sat k w' (blk b (.cells (cellsFi cb vb m) 54 (0, 0)) * (CacheR cb c n * (VersV vb V nv * (MapK kyV m (sents S) * (stars stampR S * (blk o8 (.cells #[.int .i64 ep, .slice a names.length ac, .slice i nums.length ic] 32 (0, 0)) * (blk o6 (.cells #[.string y.db, .string y.ro, .int .i64 y.fm, .string y.nm] 30 (0, 0)) * R))))))) → w'.cell? ⟨b, 0, none⟩ = some (pq cb) ∧ w'.cell? ⟨b, 1, none⟩ = some (pq vb) ∧ w'.cell? ⟨b, 2, none⟩ = some (.map (some m)) ∧ w'.cell? ⟨o8, 0, none⟩ = some (.int .i64 ep) ∧ w'.cell? ⟨o8, 1, none⟩ = some (.slice a names.length ac) ∧ w'.cell? ⟨o8, 2, none⟩ = some (.slice i nums.length ic) ∧ w'.cell? ⟨o6, 0, none⟩ = some (.string y.db) ∧ w'.cell? ⟨o6, 1, none⟩ = some (.string y.ro) ∧ w'.cell? ⟨o6, 2, none⟩ = some (.int .i64 y.fm) ∧ w'.cell? ⟨o6, 3, none⟩ = some (.string y.nm)) :=
      fun w' h' => ⟨h'.cell 0, h'.cell 1, h'.cell 2, h'.get6.cell 0, h'.get6.cell 1, h'.get6.cell 2, h'.get7.cell 0, h'.get7.cell 1, h'.get7.cell 2, h'.get7.cell 3⟩
    have CF := Lib.hid (fun (w' : World) (h' : Sat k w' (blk b (.cells (cellsFi cb vb m) 54 (0, 0)) * (CacheR cb c n * (VersV vb V nv * (MapK kyV m (sents S) * (stars stampR S * (blk o8 (.cells #[.int .i64 ep, .slice a names.length ac, .slice i nums.length ic] 32 (0, 0)) * (blk o6 (.cells #[.string y.db, .string y.ro, .int .i64 y.fm, .string y.nm] 30 (0, 0)) * R)))))))) => (vfresh_is k w' _ vb nv V ⟨ep, a, ac, names, i, ic, nums⟩ (hr.mono fun w' h' => h'.drop.drop.drop.drop.drop.drop) (hi.mono fun w' h' => h'.drop.drop.drop.drop.drop.drop) hn hm true htf h'.get3).mono fun e w'' ⟨p, q⟩ => And.intro p q.put3)
    have CB := Lib.hid (fun (w' : World) (h' : Sat k w' (blk b (.cells (cellsFi cb vb m) 54 (0, 0)) * (CacheR cb c n * (VersV vb V nv * (MapK kyV m (sents S) * (stars stampR S * (blk o8 (.cells #[.int .i64 ep, .slice a names.length ac, .slice i nums.length ic] 32 (0, 0)) * (blk o6 (.cells #[.string y.db, .string y.ro, .int .i64 y.fm, .string y.nm] 30 (0, 0)) * R)))))))) => (vbusy_is k w' _ vb nv V a ac names (hr.mono fun w' h' => h'.drop.drop.drop.drop.drop.drop) hn false htb h'.get3).mono fun e w'' ⟨p, q⟩ => And.intro p q.put3)
    simp only [StM.v] at CF
    have c2 : w0.cell? ⟨b, 2, none⟩ = some (.map (some m)) := hs.cell 2
    clear h0 htf htb
    go_wp2_with (go_at_call 23; refine (fthere_any _ _ _ c2).mono ?_; rintro e w' ⟨rfl, rfl⟩)
    clear c2
    have HRR := Lib.hid hr
    have HII := Lib.hid hi
    clear hr hi
    go_region_held3 (
      fun w' => w'.cell? ⟨b, 0, none⟩ = some (pq cb) ∧ w'.cell? ⟨b, 1, none⟩ = some (pq vb) ∧ w'.cell? ⟨b, 2, none⟩ = some (.map (some m)) ∧ w'.cell? ⟨o8, 0, none⟩ = some (.int .i64 ep) ∧ w'.cell? ⟨o8, 1, none⟩ = some (.slice a names.length ac) ∧ w'.cell? ⟨o8, 2, none⟩ = some (.slice i nums.length ic) ∧ w'.cell? ⟨o6, 0, none⟩ = some (.string y.db) ∧ w'.cell? ⟨o6, 1, none⟩ = some (.string y.ro) ∧ w'.cell? ⟨o6, 2, none⟩ = some (.int .i64 y.fm) ∧ w'.cell? ⟨o6, 3, none⟩ = some (.string y.nm))
      (first | exact HD.out _ (by assumption) | fail)
      (first | (go_at_call 24; (with_reducible refine (CF.out _ (by first | assumption | exact Sat.drew (by assumption))).mono ?_); rintro e w2 ⟨rfl, h2⟩) | (go_at_call 25; (with_reducible refine (CB.out _ (by first | assumption | exact Sat.drew (by assumption))).mono ?_); rintro e w3 ⟨rfl, h3⟩) | fail)
    clear hs h2 CF CB
    go_upto_region 5 with fail)
  go_region_held3 (
    fun w' => w'.cell? ⟨b, 0, none⟩ = some (pq cb) ∧ w'.cell? ⟨b, 1, none⟩ = some (pq vb) ∧ w'.cell? ⟨b, 2, none⟩ = some (.map (some m)) ∧ w'.cell? ⟨o8, 0, none⟩ = some (.int .i64 ep) ∧ w'.cell? ⟨o8, 1, none⟩ = some (.slice a names.length ac) ∧ w'.cell? ⟨o8, 2, none⟩ = some (.slice i nums.length ic) ∧ w'.cell? ⟨o6, 0, none⟩ = some (.string y.db) ∧ w'.cell? ⟨o6, 1, none⟩ = some (.string y.ro) ∧ w'.cell? ⟨o6, 2, none⟩ = some (.int .i64 y.fm) ∧ w'.cell? ⟨o6, 3, none⟩ = some (.string y.nm))
    (first | exact HD.out _ (by assumption) | exact ⟨(h4.swap.cell 0).trans rfl, (h4.swap.cell 1).trans rfl, (h4.swap.cell 2).trans rfl, (h4.get6.cell 0).trans rfl, (h4.get6.cell 1).trans rfl, (h4.get6.cell 2).trans rfl, (h4.get7.cell 0).trans rfl, (h4.get7.cell 1).trans rfl, (h4.get7.cell 2).trans rfl, (h4.get7.cell 3).trans rfl⟩ | fail)
    (first | (go_at_call 26; (with_reducible refine (HPP.out cb _ _ (Sat.drew h3).swap).mono ?_); rintro e w4 ⟨rfl, h4⟩) | fail)
  go_wp2_with fail
  go_ret2
  exact ⟨rfl, (fi_close (cb := cb) (vb := vb) (m := m) h4.swap rfl).swap.drop.swap.drop⟩

theorem fcopied_q (k : Env) (w : World) (R : Assn) (ep : Int) (a i : Option Addr) (ac ic : Nat) (names : List ByteArray) (nums : List Int) (hr : Rd k R a names) (hi : RdI k R i nums) (hn : names.length ≤ 1000000000) (hm : nums.length ≤ 1000000000) (h : Sat k w R) :
    Calls Try.prog 28 #[.agg #[.int .i64 ep, .slice a names.length ac, .slice i nums.length ic]] w fun e w' => ∃ q, e = .returned q ∧ ∃ s' : StM, Hid (q = s'.v) ∧ s'.ep = ep ∧ s'.names = names ∧ s'.nums = nums ∧ Sat k w' (stampS s' * R) :=
  (fcopied_any k w R ⟨ep, a, ac, names, i, ic, nums⟩ hr hi hn hm h).mono fun e w' ⟨s', p0, p1, p2, p3, p4⟩ => ⟨_, p0, s', rfl, p1, p2, p3, p4⟩

set_option maxRecDepth 100000 in
set_option maxHeartbeats 4000000 in
theorem ffill_ok (k : Env) (w : World) (R : Assn) (b n n' nv : Nat) (c c' : CS) (V : VS) (S : List (Ky × StM)) (y : Ky) (v : ByteArray) (now : Int) (ys : List Ky) (ep : Int) (a i : Option Addr) (ac ic : Nat) (names : List ByteArray) (nums : List Int) (hr : Rd k R a names) (hi : RdI k R i nums) (hn : names.length ≤ 1000000000) (hm : nums.length ≤ 1000000000)
    (htf : true = true ↔ freshV V ep names nums) (htb : false = true ↔ busyV V names) (hyl : (ys.length : Int) ≤ 1073741824)
    (HP : ∀ (cb : Nat) (w' : World) (R' : Assn), Sat k w' (CacheR cb c n * R') → Calls Try.prog 26 #[pq cb, kyV y, .string v, .int .i64 now] w' fun e w'' => ∃ v', e = .returned (.tuple #[v', .int .i64 0]) ∧ Sat k w'' (Kys v' ys * (CacheR cb c' n' * R'))) (h : Sat k w (FillR b c n nv V S * R)) :
    Calls Try.prog 9 #[pq b, kyV y, .string v, .agg #[.int .i64 ep, .slice a names.length ac, .slice i nums.length ic], .int .i64 now] w fun e w' => e = .returned (.tuple #[.bool true, .int .i64 0]) ∧ ∃ s : StM, s.ep = ep ∧ s.names = names ∧ s.nums = nums ∧ Sat k w' (FillR b c' n' nv V (mput y s (mdels ys S)) * R) := by
  have HPP := Lib.hid HP
  clear HP
  have HYL := Lib.hid hyl
  clear hyl
  unfold kyV at HPP
  (
    have h0 := (h.alloc (.cells #[.string y.db, .string y.ro, .int .i64 y.fm, .string y.nm] 30)).alloc (.cells #[.int .i64 ep, .slice a names.length ac, .slice i nums.length ic] 32)
    rw [show (w.alloc (.cells #[.string y.db, .string y.ro, .int .i64 y.fm, .string y.nm] 30)).heap.size = w.heap.size + 1 from by simp] at h0
    clear h
    unfold kyV
    go_enter Try.func9, Try.ntmps9
    go_upto_region 1 with fail
    generalize (w.alloc (.cells #[.string y.db, .string y.ro, .int .i64 y.fm, .string y.nm] 30)).alloc (.cells #[.int .i64 ep, .slice a names.length ac, .slice i nums.length ic] 32) = w0 at *
    generalize w.heap.size = o6 at *
    obtain ⟨o8, ho8⟩ : ∃ o8, o6 + 1 = o8 := ⟨_, rfl⟩
    rw [ho8] at h0 ⊢
    obtain ⟨cb, vb, m, hs⟩ := fi_open h0.get3
    have HD : Hid (∀ w' : World, Sat k w' (blk b (.cells (cellsFi cb vb m) 54 (0, 0)) * (CacheR cb c n * (VersV vb V nv * (MapK kyV m (sents S) * (stars stampR S * (blk o8 (.cells #[.int .i64 ep, .slice a names.length ac, .slice i nums.length ic] 32 (0, 0)) * (blk o6 (.cells #[.string y.db, .string y.ro, .int .i64 y.fm, .string y.nm] 30 (0, 0)) * R))))))) → w'.cell? ⟨b, 0, none⟩ = some (pq cb) ∧ w'.cell? ⟨b, 1, none⟩ = some (pq vb) ∧ w'.cell? ⟨b, 2, none⟩ = some (.map (some m)) ∧ w'.cell? ⟨o8, 0, none⟩ = some (.int .i64 ep) ∧ w'.cell? ⟨o8, 1, none⟩ = some (.slice a names.length ac) ∧ w'.cell? ⟨o8, 2, none⟩ = some (.slice i nums.length ic) ∧ w'.cell? ⟨o6, 0, none⟩ = some (.string y.db) ∧ w'.cell? ⟨o6, 1, none⟩ = some (.string y.ro) ∧ w'.cell? ⟨o6, 2, none⟩ = some (.int .i64 y.fm) ∧ w'.cell? ⟨o6, 3, none⟩ = some (.string y.nm)) :=
      fun w' h' => ⟨h'.cell 0, h'.cell 1, h'.cell 2, h'.get6.cell 0, h'.get6.cell 1, h'.get6.cell 2, h'.get7.cell 0, h'.get7.cell 1, h'.get7.cell 2, h'.get7.cell 3⟩
    have CF := Lib.hid (fun (w' : World) (h' : Sat k w' (blk b (.cells (cellsFi cb vb m) 54 (0, 0)) * (CacheR cb c n * (VersV vb V nv * (MapK kyV m (sents S) * (stars stampR S * (blk o8 (.cells #[.int .i64 ep, .slice a names.length ac, .slice i nums.length ic] 32 (0, 0)) * (blk o6 (.cells #[.string y.db, .string y.ro, .int .i64 y.fm, .string y.nm] 30 (0, 0)) * R)))))))) => (vfresh_is k w' _ vb nv V ⟨ep, a, ac, names, i, ic, nums⟩ (hr.mono fun w' h' => h'.drop.drop.drop.drop.drop.drop) (hi.mono fun w' h' => h'.drop.drop.drop.drop.drop.drop) hn hm true htf h'.get3).mono fun e w'' ⟨p, q⟩ => And.intro p q.put3)
    have CB := Lib.hid (fun (w' : World) (h' : Sat k w' (blk b (.cells (cellsFi cb vb m) 54 (0, 0)) * (CacheR cb c n * (VersV vb V nv * (MapK kyV m (sents S) * (stars stampR S * (blk o8 (.cells #[.int .i64 ep, .slice a names.length ac, .slice i nums.length ic] 32 (0, 0)) * (blk o6 (.cells #[.string y.db, .string y.ro, .int .i64 y.fm, .string y.nm] 30 (0, 0)) * R)))))))) => (vbusy_is k w' _ vb nv V a ac names (hr.mono fun w' h' => h'.drop.drop.drop.drop.drop.drop) hn false htb h'.get3).mono fun e w'' ⟨p, q⟩ => And.intro p q.put3)
    simp only [StM.v] at CF
    have c2 : w0.cell? ⟨b, 2, none⟩ = some (.map (some m)) := hs.cell 2
    clear h0 htf htb
    go_wp2_with (go_at_call 23; refine (fthere_any _ _ _ c2).mono ?_; rintro e w' ⟨rfl, rfl⟩)
    clear c2
    have HRR := Lib.hid hr
    have HII := Lib.hid hi
    clear hr hi
    go_region_held3 (
      fun w' => w'.cell? ⟨b, 0, none⟩ = some (pq cb) ∧ w'.cell? ⟨b, 1, none⟩ = some (pq vb) ∧ w'.cell? ⟨b, 2, none⟩ = some (.map (some m)) ∧ w'.cell? ⟨o8, 0, none⟩ = some (.int .i64 ep) ∧ w'.cell? ⟨o8, 1, none⟩ = some (.slice a names.length ac) ∧ w'.cell? ⟨o8, 2, none⟩ = some (.slice i nums.length ic) ∧ w'.cell? ⟨o6, 0, none⟩ = some (.string y.db) ∧ w'.cell? ⟨o6, 1, none⟩ = some (.string y.ro) ∧ w'.cell? ⟨o6, 2, none⟩ = some (.int .i64 y.fm) ∧ w'.cell? ⟨o6, 3, none⟩ = some (.string y.nm))
      (first | exact HD.out _ (by assumption) | fail)
      (first | (go_at_call 24; (with_reducible refine (CF.out _ (by first | assumption | exact Sat.drew (by assumption))).mono ?_); rintro e w2 ⟨rfl, h2⟩) | (go_at_call 25; (with_reducible refine (CB.out _ (by first | assumption | exact Sat.drew (by assumption))).mono ?_); rintro e w3 ⟨rfl, h3⟩) | fail)
    clear hs h2 CF CB
    go_upto_region 5 with fail)
  go_region_held3 (
    fun w' => w'.cell? ⟨b, 0, none⟩ = some (pq cb) ∧ w'.cell? ⟨b, 1, none⟩ = some (pq vb) ∧ w'.cell? ⟨b, 2, none⟩ = some (.map (some m)) ∧ w'.cell? ⟨o8, 0, none⟩ = some (.int .i64 ep) ∧ w'.cell? ⟨o8, 1, none⟩ = some (.slice a names.length ac) ∧ w'.cell? ⟨o8, 2, none⟩ = some (.slice i nums.length ic) ∧ w'.cell? ⟨o6, 0, none⟩ = some (.string y.db) ∧ w'.cell? ⟨o6, 1, none⟩ = some (.string y.ro) ∧ w'.cell? ⟨o6, 2, none⟩ = some (.int .i64 y.fm) ∧ w'.cell? ⟨o6, 3, none⟩ = some (.string y.nm))
    (first | exact HD.out _ (by assumption) | exact ⟨(h4.get3.cell 0).trans rfl, (h4.get3.cell 1).trans rfl, (h4.get3.cell 2).trans rfl, (h4.get7.cell 0).trans rfl, (h4.get7.cell 1).trans rfl, (h4.get7.cell 2).trans rfl, (h4.get8.cell 0).trans rfl, (h4.get8.cell 1).trans rfl, (h4.get8.cell 2).trans rfl, (h4.get8.cell 3).trans rfl⟩ | fail)
    (first | (go_at_call 26; (with_reducible refine (HPP.out cb _ _ (Sat.drew h3).swap).mono ?_); rintro e w4 ⟨v4, rfl, h4⟩; obtain ⟨xa, xc, rfl⟩ := rec_val h4) | fail)
  have h5 := (fi_close (cb := cb) (vb := vb) (m := m) (b := b) (c := c') (n := n') (nv := nv) (V := V) (S := S) (R := Kys (.slice xa ys.length xc) ys * (blk o8 (.cells #[.int .i64 ep, .slice a names.length ac, .slice i nums.length ic] 32 (0, 0)) * (blk o6 (.cells #[.string y.db, .string y.ro, .int .i64 y.fm, .string y.nm] 30 (0, 0)) * R))) (h4.of_eq (by ac_rfl)) rfl).swap
  clear h4 h3 HD HPP
  go_wp2_with fail
  refine (fforget_any k w4 _ b n' nv c' V S xa xc ys HYL.out h5).mono ?_
  rintro e w5 ⟨rfl, h6⟩
  clear h5
  obtain ⟨cb2, vb2, m2, h7⟩ := fi_open h6.swap
  clear h6
  go_upto_region 9 with fail
  have c2 : w5.cell? ⟨b, 2, none⟩ = some (.map (some m2)) := h7.cell 2
  have s0 : w5.cell? ⟨o8, 0, none⟩ = some (.int .i64 ep) := h7.get7.cell 0
  have s1 : w5.cell? ⟨o8, 1, none⟩ = some (.slice a names.length ac) := h7.get7.cell 1
  have s2 : w5.cell? ⟨o8, 2, none⟩ = some (.slice i nums.length ic) := h7.get7.cell 2
  have k0 : w5.cell? ⟨o6, 0, none⟩ = some (.string y.db) := h7.get8.cell 0
  have k1 : w5.cell? ⟨o6, 1, none⟩ = some (.string y.ro) := h7.get8.cell 1
  have k2 : w5.cell? ⟨o6, 2, none⟩ = some (.int .i64 y.fm) := h7.get8.cell 2
  have k3 : w5.cell? ⟨o6, 3, none⟩ = some (.string y.nm) := h7.get8.cell 3
  have CC := Lib.hid (fcopied_q k w5.drew _ ep a i ac ic names nums (HRR.out.mono fun w' h' => h'.drop.drop.drop.drop.drop.drop.drop.drop) (HII.out.mono fun w' h' => h'.drop.drop.drop.drop.drop.drop.drop.drop) hn hm h7.drew)
  go_region_held3 (fun w' => w'.cell? ⟨b, 2, none⟩ = some (.map (some m2)) ∧ w'.cell? ⟨o8, 0, none⟩ = some (.int .i64 ep) ∧ w'.cell? ⟨o8, 1, none⟩ = some (.slice a names.length ac) ∧ w'.cell? ⟨o8, 2, none⟩ = some (.slice i nums.length ic) ∧ w'.cell? ⟨o6, 0, none⟩ = some (.string y.db) ∧ w'.cell? ⟨o6, 1, none⟩ = some (.string y.ro) ∧ w'.cell? ⟨o6, 2, none⟩ = some (.int .i64 y.fm) ∧ w'.cell? ⟨o6, 3, none⟩ = some (.string y.nm))
    (first | exact ⟨c2, s0, s1, s2, k0, k1, k2, k3⟩ | exact ⟨(h8.swap.cell 2).trans rfl, (h8.get8.cell 0).trans rfl, (h8.get8.cell 1).trans rfl, (h8.get8.cell 2).trans rfl, (h8.get9.cell 0).trans rfl, (h8.get9.cell 1).trans rfl, (h8.get9.cell 2).trans rfl, (h8.get9.cell 3).trans rfl⟩ | exact ⟨(h9.get3.cell 2).trans rfl, (h9.get8.cell 0).trans rfl, (h9.get8.cell 1).trans rfl, (h9.get8.cell 2).trans rfl, (h9.get9.cell 0).trans rfl, (h9.get9.cell 1).trans rfl, (h9.get9.cell 2).trans rfl, (h9.get9.cell 3).trans rfl⟩ | fail)
    (first | (go_at_call 28; (with_reducible refine CC.out.mono ?_); rintro e w6 ⟨q, rfl, s', HQ, p1, p2, p3, h8⟩; obtain ⟨w8, hrun, h9⟩ := run_update_sat (P := Try.prog) KKey mapSt h8.get5 y q; unfold kyV at hrun) | fail)
  rw [HQ.out, sents_put] at h9
  go_wp2_with fail
  go_ret2
  refine ⟨rfl, s', p1, p2, p3, ?_⟩
  have h10 := stars_put y s' (mdels ys S) (blk b (.cells (cellsFi cb2 vb2 m2) 54 (0, 0)) * (CacheR cb2 c' n' * (VersV vb2 V nv * (MapK kyV m2 (sents (mput y s' (mdels ys S))) * (Kys (.slice xa ys.length xc) ys * (blk o8 (.cells #[.int .i64 ep, .slice a names.length ac, .slice i nums.length ic] 32 (0, 0)) * (blk o6 (.cells #[.string y.db, .string y.ro, .int .i64 y.fm, .string y.nm] 30 (0, 0)) * R))))))) (h9.of_eq (by ac_rfl))
  exact (fi_close (cb := cb2) (vb := vb2) (m := m2) h10.put5 rfl).swap.drop.swap.drop.swap.drop

end Go.Proofs.Ytbeidnddahglbaa
