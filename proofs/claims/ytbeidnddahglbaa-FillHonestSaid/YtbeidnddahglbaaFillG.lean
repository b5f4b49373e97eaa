/- Contracts of package fill: Look, where something is kept. -/
import Derived.Test.YtbeidnddahglbaaFillF
namespace Go.Proofs.Ytbeidnddahglbaa
set_option linter.all false
open Go Go.RowKit




set_option maxRecDepth 100000 in
set_option maxHeartbeats 4000000 in
theorem flook_busy (k : Env) (w : World) (R : Assn) (b n nv : Nat) (c : CS) (V : VS) (S : List (Ky × StM)) (y : Ky) (now : Int) (ep : Int) (a i : Option Addr) (ac ic : Nat) (names : List ByteArray) (nums : List Int) (hy : mget y S = some ⟨ep, a, ac, names, i, ic, nums⟩) (hn : names.length ≤ 1000000000) (hm : nums.length ≤ 1000000000)
    (tf tb : Bool) (htf : tf = true ↔ freshV V ep names nums) (htb : tb = true ↔ busyV V names) (hft : tf = true) (hbt : tb = true) (h : Sat k w (FillR b c n nv V S * R)) :
    Calls Try.prog 11 #[pq b, kyV y, .int .i64 now] w fun e w' => e = .returned (.tuple #[.string ⟨#[]⟩, .bool false]) ∧ Sat k w' (FillR b c n nv V S * R) := by
  (
    (
      have h0 := h.alloc (.cells #[.string y.db, .string y.ro, .int .i64 y.fm, .string y.nm] 30)
      clear h
      unfold kyV
      go_enter Try.func11, Try.ntmps11
      go_upto_region 1 with fail
      generalize w.alloc (.cells #[.string y.db, .string y.ro, .int .i64 y.fm, .string y.nm] 30) = w0 at *
      generalize w.heap.size = o4 at *
      obtain ⟨cb, vb, m, hs⟩ := fi_open h0.swap
      have c2 : w0.cell? ⟨b, 2, none⟩ = some (.map (some m)) := hs.cell 2
      have d0 : w0.cell? ⟨o4, 0, none⟩ = some (.string y.db) := hs.get6.cell 0
      have d1 : w0.cell? ⟨o4, 1, none⟩ = some (.string y.ro) := hs.get6.cell 1
      have d2 : w0.cell? ⟨o4, 2, none⟩ = some (.int .i64 y.fm) := hs.get6.cell 2
      have d3 : w0.cell? ⟨o4, 3, none⟩ = some (.string y.nm) := hs.get6.cell 3
      have hbl := hs.lt
      have hol := hs.get6.lt
      have n1 : w0.heap.size ≠ b := by omega
      have n2 : w0.heap.size ≠ o4 := by omega
      have hl := run_lookup_ok_sat KKey mapSt zeroSt hs.drew.get4 y
      have hl2 := run_lookup_ok_sat KKey mapSt zeroSt (Sat.drew (hs.alloc' (.cells #[.int .i64 0, .slice none 0 0, .slice none 0 0] 32))).get4 y
      rw [sents_get] at hl hl2)
    have hrd := fun X => stamp_rd hs.get5 hy X
    rw [hy] at hl hl2
    simp only [Option.map_some, Option.getD_some, Option.isSome_some, StM.v] at hl hl2
    unfold kyV at hl hl2
    simp only at hrd
    go_upto_region 3 with (go_at_call 23; refine (fthere_any _ _ _ c2).mono ?_; rintro e w' ⟨rfl, rfl⟩)
    have hz := hs.alloc (.cells #[.int .i64 ep, .slice a names.length ac, .slice i nums.length ic] 32)
    obtain ⟨o8, ho8⟩ : ∃ o8, w0.heap.size = o8 := ⟨_, rfl⟩
    rw [ho8] at hz
    have HD : Hid (∀ w' : World, Sat k w' (blk b (.cells (cellsFi cb vb m) 54 (0, 0)) * (CacheR cb c n * (VersV vb V nv * (MapK kyV m (sents S) * (stars stampR S * (blk o8 (.cells #[.int .i64 ep, .slice a names.length ac, .slice i nums.length ic] 32 (0, 0)) * (blk o4 (.cells #[.string y.db, .string y.ro, .int .i64 y.fm, .string y.nm] 30 (0, 0)) * R))))))) → w'.cell? ⟨b, 0, none⟩ = some (pq cb) ∧ w'.cell? ⟨b, 1, none⟩ = some (pq vb) ∧ w'.cell? ⟨b, 2, none⟩ = some (.map (some m)) ∧ w'.cell? ⟨o8, 0, none⟩ = some (.int .i64 ep) ∧ w'.cell? ⟨o8, 1, none⟩ = some (.slice a names.length ac) ∧ w'.cell? ⟨o8, 2, none⟩ = some (.slice i nums.length ic) ∧ w'.cell? ⟨o4, 0, none⟩ = some (.string y.db) ∧ w'.cell? ⟨o4, 1, none⟩ = some (.string y.ro) ∧ w'.cell? ⟨o4, 2, none⟩ = some (.int .i64 y.fm) ∧ w'.cell? ⟨o4, 3, none⟩ = some (.string y.nm)) :=
      fun w' h' => ⟨h'.cell 0, h'.cell 1, h'.cell 2, h'.get6.cell 0, h'.get6.cell 1, h'.get6.cell 2, h'.get7.cell 0, h'.get7.cell 1, h'.get7.cell 2, h'.get7.cell 3⟩
    have CF := Lib.hid (fun (w' : World) (h' : Sat k w' (blk b (.cells (cellsFi cb vb m) 54 (0, 0)) * (CacheR cb c n * (VersV vb V nv * (MapK kyV m (sents S) * (stars stampR S * (blk o8 (.cells #[.int .i64 ep, .slice a names.length ac, .slice i nums.length ic] 32 (0, 0)) * (blk o4 (.cells #[.string y.db, .string y.ro, .int .i64 y.fm, .string y.nm] 30 (0, 0)) * R)))))))) => (vfresh_is k w' _ vb nv V ⟨ep, a, ac, names, i, ic, nums⟩ ((hrd (blk b (.cells (cellsFi cb vb m) 54 (0, 0)) * (CacheR cb c n * (MapK kyV m (sents S) * (blk o8 (.cells #[.int .i64 ep, .slice a names.length ac, .slice i nums.length ic] 32 (0, 0)) * (blk o4 (.cells #[.string y.db, .string y.ro, .int .i64 y.fm, .string y.nm] 30 (0, 0)) * R)))))).1.mono fun w' h' => h'.get4) ((hrd (blk b (.cells (cellsFi cb vb m) 54 (0, 0)) * (CacheR cb c n * (MapK kyV m (sents S) * (blk o8 (.cells #[.int .i64 ep, .slice a names.length ac, .slice i nums.length ic] 32 (0, 0)) * (blk o4 (.cells #[.string y.db, .string y.ro, .int .i64 y.fm, .string y.nm] 30 (0, 0)) * R)))))).2.mono fun w' h' => h'.get4) hn hm tf htf h'.get3).mono fun e w'' ⟨p, q⟩ => And.intro p q.put3)
    have CB := Lib.hid (fun (w' : World) (h' : Sat k w' (blk b (.cells (cellsFi cb vb m) 54 (0, 0)) * (CacheR cb c n * (VersV vb V nv * (MapK kyV m (sents S) * (stars stampR S * (blk o8 (.cells #[.int .i64 ep, .slice a names.length ac, .slice i nums.length ic] 32 (0, 0)) * (blk o4 (.cells #[.string y.db, .string y.ro, .int .i64 y.fm, .string y.nm] 30 (0, 0)) * R)))))))) => (vbusy_is k w' _ vb nv V a ac names ((hrd (blk b (.cells (cellsFi cb vb m) 54 (0, 0)) * (CacheR cb c n * (MapK kyV m (sents S) * (blk o8 (.cells #[.int .i64 ep, .slice a names.length ac, .slice i nums.length ic] 32 (0, 0)) * (blk o4 (.cells #[.string y.db, .string y.ro, .int .i64 y.fm, .string y.nm] 30 (0, 0)) * R)))))).1.mono fun w' h' => h'.get4) hn tb htb h'.get3).mono fun e w'' ⟨p, q⟩ => And.intro p q.put3)
    simp only [StM.v] at CF
    have HZ : Hid (Sat k (w0.alloc (.cells #[.int .i64 ep, .slice a names.length ac, .slice i nums.length ic] 32)) (blk b (.cells (cellsFi cb vb m) 54 (0, 0)) * (CacheR cb c n * (VersV vb V nv * (MapK kyV m (sents S) * (stars stampR S * (blk o8 (.cells #[.int .i64 ep, .slice a names.length ac, .slice i nums.length ic] 32 (0, 0)) * (blk o4 (.cells #[.string y.db, .string y.ro, .int .i64 y.fm, .string y.nm] 30 (0, 0)) * R)))))))) := hz.of_eq (by ac_rfl)
    clear hs hrd h0 htf htb hz
    go_region_held3 (fun w' => w'.cell? ⟨b, 2, none⟩ = some (.map (some m)) ∧ w'.cell? ⟨o4, 0, none⟩ = some (.string y.db) ∧ w'.cell? ⟨o4, 1, none⟩ = some (.string y.ro) ∧ w'.cell? ⟨o4, 2, none⟩ = some (.int .i64 y.fm) ∧ w'.cell? ⟨o4, 3, none⟩ = some (.string y.nm)) (go_keep) (fail))
  all_goals
    subst hft hbt
    have h3 := Sat.drew HZ.out
    clear HZ hl hl2 n1 n2 hbl hol c2 d0 d1 d2 d3 ho8
    generalize (w0.alloc (.cells #[.int .i64 ep, .slice a names.length ac, .slice i nums.length ic] 32)).drew = w3 at *
    go_upto_region 6 with fail
    go_region_held3 (
      fun w' => w'.cell? ⟨b, 0, none⟩ = some (pq cb) ∧ w'.cell? ⟨b, 1, none⟩ = some (pq vb) ∧ w'.cell? ⟨b, 2, none⟩ = some (.map (some m)) ∧ w'.cell? ⟨o8, 0, none⟩ = some (.int .i64 ep) ∧ w'.cell? ⟨o8, 1, none⟩ = some (.slice a names.length ac) ∧ w'.cell? ⟨o8, 2, none⟩ = some (.slice i nums.length ic) ∧ w'.cell? ⟨o4, 0, none⟩ = some (.string y.db) ∧ w'.cell? ⟨o4, 1, none⟩ = some (.string y.ro) ∧ w'.cell? ⟨o4, 2, none⟩ = some (.int .i64 y.fm) ∧ w'.cell? ⟨o4, 3, none⟩ = some (.string y.nm))
      (first | exact HD.out _ (by assumption) | fail)
      (first | (go_at_call 24; (with_reducible refine (CF.out _ (by first | assumption | exact Sat.drew (by assumption))).mono ?_); rintro e w4 ⟨rfl, h4⟩) | fail)
    go_upto_region 10 with fail
    go_region_held3 (
      fun w' => w'.cell? ⟨b, 0, none⟩ = some (pq cb) ∧ w'.cell? ⟨b, 1, none⟩ = some (pq vb) ∧ w'.cell? ⟨b, 2, none⟩ = some (.map (some m)) ∧ w'.cell? ⟨o8, 0, none⟩ = some (.int .i64 ep) ∧ w'.cell? ⟨o8, 1, none⟩ = some (.slice a names.length ac) ∧ w'.cell? ⟨o8, 2, none⟩ = some (.slice i nums.length ic) ∧ w'.cell? ⟨o4, 0, none⟩ = some (.string y.db) ∧ w'.cell? ⟨o4, 1, none⟩ = some (.string y.ro) ∧ w'.cell? ⟨o4, 2, none⟩ = some (.int .i64 y.fm) ∧ w'.cell? ⟨o4, 3, none⟩ = some (.string y.nm))
      (first | exact HD.out _ (by assumption) | fail)
      (first | (go_at_call 25; (with_reducible refine (CB.out _ (by first | exact h4 | exact Sat.drew h4)).mono ?_); rintro e w5 ⟨rfl, h5⟩) | fail)
    go_wp2_with fail
    go_ret2
    exact ⟨rfl, (fi_close (cb := cb) (vb := vb) (m := m) h5 rfl).swap.drop.swap.drop⟩

set_option maxRecDepth 100000 in
set_option maxHeartbeats 4000000 in
theorem flook_stale (k : Env) (w : World) (R : Assn) (b n n' nv : Nat) (c c' : CS) (V : VS) (S : List (Ky × StM)) (y : Ky) (now : Int) (ep : Int) (a i : Option Addr) (ac ic : Nat) (names : List ByteArray) (nums : List Int) (hy : mget y S = some ⟨ep, a, ac, names, i, ic, nums⟩) (hn : names.length ≤ 1000000000) (hm : nums.length ≤ 1000000000)
    (tf tb : Bool) (htf : tf = true ↔ freshV V ep names nums) (htb : tb = true ↔ busyV V names) (hft : tf = false)
    (HDr : ∀ (cb : Nat) (w' : World) (R' : Assn), Sat k w' (CacheR cb c n * R') → Calls Try.prog 30 #[pq cb, kyV y] w' fun e w'' => ∃ r : Bool, e = .returned (.bool r) ∧ Sat k w'' (CacheR cb c' n' * R')) (h : Sat k w (FillR b c n nv V S * R)) :
    Calls Try.prog 11 #[pq b, kyV y, .int .i64 now] w fun e w' => e = .returned (.tuple #[.string ⟨#[]⟩, .bool false]) ∧ Sat k w' (FillR b c' n' nv V (mdel y S) * R) := by
  have HDD := Lib.hid HDr
  clear HDr
  unfold kyV at HDD
  (
    (
      have h0 := h.alloc (.cells #[.string y.db, .string y.ro, .int .i64 y.fm, .string y.nm] 30)
      clear h
      unfold kyV
      go_enter Try.func11, Try.ntmps11
      go_upto_region 1 with fail
      generalize w.alloc (.cells #[.string y.db, .string y.ro, .int .i64 y.fm, .string y.nm] 30) = w0 at *
      generalize w.heap.size = o4 at *
      obtain ⟨cb, vb, m, hs⟩ := fi_open h0.swap
      have c2 : w0.cell? ⟨b, 2, none⟩ = some (.map (some m)) := hs.cell 2
      have d0 : w0.cell? ⟨o4, 0, none⟩ = some (.string y.db) := hs.get6.cell 0
      have d1 : w0.cell? ⟨o4, 1, none⟩ = some (.string y.ro) := hs.get6.cell 1
      have d2 : w0.cell? ⟨o4, 2, none⟩ = some (.int .i64 y.fm) := hs.get6.cell 2
      have d3 : w0.cell? ⟨o4, 3, none⟩ = some (.string y.nm) := hs.get6.cell 3
      have hbl := hs.lt
      have hol := hs.get6.lt
      have n1 : w0.heap.size ≠ b := by omega
      have n2 : w0.heap.size ≠ o4 := by omega
      have hl := run_lookup_ok_sat KKey mapSt zeroSt hs.drew.get4 y
      have hl2 := run_lookup_ok_sat KKey mapSt zeroSt (Sat.drew (hs.alloc' (.cells #[.int .i64 0, .slice none 0 0, .slice none 0 0] 32))).get4 y
      rw [sents_get] at hl hl2)
    have hrd := fun X => stamp_rd hs.get5 hy X
    rw [hy] at hl hl2
    simp only [Option.map_some, Option.getD_some, Option.isSome_some, StM.v] at hl hl2
    unfold kyV at hl hl2
    simp only at hrd
    go_upto_region 3 with (go_at_call 23; refine (fthere_any _ _ _ c2).mono ?_; rintro e w' ⟨rfl, rfl⟩)
    have hz := hs.alloc (.cells #[.int .i64 ep, .slice a names.length ac, .slice i nums.length ic] 32)
    obtain ⟨o8, ho8⟩ : ∃ o8, w0.heap.size = o8 := ⟨_, rfl⟩
    rw [ho8] at hz
    have HD : Hid (∀ w' : World, Sat k w' (blk b (.cells (cellsFi cb vb m) 54 (0, 0)) * (CacheR cb c n * (VersV vb V nv * (MapK kyV m (sents S) * (stars stampR S * (blk o8 (.cells #[.int .i64 ep, .slice a names.length ac, .slice i nums.length ic] 32 (0, 0)) * (blk o4 (.cells #[.string y.db, .string y.ro, .int .i64 y.fm, .string y.nm] 30 (0, 0)) * R))))))) → w'.cell? ⟨b, 0, none⟩ = some (pq cb) ∧ w'.cell? ⟨b, 1, none⟩ = some (pq vb) ∧ w'.cell? ⟨b, 2, none⟩ = some (.map (some m)) ∧ w'.cell? ⟨o8, 0, none⟩ = some (.int .i64 ep) ∧ w'.cell? ⟨o8, 1, none⟩ = some (.slice a names.length ac) ∧ w'.cell? ⟨o8, 2, none⟩ = some (.slice i nums.length ic) ∧ w'.cell? ⟨o4, 0, none⟩ = some (.string y.db) ∧ w'.cell? ⟨o4, 1, none⟩ = some (.string y.ro) ∧ w'.cell? ⟨o4, 2, none⟩ = some (.int .i64 y.fm) ∧ w'.cell? ⟨o4, 3, none⟩ = some (.string y.nm)) :=
      fun w' h' => ⟨h'.cell 0, h'.cell 1, h'.cell 2, h'.get6.cell 0, h'.get6.cell 1, h'.get6.cell 2, h'.get7.cell 0, h'.get7.cell 1, h'.get7.cell 2, h'.get7.cell 3⟩
    have CF := Lib.hid (fun (w' : World) (h' : Sat k w' (blk b (.cells (cellsFi cb vb m) 54 (0, 0)) * (CacheR cb c n * (VersV vb V nv * (MapK kyV m (sents S) * (stars stampR S * (blk o8 (.cells #[.int .i64 ep, .slice a names.length ac, .slice i nums.length ic] 32 (0, 0)) * (blk o4 (.cells #[.string y.db, .string y.ro, .int .i64 y.fm, .string y.nm] 30 (0, 0)) * R)))))))) => (vfresh_is k w' _ vb nv V ⟨ep, a, ac, names, i, ic, nums⟩ ((hrd (blk b (.cells (cellsFi cb vb m) 54 (0, 0)) * (CacheR cb c n * (MapK kyV m (sents S) * (blk o8 (.cells #[.int .i64 ep, .slice a names.length ac, .slice i nums.length ic] 32 (0, 0)) * (blk o4 (.cells #[.string y.db, .string y.ro, .int .i64 y.fm, .string y.nm] 30 (0, 0)) * R)))))).1.mono fun w' h' => h'.get4) ((hrd (blk b (.cells (cellsFi cb vb m) 54 (0, 0)) * (CacheR cb c n * (MapK kyV m (sents S) * (blk o8 (.cells #[.int .i64 ep, .slice a names.length ac, .slice i nums.length ic] 32 (0, 0)) * (blk o4 (.cells #[.string y.db, .string y.ro, .int .i64 y.fm, .string y.nm] 30 (0, 0)) * R)))))).2.mono fun w' h' => h'.get4) hn hm tf htf h'.get3).mono fun e w'' ⟨p, q⟩ => And.intro p q.put3)
    have CB := Lib.hid (fun (w' : World) (h' : Sat k w' (blk b (.cells (cellsFi cb vb m) 54 (0, 0)) * (CacheR cb c n * (VersV vb V nv * (MapK kyV m (sents S) * (stars stampR S * (blk o8 (.cells #[.int .i64 ep, .slice a names.length ac, .slice i nums.length ic] 32 (0, 0)) * (blk o4 (.cells #[.string y.db, .string y.ro, .int .i64 y.fm, .string y.nm] 30 (0, 0)) * R)))))))) => (vbusy_is k w' _ vb nv V a ac names ((hrd (blk b (.cells (cellsFi cb vb m) 54 (0, 0)) * (CacheR cb c n * (MapK kyV m (sents S) * (blk o8 (.cells #[.int .i64 ep, .slice a names.length ac, .slice i nums.length ic] 32 (0, 0)) * (blk o4 (.cells #[.string y.db, .string y.ro, .int .i64 y.fm, .string y.nm] 30 (0, 0)) * R)))))).1.mono fun w' h' => h'.get4) hn tb htb h'.get3).mono fun e w'' ⟨p, q⟩ => And.intro p q.put3)
    simp only [StM.v] at CF
    have HZ : Hid (Sat k (w0.alloc (.cells #[.int .i64 ep, .slice a names.length ac, .slice i nums.length ic] 32)) (blk b (.cells (cellsFi cb vb m) 54 (0, 0)) * (CacheR cb c n * (VersV vb V nv * (MapK kyV m (sents S) * (stars stampR S * (blk o8 (.cells #[.int .i64 ep, .slice a names.length ac, .slice i nums.length ic] 32 (0, 0)) * (blk o4 (.cells #[.string y.db, .string y.ro, .int .i64 y.fm, .string y.nm] 30 (0, 0)) * R)))))))) := hz.of_eq (by ac_rfl)
    clear hs hrd h0 htf htb hz
    go_region_held3 (fun w' => w'.cell? ⟨b, 2, none⟩ = some (.map (some m)) ∧ w'.cell? ⟨o4, 0, none⟩ = some (.string y.db) ∧ w'.cell? ⟨o4, 1, none⟩ = some (.string y.ro) ∧ w'.cell? ⟨o4, 2, none⟩ = some (.int .i64 y.fm) ∧ w'.cell? ⟨o4, 3, none⟩ = some (.string y.nm)) (go_keep) (fail))
  all_goals
    subst hft
    have h3 := Sat.drew HZ.out
    clear HZ hl hl2 n1 n2 hbl hol c2 d0 d1 d2 d3 ho8
    generalize (w0.alloc (.cells #[.int .i64 ep, .slice a names.length ac, .slice i nums.length ic] 32)).drew = w3 at *
    go_upto_region 6 with fail
    go_region_held3 (
      fun w' => w'.cell? ⟨b, 0, none⟩ = some (pq cb) ∧ w'.cell? ⟨b, 1, none⟩ = some (pq vb) ∧ w'.cell? ⟨b, 2, none⟩ = some (.map (some m)) ∧ w'.cell? ⟨o8, 0, none⟩ = some (.int .i64 ep) ∧ w'.cell? ⟨o8, 1, none⟩ = some (.slice a names.length ac) ∧ w'.cell? ⟨o8, 2, none⟩ = some (.slice i nums.length ic) ∧ w'.cell? ⟨o4, 0, none⟩ = some (.string y.db) ∧ w'.cell? ⟨o4, 1, none⟩ = some (.string y.ro) ∧ w'.cell? ⟨o4, 2, none⟩ = some (.int .i64 y.fm) ∧ w'.cell? ⟨o4, 3, none⟩ = some (.string y.nm))
      (first | exact HD.out _ (by assumption) | fail)
      (first | (go_at_call 24; (with_reducible refine (CF.out _ (by first | assumption | exact Sat.drew (by assumption))).mono ?_); rintro e w4 ⟨rfl, h4⟩) | fail)
    go_upto_region 7 with fail
    go_region_held3 (
      fun w' => w'.cell? ⟨b, 0, none⟩ = some (pq cb) ∧ w'.cell? ⟨b, 1, none⟩ = some (pq vb) ∧ w'.cell? ⟨b, 2, none⟩ = some (.map (some m)) ∧ w'.cell? ⟨o8, 0, none⟩ = some (.int .i64 ep) ∧ w'.cell? ⟨o8, 1, none⟩ = some (.slice a names.length ac) ∧ w'.cell? ⟨o8, 2, none⟩ = some (.slice i nums.length ic) ∧ w'.cell? ⟨o4, 0, none⟩ = some (.string y.db) ∧ w'.cell? ⟨o4, 1, none⟩ = some (.string y.ro) ∧ w'.cell? ⟨o4, 2, none⟩ = some (.int .i64 y.fm) ∧ w'.cell? ⟨o4, 3, none⟩ = some (.string y.nm))
      (first | exact HD.out _ (by assumption) | exact ⟨(h5.swap.cell 0).trans rfl, (h5.swap.cell 1).trans rfl, (h5.swap.cell 2).trans rfl, (h5.get6.cell 0).trans rfl, (h5.get6.cell 1).trans rfl, (h5.get6.cell 2).trans rfl, (h5.get7.cell 0).trans rfl, (h5.get7.cell 1).trans rfl, (h5.get7.cell 2).trans rfl, (h5.get7.cell 3).trans rfl⟩ | fail)
      (first | (go_at_call 30; (with_reducible refine (HDD.out cb _ _ (Sat.drew h4).swap).mono ?_); rintro e w5 ⟨rr, rfl, h5⟩) | fail)
    go_upto_region 8 with fail
    go_region_held3 (
      fun w' => w'.cell? ⟨b, 0, none⟩ = some (pq cb) ∧ w'.cell? ⟨b, 1, none⟩ = some (pq vb) ∧ w'.cell? ⟨b, 2, none⟩ = some (.map (some m)) ∧ w'.cell? ⟨o8, 0, none⟩ = some (.int .i64 ep) ∧ w'.cell? ⟨o8, 1, none⟩ = some (.slice a names.length ac) ∧ w'.cell? ⟨o8, 2, none⟩ = some (.slice i nums.length ic) ∧ w'.cell? ⟨o4, 0, none⟩ = some (.string y.db) ∧ w'.cell? ⟨o4, 1, none⟩ = some (.string y.ro) ∧ w'.cell? ⟨o4, 2, none⟩ = some (.int .i64 y.fm) ∧ w'.cell? ⟨o4, 3, none⟩ = some (.string y.nm))
      (first | exact ⟨(h5.swap.cell 0).trans rfl, (h5.swap.cell 1).trans rfl, (h5.swap.cell 2).trans rfl, (h5.get6.cell 0).trans rfl, (h5.get6.cell 1).trans rfl, (h5.get6.cell 2).trans rfl, (h5.get7.cell 0).trans rfl, (h5.get7.cell 1).trans rfl, (h5.get7.cell 2).trans rfl, (h5.get7.cell 3).trans rfl⟩ | exact ⟨(h6.get3.cell 0).trans rfl, (h6.get3.cell 1).trans rfl, (h6.get3.cell 2).trans rfl, (h6.get6.cell 0).trans rfl, (h6.get6.cell 1).trans rfl, (h6.get6.cell 2).trans rfl, (h6.get7.cell 0).trans rfl, (h6.get7.cell 1).trans rfl, (h6.get7.cell 2).trans rfl, (h6.get7.cell 3).trans rfl⟩ | fail)
      ((refine step_delete_sat KKey mapSt (Sat.drew h5).get4 y (.tmp 43) (.tmp 44) rfl rfl rfl rfl ?_; intro w6 h6))
    rw [sents_del] at h6
    go_wp2_with fail
    go_ret2
    have h7 := stars_del y S (blk b (.cells (cellsFi cb vb m) 54 (0, 0)) * (CacheR cb c' n' * (VersV vb V nv * (MapK kyV m (sents (mdel y S)) * (blk o8 (.cells #[.int .i64 ep, .slice a names.length ac, .slice i nums.length ic] 32 (0, 0)) * (blk o4 (.cells #[.string y.db, .string y.ro, .int .i64 y.fm, .string y.nm] 30 (0, 0)) * R)))))) (h6.of_eq (by ac_rfl))
    exact ⟨rfl, (fi_close (cb := cb) (vb := vb) (m := m) h7.put5 rfl).swap.drop.swap.drop⟩

set_option maxRecDepth 100000 in
set_option maxHeartbeats 4000000 in
theorem flook_got (k : Env) (w : World) (R : Assn) (b n n' nv : Nat) (c c' : CS) (V : VS) (S : List (Ky × StM)) (y : Ky) (now : Int) (v : ByteArray) (ep : Int) (a i : Option Addr) (ac ic : Nat) (names : List ByteArray) (nums : List Int) (hy : mget y S = some ⟨ep, a, ac, names, i, ic, nums⟩) (hn : names.length ≤ 1000000000) (hm : nums.length ≤ 1000000000)
    (tf tb : Bool) (htf : tf = true ↔ freshV V ep names nums) (htb : tb = true ↔ busyV V names) (hft : tf = true) (hbt : tb = false)
    (HG : ∀ (cb : Nat) (w' : World) (R' : Assn), Sat k w' (CacheR cb c n * R') → Calls Try.prog 31 #[pq cb, kyV y, .int .i64 now] w' fun e w'' => e = .returned (.tuple #[.string v, .bool true]) ∧ Sat k w'' (CacheR cb c' n' * R')) (h : Sat k w (FillR b c n nv V S * R)) :
    Calls Try.prog 11 #[pq b, kyV y, .int .i64 now] w fun e w' => e = .returned (.tuple #[.string v, .bool true]) ∧ Sat k w' (FillR b c' n' nv V S * R) := by
  have HGG := Lib.hid HG
  clear HG
  unfold kyV at HGG
  (
    (
      have h0 := h.alloc (.cells #[.string y.db, .string y.ro, .int .i64 y.fm, .string y.nm] 30)
      clear h
      unfold kyV
      go_enter Try.func11, Try.ntmps11
      go_upto_region 1 with fail
      generalize w.alloc (.cells #[.string y.db, .string y.ro, .int .i64 y.fm, .string y.nm] 30) = w0 at *
      generalize w.heap.size = o4 at *
      obtain ⟨cb, vb, m, hs⟩ := fi_open h0.swap
      have c2 : w0.cell? ⟨b, 2, none⟩ = some (.map (some m)) := hs.cell 2
      have d0 : w0.cell? ⟨o4, 0, none⟩ = some (.string y.db) := hs.get6.cell 0
      have d1 : w0.cell? ⟨o4, 1, none⟩ = some (.string y.ro) := hs.get6.cell 1
      have d2 : w0.cell? ⟨o4, 2, none⟩ = some (.int .i64 y.fm) := hs.get6.cell 2
      have d3 : w0.cell? ⟨o4, 3, none⟩ = some (.string y.nm) := hs.get6.cell 3
      have hbl := hs.lt
      have hol := hs.get6.lt
      have n1 : w0.heap.size ≠ b := by omega
      have n2 : w0.heap.size ≠ o4 := by omega
      have hl := run_lookup_ok_sat KKey mapSt zeroSt hs.drew.get4 y
      have hl2 := run_lookup_ok_sat KKey mapSt zeroSt (Sat.drew (hs.alloc' (.cells #[.int .i64 0, .slice none 0 0, .slice none 0 0] 32))).get4 y
      rw [sents_get] at hl hl2)
    have hrd := fun X => stamp_rd hs.get5 hy X
    rw [hy] at hl hl2
    simp only [Option.map_some, Option.getD_some, Option.isSome_some, StM.v] at hl hl2
    unfold kyV at hl hl2
    simp only at hrd
    go_upto_region 3 with (go_at_call 23; refine (fthere_any _ _ _ c2).mono ?_; rintro e w' ⟨rfl, rfl⟩)
    have hz := hs.alloc (.cells #[.int .i64 ep, .slice a names.length ac, .slice i nums.length ic] 32)
    obtain ⟨o8, ho8⟩ : ∃ o8, w0.heap.size = o8 := ⟨_, rfl⟩
    rw [ho8] at hz
    have HD : Hid (∀ w' : World, Sat k w' (blk b (.cells (cellsFi cb vb m) 54 (0, 0)) * (CacheR cb c n * (VersV vb V nv * (MapK kyV m (sents S) * (stars stampR S * (blk o8 (.cells #[.int .i64 ep, .slice a names.length ac, .slice i nums.length ic] 32 (0, 0)) * (blk o4 (.cells #[.string y.db, .string y.ro, .int .i64 y.fm, .string y.nm] 30 (0, 0)) * R))))))) → w'.cell? ⟨b, 0, none⟩ = some (pq cb) ∧ w'.cell? ⟨b, 1, none⟩ = some (pq vb) ∧ w'.cell? ⟨b, 2, none⟩ = some (.map (some m)) ∧ w'.cell? ⟨o8, 0, none⟩ = some (.int .i64 ep) ∧ w'.cell? ⟨o8, 1, none⟩ = some (.slice a names.length ac) ∧ w'.cell? ⟨o8, 2, none⟩ = some (.slice i nums.length ic) ∧ w'.cell? ⟨o4, 0, none⟩ = some (.string y.db) ∧ w'.cell? ⟨o4, 1, none⟩ = some (.string y.ro) ∧ w'.cell? ⟨o4, 2, none⟩ = some (.int .i64 y.fm) ∧ w'.cell? ⟨o4, 3, none⟩ = some (.string y.nm)) :=
      fun w' h' => ⟨h'.cell 0, h'.cell 1, h'.cell 2, h'.get6.cell 0, h'.get6.cell 1, h'.get6.cell 2, h'.get7.cell 0, h'.get7.cell 1, h'.get7.cell 2, h'.get7.cell 3⟩
    have CF := Lib.hid (fun (w' : World) (h' : Sat k w' (blk b (.cells (cellsFi cb vb m) 54 (0, 0)) * (CacheR cb c n * (VersV vb V nv * (MapK kyV m (sents S) * (stars stampR S * (blk o8 (.cells #[.int .i64 ep, .slice a names.length ac, .slice i nums.length ic] 32 (0, 0)) * (blk o4 (.cells #[.string y.db, .string y.ro, .int .i64 y.fm, .string y.nm] 30 (0, 0)) * R)))))))) => (vfresh_is k w' _ vb nv V ⟨ep, a, ac, names, i, ic, nums⟩ ((hrd (blk b (.cells (cellsFi cb vb m) 54 (0, 0)) * (CacheR cb c n * (MapK kyV m (sents S) * (blk o8 (.cells #[.int .i64 ep, .slice a names.length ac, .slice i nums.length ic] 32 (0, 0)) * (blk o4 (.cells #[.string y.db, .string y.ro, .int .i64 y.fm, .string y.nm] 30 (0, 0)) * R)))))).1.mono fun w' h' => h'.get4) ((hrd (blk b (.cells (cellsFi cb vb m) 54 (0, 0)) * (CacheR cb c n * (MapK kyV m (sents S) * (blk o8 (.cells #[.int .i64 ep, .slice a names.length ac, .slice i nums.length ic] 32 (0, 0)) * (blk o4 (.cells #[.string y.db, .string y.ro, .int .i64 y.fm, .string y.nm] 30 (0, 0)) * R)))))).2.mono fun w' h' => h'.get4) hn hm tf htf h'.get3).mono fun e w'' ⟨p, q⟩ => And.intro p q.put3)
    have CB := Lib.hid (fun (w' : World) (h' : Sat k w' (blk b (.cells (cellsFi cb vb m) 54 (0, 0)) * (CacheR cb c n * (VersV vb V nv * (MapK kyV m (sents S) * (stars stampR S * (blk o8 (.cells #[.int .i64 ep, .slice a names.length ac, .slice i nums.length ic] 32 (0, 0)) * (blk o4 (.cells #[.string y.db, .string y.ro, .int .i64 y.fm, .string y.nm] 30 (0, 0)) * R)))))))) => (vbusy_is k w' _ vb nv V a ac names ((hrd (blk b (.cells (cellsFi cb vb m) 54 (0, 0)) * (CacheR cb c n * (MapK kyV m (sents S) * (blk o8 (.cells #[.int .i64 ep, .slice a names.length ac, .slice i nums.length ic] 32 (0, 0)) * (blk o4 (.cells #[.string y.db, .string y.ro, .int .i64 y.fm, .string y.nm] 30 (0, 0)) * R)))))).1.mono fun w' h' => h'.get4) hn tb htb h'.get3).mono fun e w'' ⟨p, q⟩ => And.intro p q.put3)
    simp only [StM.v] at CF
    have HZ : Hid (Sat k (w0.alloc (.cells #[.int .i64 ep, .slice a names.length ac, .slice i nums.length ic] 32)) (blk b (.cells (cellsFi cb vb m) 54 (0, 0)) * (CacheR cb c n * (VersV vb V nv * (MapK kyV m (sents S) * (stars stampR S * (blk o8 (.cells #[.int .i64 ep, .slice a names.length ac, .slice i nums.length ic] 32 (0, 0)) * (blk o4 (.cells #[.string y.db, .string y.ro, .int .i64 y.fm, .string y.nm] 30 (0, 0)) * R)))))))) := hz.of_eq (by ac_rfl)
    clear hs hrd h0 htf htb hz
    go_region_held3 (fun w' => w'.cell? ⟨b, 2, none⟩ = some (.map (some m)) ∧ w'.cell? ⟨o4, 0, none⟩ = some (.string y.db) ∧ w'.cell? ⟨o4, 1, none⟩ = some (.string y.ro) ∧ w'.cell? ⟨o4, 2, none⟩ = some (.int .i64 y.fm) ∧ w'.cell? ⟨o4, 3, none⟩ = some (.string y.nm)) (go_keep) (fail))
  all_goals
    subst hft hbt
    have h3 := Sat.drew HZ.out
    clear HZ hl hl2 n1 n2 hbl hol c2 d0 d1 d2 d3 ho8
    generalize (w0.alloc (.cells #[.int .i64 ep, .slice a names.length ac, .slice i nums.length ic] 32)).drew = w3 at *
    go_upto_region 6 with fail
    go_region_held3 (
      fun w' => w'.cell? ⟨b, 0, none⟩ = some (pq cb) ∧ w'.cell? ⟨b, 1, none⟩ = some (pq vb) ∧ w'.cell? ⟨b, 2, none⟩ = some (.map (some m)) ∧ w'.cell? ⟨o8, 0, none⟩ = some (.int .i64 ep) ∧ w'.cell? ⟨o8, 1, none⟩ = some (.slice a names.length ac) ∧ w'.cell? ⟨o8, 2, none⟩ = some (.slice i nums.length ic) ∧ w'.cell? ⟨o4, 0, none⟩ = some (.string y.db) ∧ w'.cell? ⟨o4, 1, none⟩ = some (.string y.ro) ∧ w'.cell? ⟨o4, 2, none⟩ = some (.int .i64 y.fm) ∧ w'.cell? ⟨o4, 3, none⟩ = some (.string y.nm))
      (first | exact HD.out _ (by assumption) | fail)
      (first | (go_at_call 24; (with_reducible refine (CF.out _ (by first | assumption | exact Sat.drew (by assumption))).mono ?_); rintro e w4 ⟨rfl, h4⟩) | fail)
    go_upto_region 10 with fail
    go_region_held3 (
      fun w' => w'.cell? ⟨b, 0, none⟩ = some (pq cb) ∧ w'.cell? ⟨b, 1, none⟩ = some (pq vb) ∧ w'.cell? ⟨b, 2, none⟩ = some (.map (some m)) ∧ w'.cell? ⟨o8, 0, none⟩ = some (.int .i64 ep) ∧ w'.cell? ⟨o8, 1, none⟩ = some (.slice a names.length ac) ∧ w'.cell? ⟨o8, 2, none⟩ = some (.slice i nums.length ic) ∧ w'.cell? ⟨o4, 0, none⟩ = some (.string y.db) ∧ w'.cell? ⟨o4, 1, none⟩ = some (.string y.ro) ∧ w'.cell? ⟨o4, 2, none⟩ = some (.int .i64 y.fm) ∧ w'.cell? ⟨o4, 3, none⟩ = some (.string y.nm))
      (first | exact HD.out _ (by assumption) | fail)
      (first | (go_at_call 25; (with_reducible refine (CB.out _ (by first | exact h4 | exact Sat.drew h4)).mono ?_); rintro e w5 ⟨rfl, h5⟩) | fail)
    go_upto_region 12 with fail
    go_region_held3 (
      fun w' => w'.cell? ⟨b, 0, none⟩ = some (pq cb) ∧ w'.cell? ⟨b, 1, none⟩ = some (pq vb) ∧ w'.cell? ⟨b, 2, none⟩ = some (.map (some m)) ∧ w'.cell? ⟨o8, 0, none⟩ = some (.int .i64 ep) ∧ w'.cell? ⟨o8, 1, none⟩ = some (.slice a names.length ac) ∧ w'.cell? ⟨o8, 2, none⟩ = some (.slice i nums.length ic) ∧ w'.cell? ⟨o4, 0, none⟩ = some (.string y.db) ∧ w'.cell? ⟨o4, 1, none⟩ = some (.string y.ro) ∧ w'.cell? ⟨o4, 2, none⟩ = some (.int .i64 y.fm) ∧ w'.cell? ⟨o4, 3, none⟩ = some (.string y.nm))
      (first | exact HD.out _ (by assumption) | exact ⟨(h6.swap.cell 0).trans rfl, (h6.swap.cell 1).trans rfl, (h6.swap.cell 2).trans rfl, (h6.get6.cell 0).trans rfl, (h6.get6.cell 1).trans rfl, (h6.get6.cell 2).trans rfl, (h6.get7.cell 0).trans rfl, (h6.get7.cell 1).trans rfl, (h6.get7.cell 2).trans rfl, (h6.get7.cell 3).trans rfl⟩ | fail)
      (first | (go_at_call 31; (with_reducible refine (HGG.out cb _ _ (Sat.drew h5).swap).mono ?_); rintro e w6 ⟨rfl, h6⟩) | fail)
    go_wp2_with fail
    go_ret2
    exact ⟨rfl, (fi_close (cb := cb) (vb := vb) (m := m) h6.swap rfl).swap.drop.swap.drop⟩

end Go.Proofs.Ytbeidnddahglbaa
