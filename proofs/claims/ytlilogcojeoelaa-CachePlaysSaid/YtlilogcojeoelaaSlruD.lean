/- Contracts of package slru: unlink and link under the invariant, remove, slot. -/
import Derived.Test.YtlilogcojeoelaaSlruC
import Derived.Test.YtlilogcojeoelaaMB
import Derived.Deep.RegionLaw
namespace Go.Proofs.Ytlilogcojeoelaa
set_option linter.all false
open Go Go.RowKit

theorem unlink_any (k : Env) (w : World) (R : Assn) (b : Nat) (st : St) (i : Nat) (x : Ent) (hx : st.A[i]? = some x) (hg : x.g = 0 ∨ x.g = 1)
    (hn : x.n = -1 ∨ ∃ (p : Nat) (yp : Ent), x.n = p ∧ st.A[p]? = some yp ∧ p ≠ i) (ho : x.o = -1 ∨ ∃ (q : Nat) (yq : Ent), x.o = q ∧ st.A[q]? = some yq ∧ q ≠ i)
    (hb0 : smallI st.l0.bytes) (hb1 : smallI st.l1.bytes) (hs : smallI x.s) (h : Sat k w (StoreR b st * R)) :
    Calls Try.prog 81 #[.pointer (some ⟨b, 0, none⟩), .int .i64 i] w fun e w' => e = .returned (.tuple #[]) ∧ Sat k w' (StoreR b (unlinkS st i) * R) := by
  obtain ⟨xk, xs, xg, xn, xo⟩ := x
  simp only [] at hg hn ho hs
  rcases hg with rfl | rfl <;> rcases hn with rfl | ⟨p, yp, rfl, hp, hpi⟩ <;> rcases ho with rfl | ⟨q, yq, rfl, hq, hqi⟩
  · exact unlink_000 k w R b st i xk xs hx hb0 hs h
  · exact unlink_001 k w R b st i xk xs q yq hq hqi hx hb0 hs h
  · exact unlink_010 k w R b st i xk xs p yp hp hpi hx hb0 hs h
  · exact unlink_011 k w R b st i xk xs p yp hp hpi q yq hq hqi hx hb0 hs h
  · exact unlink_100 k w R b st i xk xs hx hb1 hs h
  · exact unlink_101 k w R b st i xk xs q yq hq hqi hx hb1 hs h
  · exact unlink_110 k w R b st i xk xs p yp hp hpi hx hb1 hs h
  · exact unlink_111 k w R b st i xk xs p yp hp hpi q yq hq hqi hx hb1 hs h

theorem Rep.smallI {st : St} {T K X : List Nat} (h : Rep st T K X) : Go.Proofs.Ytlilogcojeoelaa.smallI st.l0.bytes ∧ Go.Proofs.Ytlilogcojeoelaa.smallI st.l1.bytes := by
  have h1 := h.small
  have h2 := h.pa
  unfold Go.Proofs.Ytlilogcojeoelaa.smallI
  omega

theorem unlink_rep (k : Env) (w : World) (R : Assn) (b : Nat) (st : St) (T K X : List Nat) (i : Nat) (hr : Rep st T K X) (hi : i ∈ T ++ K) (h : Sat k w (StoreR b st * R)) :
    Calls Try.prog 81 #[.pointer (some ⟨b, 0, none⟩), .int .i64 i] w fun e w' => e = .returned (.tuple #[]) ∧ Sat k w' (StoreR b (unlinkS st i) * R) := by
  obtain ⟨x, hx, hs1, hs2⟩ := hr.live (i := i) (by simp at hi ⊢; rcases hi with h | h <;> simp [h])
  have hpa := hr.pa
  have hsm : smallI x.s := by unfold smallI; omega
  obtain ⟨hb0, hb1⟩ := hr.smallI
  have hnd : (T ++ K).Nodup := (List.nodup_append.1 hr.nd).1
  have key : ∀ (g : Int) (L : List Nat) (l : Lst), Seg st.A g L l → L.Nodup → i ∈ L → (∀ j ∈ L, j ∈ T ++ K ++ X) → x.g = g ∧ (x.n = -1 ∨ ∃ (p : Nat) (yp : Ent), x.n = p ∧ st.A[p]? = some yp ∧ p ≠ i) ∧ (x.o = -1 ∨ ∃ (q : Nat) (yq : Ent), x.o = q ∧ st.A[q]? = some yq ∧ q ≠ i) := by
    intro g L l hseg hL hi hin
    obtain ⟨L1, L2, rfl⟩ := List.append_of_mem hi
    obtain ⟨_, h2, h3, h4, _⟩ := seg_unlink hseg hL hx
    rw [List.nodup_append] at hL
    obtain ⟨n1, n2, n3⟩ := hL
    refine ⟨h2, ?_, ?_⟩
    · rw [h3]
      rcases lsd_mem L1 (-1) with h | ⟨p, hp, h⟩
      · exact .inl h
      · obtain ⟨yp, hyp, _⟩ := hr.live (hin p (by simp [hp]))
        exact .inr ⟨p, yp, h, hyp, n3 p hp i (by simp)⟩
    · rw [h4]
      rcases hdd_ge L2 with h | ⟨q, hq, h⟩
      · exact .inl h
      · obtain ⟨yq, hyq, _⟩ := hr.live (hin q (by simp [hq]))
        exact .inr ⟨q, yq, h, hyq, fun e => (List.nodup_cons.1 n2).1 (e ▸ hq)⟩
  rcases List.mem_append.1 hi with hi | hi
  · obtain ⟨h1, h2, h3⟩ := key 0 T st.l0 hr.t (List.nodup_append.1 hnd).1 hi (fun j hj => by simp [hj])
    exact unlink_any k w R b st i x hx (.inl h1) h2 h3 hb0 hb1 hsm h
  · obtain ⟨h1, h2, h3⟩ := key 1 K st.l1 hr.k (List.nodup_append.1 hnd).2.1 hi (fun j hj => by simp [hj])
    exact unlink_any k w R b st i x hx (.inr h1) h2 h3 hb0 hb1 hsm h

theorem link_rep0 (k : Env) (w : World) (R : Assn) (b : Nat) (st : St) (T K X : List Nat) (i : Nat) (hr : Rep st T K (i :: X)) (h : Sat k w (StoreR b st * R)) :
    Calls Try.prog 77 #[.pointer (some ⟨b, 0, none⟩), .int .i64 i, .int .i64 0] w fun e w' => e = .returned (.tuple #[]) ∧ Sat k w' (StoreR b (linkS st i 0) * R) := by
  obtain ⟨x, hx, hs1, hs2⟩ := hr.live (i := i) (by simp)
  have hpa := hr.pa
  have hsm : smallI x.s := by unfold smallI; omega
  obtain ⟨hb0, hb1⟩ := hr.smallI
  have hnd : (T ++ K ++ i :: X).Nodup := hr.nd
  rcases hdd_ge T with h0 | ⟨p, hp, h0⟩
  · exact link_00 k w R b st i x hx (hr.t.2.1.trans h0) hb0 hsm h
  · obtain ⟨yp, hyp, _⟩ := hr.live (i := p) (by simp [hp])
    refine link_01 k w R b st i x p (List.getElem?_eq_some_iff.1 hyp).1 ?_ hx (hr.t.2.1.trans h0) hb0 hsm h
    exact (List.nodup_append.1 hnd).2.2 p (by simp [hp]) i (by simp)
theorem link_rep1 (k : Env) (w : World) (R : Assn) (b : Nat) (st : St) (T K X : List Nat) (i : Nat) (hr : Rep st T K (i :: X)) (h : Sat k w (StoreR b st * R)) :
    Calls Try.prog 77 #[.pointer (some ⟨b, 0, none⟩), .int .i64 i, .int .i64 1] w fun e w' => e = .returned (.tuple #[]) ∧ Sat k w' (StoreR b (linkS st i 1) * R) := by
  obtain ⟨x, hx, hs1, hs2⟩ := hr.live (i := i) (by simp)
  have hpa := hr.pa
  have hsm : smallI x.s := by unfold smallI; omega
  obtain ⟨hb0, hb1⟩ := hr.smallI
  have hnd : (T ++ K ++ i :: X).Nodup := hr.nd
  rcases hdd_ge K with h0 | ⟨p, hp, h0⟩
  · exact link_10 k w R b st i x hx (hr.k.2.1.trans h0) hb1 hsm h
  · obtain ⟨yp, hyp, _⟩ := hr.live (i := p) (by simp [hp])
    refine link_11 k w R b st i x p (List.getElem?_eq_some_iff.1 hyp).1 ?_ hx (hr.k.2.1.trans h0) hb1 hsm h
    exact (List.nodup_append.1 hnd).2.2 p (by simp [hp]) i (by simp)

theorem unlinkS_F (st : St) (i : Nat) : (unlinkS st i).F = st.F := by
  unfold unlinkS St.setLst
  simp only []
  split <;> rfl
theorem Rep.flen {st : St} {T K X : List Nat} (h : Rep st T K X) : st.F.length ≤ st.A.length := by
  obtain ⟨F, f1, _, f3, f4⟩ := h.fr
  have := nodup_le F (List.range st.A.length) f3 (fun j hj => List.mem_range.2 ((f4 j).2 (.inl hj)))
  rw [f1]
  simpa using this

theorem own_setAll {k : Env} {w : World} {R : Assn} {g n ac : Nat} {A : List Ent} {i : Nat} {y : Ent} (h : Sat k w (Own 134 5 (.slice (some ⟨g, 0, none⟩) n ac) n (ents A) * R)) (hy : A[i]? = some y) (x : Ent) :
    Sat k (((((w.setCell ⟨g, i * 5, none⟩ (.string x.k)).setCell ⟨g, i * 5 + 1, none⟩ (.int .i64 x.s)).setCell ⟨g, i * 5 + 2, none⟩ (.int .i64 x.g)).setCell ⟨g, i * 5 + 3, none⟩ (.int .i64 x.n)).setCell ⟨g, i * 5 + 4, none⟩ (.int .i64 x.o)) (Own 134 5 (.slice (some ⟨g, 0, none⟩) n ac) n (ents (A.set i x)) * R) := by
  have hi := (List.getElem?_eq_some_iff.1 hy).1
  have h3 := own_set (own_set (own_set (own_set (own_set h (i * 5 + 0) (.string x.k)) (i * 5 + 1) (.int .i64 x.s)) (i * 5 + 2) (.int .i64 x.g)) (i * 5 + 3) (.int .i64 x.n)) (i * 5 + 4) (.int .i64 x.o)
  rw [ents_set' A i 0 _ ⟨x.k, y.s, y.g, y.n, y.o⟩ y hy (by decide) rfl] at h3
  rw [ents_set' _ i 1 _ ⟨x.k, x.s, y.g, y.n, y.o⟩ ⟨x.k, y.s, y.g, y.n, y.o⟩ (by simp [hi]) (by decide) rfl] at h3
  rw [ents_set' _ i 2 _ ⟨x.k, x.s, x.g, y.n, y.o⟩ ⟨x.k, x.s, y.g, y.n, y.o⟩ (by simp [hi]) (by decide) rfl] at h3
  rw [ents_set' _ i 3 _ ⟨x.k, x.s, x.g, x.n, y.o⟩ ⟨x.k, x.s, x.g, y.n, y.o⟩ (by simp [hi]) (by decide) rfl] at h3
  rw [ents_set' _ i 4 _ ⟨x.k, x.s, x.g, x.n, x.o⟩ ⟨x.k, x.s, x.g, x.n, y.o⟩ (by simp [hi]) (by decide) rfl] at h3
  simpa using h3

theorem mapT : Try.prog.underlying 122 = some (.map 9 3) := Try.underlying122
theorem zeroI (w : World) : (zeroValue 3).run Try.prog w = .ok (.int .i64 0) w := by kernel_rfl

theorem plv_del (a : ByteArray) (P : List (ByteArray × Int)) : mdel a (plv P) = plv (mdel a P) := mdel_map (Value.int .i64) a P
theorem plv_put (a : ByteArray) (i : Int) (P : List (ByteArray × Int)) : mput a (.int .i64 i) (plv P) = plv (mput a i P) := mput_map (Value.int .i64) a i P
theorem plv_get (a : ByteArray) (P : List (ByteArray × Int)) : mget a (plv P) = (mget a P).map (Value.int .i64) := mget_map (Value.int .i64) a P

set_option maxRecDepth 100000 in
set_option maxHeartbeats 2000000 in
theorem remove_rep (k : Env) (w : World) (R : Assn) (b : Nat) (st : St) (T K X : List Nat) (i : Nat) (hr : Rep st T K X) (hi : i ∈ T ++ K) (h : Sat k w (StoreR b st * R)) :
    Calls Try.prog 91 #[.pointer (some ⟨b, 0, none⟩), .int .i64 i] w fun e w' => e = .returned (.tuple #[]) ∧ Sat k w' (StoreR b (removeS st i) * R) := by
  go_enter Try.func91, Try.ntmps91
  go_wp2_with fail
  refine (unlink_rep k w R b st T K X i hr hi h).mono ?_
  rintro e w1 ⟨rfl, h1⟩
  have hlive : i ∈ T ++ K ++ X := by simp at hi ⊢; rcases hi with h | h <;> simp [h]
  obtain ⟨F, _, _, _, hF⟩ := hr.fr
  have hlt : i < st.A.length := (hF i).2 (.inr hlive)
  have hlen : (unlinkS st i).A.length = st.A.length := (same_unl _ _).1
  obtain ⟨x, hx⟩ : ∃ x, (unlinkS st i).A[i]? = some x := ⟨_, List.getElem?_eq_getElem (by rw [hlen]; exact hlt)⟩
  have HK : Hid (keyA (unlinkS st i).A i = x.k) := by unfold Hid keyA; simp [List.getD, hx]
  have HX := Lib.hid hx
  have hAl := hr.len
  have hpa := hr.pa
  have hil : (i : Int) < (unlinkS st i).A.length := by rw [hlen]; omega
  have hi0 : (0 : Int) ≤ i := by omega
  have HD : Hid (removeS st i = delS (unlinkS st i) i) := rfl
  have hbl : ((unlinkS st i).A.length : Int) ≤ 1073741824 := by rw [hlen]; omega
  have hFl : ((unlinkS st i).F.length : Int) ≤ 1073741824 := by
    rw [unlinkS_F]
    have := hr.flen
    omega
  generalize unlinkS st i = s1 at *
  clear hx hlive h hi hlt hlen
  obtain ⟨aa, ac, fa, fc, m, hs⟩ := store_open h1
  obtain ⟨g, rfl⟩ := ent_addr hs.drop HX.out
  obtain ⟨hgl, d0, d1, d2, d3, d4, hf⟩ := ent_cells hs.drop HX.out
  have c0 : w1.cell? ⟨b, 0, none⟩ = some (.slice (some ⟨g, 0, none⟩) s1.A.length ac) := hs.cell 0
  have c1 : w1.cell? ⟨b, 1, none⟩ = some (.slice fa s1.F.length fc) := hs.cell 1
  have c2 : w1.cell? ⟨b, 2, none⟩ = some (.map (some m)) := hs.cell 2
  go_wp2_with fail
  go_region_held3 (fun w' => w'.cell? ⟨b, 0, none⟩ = some (.slice (some ⟨g, 0, none⟩) s1.A.length ac) ∧ w'.cell? ⟨b, 2, none⟩ = some (.map (some m)) ∧ w'.cell? ⟨g, i * 5, none⟩ = some (.string x.k)) (first | exact ⟨c0, c2, d0⟩ | exact ⟨(h2.swap.cell 0).trans rfl, (h2.swap.cell 2).trans rfl, (ent_cells h2.get3 HX.out).2.1⟩ | fail) ((refine step_delete_sat KStr mapT hs.drew.get4 x.k (.tmp 10) (.tmp 18) rfl rfl rfl rfl ?_; intro w2 h2))
  have c0 : w2.cell? ⟨b, 0, none⟩ = some (.slice (some ⟨g, 0, none⟩) s1.A.length ac) := h2.swap.cell 0
  have c1 : w2.cell? ⟨b, 1, none⟩ = some (.slice fa s1.F.length fc) := h2.swap.cell 1
  have fb := h2.swap.frozen
  obtain ⟨hgl, d0, d1, d2, d3, d4, hf⟩ := ent_cells h2.get3 HX.out
  obtain ⟨hbg, hgb⟩ := own_ne h2.drop
  go_wp2_with (at_builtin; refine wpList_append_sat TInts (((own_setAll (h2.get3) HX.out ⟨ByteArray.empty, 0, 0, 0, 0⟩).alloc' _).get4) (.tmp 30) (.tmp 32) _ 1 1 [.int .i64 i] rfl rfl rfl rfl rfl (fun _ => ⟨_, rfl, new_cells_at _ _ _ _ (by simp)⟩) (ints_one [(i : Int)]) (by simp [maxLen]; omega) (by omega) ?_; intro a3 c3 w3 h4; have e1 := (h4.drop.drop.drop.cell 1).trans rfl; have e2 := h4.drop.drop.drop.frozen 1)
  go_end0
  rw [HD.out]
  exact ⟨rfl, store_close (h4.get4.set 1 _).swap2 rfl (by simp [delS]) rfl (by simp [delS]) (by rw [ints_snoc]; rfl) (by rw [plv_del]; unfold delS; rw [HK.out])⟩

end Go.Proofs.Ytlilogcojeoelaa
