/- Contracts of package slru: Touch; what is told of a wrong size. -/
import Derived.Test.YtlilogcojeoelaaSlruH
namespace Go.Proofs.Ytlilogcojeoelaa
set_option linter.all false
open Go Go.RowKit

def touchP (kp : Int) (a : ByteArray) (s : Int) (t k : List KV) : List KV × List KV := if kp < s then ((a, s) :: dropV a t, dropV a k) else (dropV a t, (a, s) :: dropV a k)
def touchR (kp : Int) (a : ByteArray) (s : Int) (t k : List KV) : List KV × List KV × List ByteArray := backV kp (touchP kp a s t k).2.length (touchP kp a s t k).1 (touchP kp a s t k).2

theorem touch_unl {st : St} {T K : List Nat} {i : Nat} (h : Rep st T K []) (hi : i ∈ T ++ K) :
    ∃ T1 K1, Rep (unlinkS st i) T1 K1 [i] ∧ view (unlinkS st i).A T1 = dropV (keyA st.A i) (view st.A T) ∧ view (unlinkS st i).A K1 = dropV (keyA st.A i) (view st.A K) ∧ keyA (unlinkS st i).A i = keyA st.A i ∧ sizA (unlinkS st i).A i = sizA st.A i := by
  have hs : same st.A (unlinkS st i).A := same_unl _ _
  have hnd := h.nd
  rw [List.append_nil, List.nodup_append] at hnd
  obtain ⟨n1, n2, n3⟩ := hnd
  rcases List.mem_append.1 hi with hi | hi
  · obtain ⟨T1, T2, rfl⟩ := List.append_of_mem hi
    refine ⟨T1 ++ T2, K, rep_unlink0 h, ?_, ?_, (same_key hs i).1, (same_key hs i).2⟩
    · rw [view_same hs, view_keys h (fun j hj => by simp at hj ⊢; rcases hj with h | h | h <;> simp [h]) n1]
    · rw [view_same hs, dropV_none]
      intro j hj e
      have := h.keys (i := j) (j := i) (by simp [hj]) (by simp) e
      subst this
      exact n3 j (by simp) j hj rfl
  · obtain ⟨K1, K2, rfl⟩ := List.append_of_mem hi
    refine ⟨T, K1 ++ K2, rep_unlink1 h, ?_, ?_, (same_key hs i).1, (same_key hs i).2⟩
    · rw [view_same hs, dropV_none]
      intro j hj e
      have := h.keys (i := j) (j := i) (by simp [hj]) (by simp) e
      subst this
      exact n3 j hj j (by simp) rfl
    · rw [view_same hs, view_keys h (fun j hj => by simp at hj ⊢; rcases hj with h | h | h <;> simp [h]) n2]

theorem same_linkS (st : St) (i : Nat) (g : Int) : same st.A (linkS st i g).A := same_link _ _ _ _

set_option maxRecDepth 100000 in
set_option maxHeartbeats 4000000 in
theorem touch_t (k : Env) (w : World) (R : Assn) (b : Nat) (al kp mo : Int) (t kk : List KV) (a : ByteArray) (s : Int) (hms : mget a (t ++ kk) = some s) (hks : kp < s) (h : Sat k w (StoreV b al kp mo t kk * R)) :
    Calls Try.prog 52 #[.pointer (some ⟨b, 0, none⟩), .string a] w fun e w' => ∃ v, e = .returned (.tuple #[v, .bool true]) ∧ Sat k w' (Strs v (touchR kp a s t kk).2.2 * (StoreV b al kp mo (touchR kp a s t kk).1 (touchR kp a s t kk).2.1 * R)) := by
  obtain ⟨st, T, K, hr, rfl, rfl, rfl, rfl, rfl, hk, hs0⟩ := sv_open h
  obtain ⟨aa, ac, fa, fc, m, hs⟩ := store_open hs0
  have hpa := hr.pa
  have c2 : w.cell? ⟨b, 2, none⟩ = some (.map (some m)) := hs.cell 2
  have c0 : w.cell? ⟨b, 0, none⟩ = some (.slice aa st.A.length ac) := hs.cell 0
  have c10 : w.cell? ⟨b, 10, none⟩ = some (.int .i64 st.kp) := hs.cell 10
  have hl := run_lookup_ok_sat KStr mapT zeroI hs.get4 a
  rw [plv_get] at hl
  rw [mget_view hr] at hms
  rcases hr.look a with ⟨h1, h2⟩ | ⟨i, h1, h2, h3⟩
  · rw [h1] at hms; cases hms
  rw [h1] at hl hms
  simp only [Option.map_some, Option.some.injEq, Int.toNat_natCast, Option.getD_some, Option.isSome_some] at hl hms
  obtain ⟨x, hx, hx1, _⟩ := hr.live (i := i) (by simpa using h2)
  have hsz : x.s = s := by rw [← hms]; simp [sizA, List.getD, hx]
  obtain ⟨T1, K1, r1, v1, v2, v3, v4⟩ := touch_unl hr h2
  rw [h3] at v1 v2 v3
  rw [hms] at v4
  have hsm : same (unlinkS st i).A (linkS (unlinkS st i) i 0).A := same_linkS _ _ _
  have hpar : (linkS (unlinkS st i) i 0).al = st.al ∧ (linkS (unlinkS st i) i 0).kp = st.kp ∧ (linkS (unlinkS st i) i 0).mo = st.mo := by
    obtain ⟨a1, a2, a3⟩ := linkS_par (unlinkS st i) i 0
    obtain ⟨b1, b2, b3⟩ := unlinkS_par st i
    exact ⟨a1.trans b1, a2.trans b2, a3.trans b3⟩
  have hv : view (linkS (unlinkS st i) i 0).A (i :: T1) = (touchP st.kp a s (view st.A T) (view st.A K)).1 ∧ view (linkS (unlinkS st i) i 0).A K1 = (touchP st.kp a s (view st.A T) (view st.A K)).2 := by
    unfold touchP
    rw [if_pos hks]
    rw [view_same hsm, view_same hsm]
    have e : ∀ L, view (unlinkS st i).A (i :: L) = (keyA (unlinkS st i).A i, sizA (unlinkS st i).A i) :: view (unlinkS st i).A L := fun _ => rfl
    rw [e, v1, v2, v3, v4]
    exact ⟨rfl, rfl⟩
  have r2 : Rep (linkS (unlinkS st i) i 0) (i :: T1) K1 [] := rep_link0 r1
  have hil : (i : Int) < st.A.length := by have := (List.getElem?_eq_some_iff.1 hx).1; omega
  have hi0 : (0 : Int) ≤ i := by omega
  obtain ⟨ga, rfl⟩ := ent_addr hs.drop hx
  obtain ⟨hgl, d0, d1, d2, d3, d4, hf⟩ := ent_cells hs.drop hx
  rw [hsz] at d1
  have HPAR := Lib.hid hpar
  have HV := Lib.hid hv
  have HSM := Lib.hid hsm
  have HMS := Lib.hid hms
  clear h1 hx hsz hv hpar hsm v1 v2 v3 v4 hms h3
  go_enter Try.func52, Try.ntmps52
  go_wp2_with (go_at_call 73; refine (sthere_any _ _ _ c2).mono ?_; rintro e w' ⟨rfl, rfl⟩)
  go_quiet (fail)
  go_wp2_with fail
  refine (unlink_rep k _ R b st T K [] i hr h2 (hs0.drewN _)).mono ?_
  rintro e w1 ⟨rfl, g1⟩
  go_wp2_with fail
  refine (link_rep0 k _ R b _ T1 K1 [] i r1 g1).mono ?_
  rintro e w2 ⟨rfl, g2⟩
  go_wp2_with fail
  obtain ⟨st2, hst2⟩ : ∃ st2, st2 = linkS (unlinkS st i) i 0 := ⟨_, rfl⟩
  rw [← hst2] at g2 r2 HPAR HV
  obtain ⟨T2, hT2⟩ : ∃ T2, T2 = (i :: T1) := ⟨_, rfl⟩
  obtain ⟨K2, hK2⟩ : ∃ K2, K2 = K1 := ⟨_, rfl⟩
  rw [← hT2, ← hK2] at r2 HV
  clear hst2 hT2 hK2
  have hKl : K2.length ≤ 1073741824 := by
    have h3 := sumA_nonneg (A := st2.A) (L := T2 ++ K2 ++ []) r2.sz
    have h4 := r2.tot
    have h5 := r2.pa
    simp at h3
    simp only [List.append_nil] at h4
    omega
  have HT : Hid (touchR st.kp a s (view st.A T) (view st.A K) = backV st.kp K2.length (view st2.A T2) (view st2.A K2)) := by
    unfold Hid touchR
    rw [← HV.out.1, ← HV.out.2, view_len]
  go_loopg [9, 10] K2.length (fun gk lv _ wr => ∃ (st' : St) (T' K' : List Nat) (out : List ByteArray), gk = K'.length ∧ Rep st' T' K' [] ∧ out.length + K'.length ≤ 1073741824 ∧
    Hid (touchR st.kp a s (view st.A T) (view st.A K) = ((backV st.kp gk (view st'.A T') (view st'.A K')).1, (backV st.kp gk (view st'.A T') (view st'.A K')).2.1, out ++ (backV st.kp gk (view st'.A T') (view st'.A K')).2.2)) ∧
    Hid (st'.al = st.al ∧ st'.kp = st.kp ∧ st'.mo = st.mo) ∧ Sat k wr (Strs lv out * (StoreR b st' * R)))
  case atStart => exact ⟨st2, T2, K2, [], rfl, r2, by simpa using hKl, by unfold Hid; rw [HT.out]; simp, HPAR, own_nil g2⟩
  case round =>
    obtain ⟨st', T', K', out, rfl, hr', ho, HB, HP, hs4⟩ := hrel
    obtain ⟨ab, ac2, fa2, fc2, m2, hs5⟩ := store_open hs4.swap
    have c8 : wr.cell? ⟨b, 8, none⟩ = some (.int .i64 st'.l1.bytes) := hs5.cell 8
    have c10' : wr.cell? ⟨b, 10, none⟩ = some (.int .i64 st.kp) := (hs5.cell 10).trans (by rw [← HP.out.2.1]; rfl)
    have HBY : Hid (st'.l1.bytes = sumV (view st'.A K')) := by unfold Hid; rw [sumV_view, hr'.b1]
    by_cases hq : st.kp < st'.l1.bytes
    · have hq' : Hid (st.kp < sumV (view st'.A K')) := by unfold Hid; rw [← HBY.out]; exact hq
      rcases List.eq_nil_or_concat K' with rfl | ⟨K3, j, rfl⟩
      · exfalso
        have := hq'.out
        simp [view, sumV] at this
        omega
      · rw [List.concat_eq_append] at *
        have hlast : st'.l1.last = j := by rw [hr'.k.2.2, lsd_concat]
        have r3 := rep_unlink1 (K2 := []) hr'
        rw [List.append_nil] at r3
        have r4 := rep_link0 r3
        have hsm3 : same st'.A (unlinkS st' j).A := same_unl _ _
        have hsm4 : same st'.A (linkS (unlinkS st' j) j 0).A := hsm3.trans (same_linkS _ _ _)
        obtain ⟨x2, hx2, _⟩ := r4.live (i := j) (by simp)
        have HX2 := Lib.hid hx2
        have HKX : Hid (keyA st'.A j = x2.k) := by unfold Hid; rw [← (same_key hsm4 j).1]; unfold keyA; simp [List.getD, hx2]
        have HB2 : Hid (backV st.kp (K3 ++ [j]).length (view st'.A T') (view st'.A (K3 ++ [j])) = ((backV st.kp K3.length (view (linkS (unlinkS st' j) j 0).A (j :: T')) (view (linkS (unlinkS st' j) j 0).A K3)).1, (backV st.kp K3.length (view (linkS (unlinkS st' j) j 0).A (j :: T')) (view (linkS (unlinkS st' j) j 0).A K3)).2.1, keyA st'.A j :: (backV st.kp K3.length (view (linkS (unlinkS st' j) j 0).A (j :: T')) (view (linkS (unlinkS st' j) j 0).A K3)).2.2)) := by
          unfold Hid
          rw [view_same hsm4, view_same hsm4, show (K3 ++ [j]).length = K3.length + 1 by simp, view_snoc]
          exact backV_k _ (by rw [← view_snoc]; exact hq'.out)
        have hP2 : Hid ((linkS (unlinkS st' j) j 0).al = st.al ∧ (linkS (unlinkS st' j) j 0).kp = st.kp ∧ (linkS (unlinkS st' j) j 0).mo = st.mo) := by
          obtain ⟨a1, a2, a3⟩ := linkS_par (unlinkS st' j) j 0
          obtain ⟨b1, b2, b3⟩ := unlinkS_par st' j
          exact ⟨(a1.trans b1).trans HP.out.1, (a2.trans b2).trans HP.out.2.1, (a3.trans b3).trans HP.out.2.2⟩
        have c7 : wr.cell? ⟨b, 7, none⟩ = some (.int .i64 j) := (hs5.cell 7).trans (by rw [← hlast]; rfl)
        have hjl : (j : Int) < (linkS (unlinkS st' j) j 0).A.length := by have := (List.getElem?_eq_some_iff.1 hx2).1; omega
        have hj0 : (0 : Int) ≤ j := by omega
        obtain ⟨va, vc, rfl⟩ := own_val hs4
        simp only [List.length_append, List.length_cons, List.length_nil] at ho
        clear hlast hx2 hsm3 hsm4
        go_wp2_with fail
        go_quiet (fail)
        go_wp2_with fail
        refine (unlink_rep k _ _ b st' T' (K3 ++ [j]) [] j hr' (by simp) (hs4.swap.drewN _)).mono ?_
        rintro e w3 ⟨rfl, g3⟩
        go_wp2_with fail
        refine (link_rep0 k _ _ b _ T' K3 [] j r3 g3).mono ?_
        rintro e w4 ⟨rfl, g4⟩
        obtain ⟨ad, ac4, fa4, fc4, m4, hs6⟩ := store_open g4
        obtain ⟨ga2, rfl⟩ := ent_addr hs6.drop HX2.out
        obtain ⟨hgl2, e0, _⟩ := ent_cells hs6.drop HX2.out
        have c0' : w4.cell? ⟨b, 0, none⟩ = some (.slice (some ⟨ga2, 0, none⟩) (linkS (unlinkS st' j) j 0).A.length ac4) := hs6.cell 0
        go_wp2_with (at_builtin; refine wpList_append_sat TStrs (g4.swap.alloc' _) (.tmp 68) (.tmp 77) _ 1 1 [.string x2.k] rfl rfl rfl rfl rfl (fun _ => ⟨_, rfl, new_cells_at _ _ _ _ (by simp)⟩) (strs_one [x2.k]) (by simp [maxLen]; omega) (by omega) ?_; intro a5 c5 w5 g5)
        go_roundg K3.length
        case measure => simp
        case rel =>
          refine ⟨linkS (unlinkS st' j) j 0, j :: T', K3, out ++ [x2.k], rfl, r4, by simp; omega, ?_, hP2, strs_push g5⟩
          unfold Hid
          rw [HB.out, HB2.out, HKX.out]
          simp
    · have hq' : Hid (¬ st.kp < sumV (view st'.A K')) := by unfold Hid; rw [← HBY.out]; exact hq
      go_wp2_with fail
      go_quiet (fail)
      go_wp2_with fail
      go_ret2
      refine ⟨_, rfl, ?_⟩
      have hst := backV_stop (kp := st.kp) (t := view st'.A T') (k := view st'.A K') K'.length (by have := hq'.out; omega)
      have hB := HB.out
      rw [hst] at hB
      simp only [List.append_nil] at hB
      rw [hB]
      exact (sv_close (hs4.drewN _).swap hr' rfl rfl HP.out.1 HP.out.2.1 HP.out.2.2 (by have := hq'.out; show sumV (view st'.A K') ≤ st.kp; omega)).swap

set_option maxRecDepth 100000 in
set_option maxHeartbeats 4000000 in
theorem touch_k (k : Env) (w : World) (R : Assn) (b : Nat) (al kp mo : Int) (t kk : List KV) (a : ByteArray) (s : Int) (hms : mget a (t ++ kk) = some s) (hks : ¬ kp < s) (h : Sat k w (StoreV b al kp mo t kk * R)) :
    Calls Try.prog 52 #[.pointer (some ⟨b, 0, none⟩), .string a] w fun e w' => ∃ v, e = .returned (.tuple #[v, .bool true]) ∧ Sat k w' (Strs v (touchR kp a s t kk).2.2 * (StoreV b al kp mo (touchR kp a s t kk).1 (touchR kp a s t kk).2.1 * R)) := by
  obtain ⟨st, T, K, hr, rfl, rfl, rfl, rfl, rfl, hk, hs0⟩ := sv_open h
  obtain ⟨aa, ac, fa, fc, m, hs⟩ := store_open hs0
  have hpa := hr.pa
  have c2 : w.cell? ⟨b, 2, none⟩ = some (.map (some m)) := hs.cell 2
  have c0 : w.cell? ⟨b, 0, none⟩ = some (.slice aa st.A.length ac) := hs.cell 0
  have c10 : w.cell? ⟨b, 10, none⟩ = some (.int .i64 st.kp) := hs.cell 10
  have hl := run_lookup_ok_sat KStr mapT zeroI hs.get4 a
  rw [plv_get] at hl
  rw [mget_view hr] at hms
  rcases hr.look a with ⟨h1, h2⟩ | ⟨i, h1, h2, h3⟩
  · rw [h1] at hms; cases hms
  rw [h1] at hl hms
  simp only [Option.map_some, Option.some.injEq, Int.toNat_natCast, Option.getD_some, Option.isSome_some] at hl hms
  obtain ⟨x, hx, hx1, _⟩ := hr.live (i := i) (by simpa using h2)
  have hsz : x.s = s := by rw [← hms]; simp [sizA, List.getD, hx]
  obtain ⟨T1, K1, r1, v1, v2, v3, v4⟩ := touch_unl hr h2
  rw [h3] at v1 v2 v3
  rw [hms] at v4
  have hsm : same (unlinkS st i).A (linkS (unlinkS st i) i 1).A := same_linkS _ _ _
  have hpar : (linkS (unlinkS st i) i 1).al = st.al ∧ (linkS (unlinkS st i) i 1).kp = st.kp ∧ (linkS (unlinkS st i) i 1).mo = st.mo := by
    obtain ⟨a1, a2, a3⟩ := linkS_par (unlinkS st i) i 1
    obtain ⟨b1, b2, b3⟩ := unlinkS_par st i
    exact ⟨a1.trans b1, a2.trans b2, a3.trans b3⟩
  have hv : view (linkS (unlinkS st i) i 1).A T1 = (touchP st.kp a s (view st.A T) (view st.A K)).1 ∧ view (linkS (unlinkS st i) i 1).A (i :: K1) = (touchP st.kp a s (view st.A T) (view st.A K)).2 := by
    unfold touchP
    rw [if_neg hks]
    rw [view_same hsm, view_same hsm]
    have e : ∀ L, view (unlinkS st i).A (i :: L) = (keyA (unlinkS st i).A i, sizA (unlinkS st i).A i) :: view (unlinkS st i).A L := fun _ => rfl
    rw [e, v1, v2, v3, v4]
    exact ⟨rfl, rfl⟩
  have r2 : Rep (linkS (unlinkS st i) i 1) T1 (i :: K1) [] := rep_link1 r1
  have hil : (i : Int) < st.A.length := by have := (List.getElem?_eq_some_iff.1 hx).1; omega
  have hi0 : (0 : Int) ≤ i := by omega
  obtain ⟨ga, rfl⟩ := ent_addr hs.drop hx
  obtain ⟨hgl, d0, d1, d2, d3, d4, hf⟩ := ent_cells hs.drop hx
  rw [hsz] at d1
  have HPAR := Lib.hid hpar
  have HV := Lib.hid hv
  have HSM := Lib.hid hsm
  have HMS := Lib.hid hms
  clear h1 hx hsz hv hpar hsm v1 v2 v3 v4 hms h3
  go_enter Try.func52, Try.ntmps52
  go_wp2_with (go_at_call 73; refine (sthere_any _ _ _ c2).mono ?_; rintro e w' ⟨rfl, rfl⟩)
  go_quiet (fail)
  go_wp2_with fail
  refine (unlink_rep k _ R b st T K [] i hr h2 (hs0.drewN _)).mono ?_
  rintro e w1 ⟨rfl, g1⟩
  go_wp2_with fail
  refine (link_rep1 k _ R b _ T1 K1 [] i r1 g1).mono ?_
  rintro e w2 ⟨rfl, g2⟩
  go_wp2_with fail
  obtain ⟨st2, hst2⟩ : ∃ st2, st2 = linkS (unlinkS st i) i 1 := ⟨_, rfl⟩
  rw [← hst2] at g2 r2 HPAR HV
  obtain ⟨T2, hT2⟩ : ∃ T2, T2 = T1 := ⟨_, rfl⟩
  obtain ⟨K2, hK2⟩ : ∃ K2, K2 = (i :: K1) := ⟨_, rfl⟩
  rw [← hT2, ← hK2] at r2 HV
  clear hst2 hT2 hK2
  have hKl : K2.length ≤ 1073741824 := by
    have h3 := sumA_nonneg (A := st2.A) (L := T2 ++ K2 ++ []) r2.sz
    have h4 := r2.tot
    have h5 := r2.pa
    simp at h3
    simp only [List.append_nil] at h4
    omega
  have HT : Hid (touchR st.kp a s (view st.A T) (view st.A K) = backV st.kp K2.length (view st2.A T2) (view st2.A K2)) := by
    unfold Hid touchR
    rw [← HV.out.1, ← HV.out.2, view_len]
  go_loopg [9, 10] K2.length (fun gk lv _ wr => ∃ (st' : St) (T' K' : List Nat) (out : List ByteArray), gk = K'.length ∧ Rep st' T' K' [] ∧ out.length + K'.length ≤ 1073741824 ∧
    Hid (touchR st.kp a s (view st.A T) (view st.A K) = ((backV st.kp gk (view st'.A T') (view st'.A K')).1, (backV st.kp gk (view st'.A T') (view st'.A K')).2.1, out ++ (backV st.kp gk (view st'.A T') (view st'.A K')).2.2)) ∧
    Hid (st'.al = st.al ∧ st'.kp = st.kp ∧ st'.mo = st.mo) ∧ Sat k wr (Strs lv out * (StoreR b st' * R)))
  case atStart => exact ⟨st2, T2, K2, [], rfl, r2, by simpa using hKl, by unfold Hid; rw [HT.out]; simp, HPAR, own_nil g2⟩
  case round =>
    obtain ⟨st', T', K', out, rfl, hr', ho, HB, HP, hs4⟩ := hrel
    obtain ⟨ab, ac2, fa2, fc2, m2, hs5⟩ := store_open hs4.swap
    have c8 : wr.cell? ⟨b, 8, none⟩ = some (.int .i64 st'.l1.bytes) := hs5.cell 8
    have c10' : wr.cell? ⟨b, 10, none⟩ = some (.int .i64 st.kp) := (hs5.cell 10).trans (by rw [← HP.out.2.1]; rfl)
    have HBY : Hid (st'.l1.bytes = sumV (view st'.A K')) := by unfold Hid; rw [sumV_view, hr'.b1]
    by_cases hq : st.kp < st'.l1.bytes
    · have hq' : Hid (st.kp < sumV (view st'.A K')) := by unfold Hid; rw [← HBY.out]; exact hq
      rcases List.eq_nil_or_concat K' with rfl | ⟨K3, j, rfl⟩
      · exfalso
        have := hq'.out
        simp [view, sumV] at this
        omega
      · rw [List.concat_eq_append] at *
        have hlast : st'.l1.last = j := by rw [hr'.k.2.2, lsd_concat]
        have r3 := rep_unlink1 (K2 := []) hr'
        rw [List.append_nil] at r3
        have r4 := rep_link0 r3
        have hsm3 : same st'.A (unlinkS st' j).A := same_unl _ _
        have hsm4 : same st'.A (linkS (unlinkS st' j) j 0).A := hsm3.trans (same_linkS _ _ _)
        obtain ⟨x2, hx2, _⟩ := r4.live (i := j) (by simp)
        have HX2 := Lib.hid hx2
        have HKX : Hid (keyA st'.A j = x2.k) := by unfold Hid; rw [← (same_key hsm4 j).1]; unfold keyA; simp [List.getD, hx2]
        have HB2 : Hid (backV st.kp (K3 ++ [j]).length (view st'.A T') (view st'.A (K3 ++ [j])) = ((backV st.kp K3.length (view (linkS (unlinkS st' j) j 0).A (j :: T')) (view (linkS (unlinkS st' j) j 0).A K3)).1, (backV st.kp K3.length (view (linkS (unlinkS st' j) j 0).A (j :: T')) (view (linkS (unlinkS st' j) j 0).A K3)).2.1, keyA st'.A j :: (backV st.kp K3.length (view (linkS (unlinkS st' j) j 0).A (j :: T')) (view (linkS (unlinkS st' j) j 0).A K3)).2.2)) := by
          unfold Hid
          rw [view_same hsm4, view_same hsm4, show (K3 ++ [j]).length = K3.length + 1 by simp, view_snoc]
          exact backV_k _ (by rw [← view_snoc]; exact hq'.out)
        have hP2 : Hid ((linkS (unlinkS st' j) j 0).al = st.al ∧ (linkS (unlinkS st' j) j 0).kp = st.kp ∧ (linkS (unlinkS st' j) j 0).mo = st.mo) := by
          obtain ⟨a1, a2, a3⟩ := linkS_par (unlinkS st' j) j 0
          obtain ⟨b1, b2, b3⟩ := unlinkS_par st' j
          exact ⟨(a1.trans b1).trans HP.out.1, (a2.trans b2).trans HP.out.2.1, (a3.trans b3).trans HP.out.2.2⟩
        have c7 : wr.cell? ⟨b, 7, none⟩ = some (.int .i64 j) := (hs5.cell 7).trans (by rw [← hlast]; rfl)
        have hjl : (j : Int) < (linkS (unlinkS st' j) j 0).A.length := by have := (List.getElem?_eq_some_iff.1 hx2).1; omega
        have hj0 : (0 : Int) ≤ j := by omega
        obtain ⟨va, vc, rfl⟩ := own_val hs4
        simp only [List.length_append, List.length_cons, List.length_nil] at ho
        clear hlast hx2 hsm3 hsm4
        go_wp2_with fail
        go_quiet (fail)
        go_wp2_with fail
        refine (unlink_rep k _ _ b st' T' (K3 ++ [j]) [] j hr' (by simp) (hs4.swap.drewN _)).mono ?_
        rintro e w3 ⟨rfl, g3⟩
        go_wp2_with fail
        refine (link_rep0 k _ _ b _ T' K3 [] j r3 g3).mono ?_
        rintro e w4 ⟨rfl, g4⟩
        obtain ⟨ad, ac4, fa4, fc4, m4, hs6⟩ := store_open g4
        obtain ⟨ga2, rfl⟩ := ent_addr hs6.drop HX2.out
        obtain ⟨hgl2, e0, _⟩ := ent_cells hs6.drop HX2.out
        have c0' : w4.cell? ⟨b, 0, none⟩ = some (.slice (some ⟨ga2, 0, none⟩) (linkS (unlinkS st' j) j 0).A.length ac4) := hs6.cell 0
        go_wp2_with (at_builtin; refine wpList_append_sat TStrs (g4.swap.alloc' _) (.tmp 68) (.tmp 77) _ 1 1 [.string x2.k] rfl rfl rfl rfl rfl (fun _ => ⟨_, rfl, new_cells_at _ _ _ _ (by simp)⟩) (strs_one [x2.k]) (by simp [maxLen]; omega) (by omega) ?_; intro a5 c5 w5 g5)
        go_roundg K3.length
        case measure => simp
        case rel =>
          refine ⟨linkS (unlinkS st' j) j 0, j :: T', K3, out ++ [x2.k], rfl, r4, by simp; omega, ?_, hP2, strs_push g5⟩
          unfold Hid
          rw [HB.out, HB2.out, HKX.out]
          simp
    · have hq' : Hid (¬ st.kp < sumV (view st'.A K')) := by unfold Hid; rw [← HBY.out]; exact hq
      go_wp2_with fail
      go_quiet (fail)
      go_wp2_with fail
      go_ret2
      refine ⟨_, rfl, ?_⟩
      have hst := backV_stop (kp := st.kp) (t := view st'.A T') (k := view st'.A K') K'.length (by have := hq'.out; omega)
      have hB := HB.out
      rw [hst] at hB
      simp only [List.append_nil] at hB
      rw [hB]
      exact (sv_close (hs4.drewN _).swap hr' rfl rfl HP.out.1 HP.out.2.1 HP.out.2.2 (by have := hq'.out; show sumV (view st'.A K') ≤ st.kp; omega)).swap

theorem touch_none (k : Env) (w : World) (R : Assn) (b : Nat) (al kp mo : Int) (t kk : List KV) (a : ByteArray) (hms : mget a (t ++ kk) = none) (h : Sat k w (StoreV b al kp mo t kk * R)) :
    Calls Try.prog 52 #[.pointer (some ⟨b, 0, none⟩), .string a] w fun e w' => e = .returned (.tuple #[.slice none 0 0, .bool false]) ∧ Sat k w' (StoreV b al kp mo t kk * R) := by
  obtain ⟨st, T, K, hr, rfl, rfl, rfl, rfl, rfl, hk, hs0⟩ := sv_open h
  obtain ⟨aa, ac, fa, fc, m, hs⟩ := store_open hs0
  have c2 : w.cell? ⟨b, 2, none⟩ = some (.map (some m)) := hs.cell 2
  have hl := run_lookup_ok_sat KStr mapT zeroI hs.get4 a
  rw [plv_get] at hl
  rw [mget_view hr] at hms
  have hms' : mget a st.P = none := by
    cases hq : mget a st.P with
    | none => rfl
    | some v => rw [hq] at hms; cases hms
  rw [hms'] at hl
  simp only [Option.map_none, Option.getD_none, Option.isSome_none] at hl
  clear hms hms'
  go_enter Try.func52, Try.ntmps52
  go_wp2_with (go_at_call 73; refine (sthere_any _ _ _ c2).mono ?_; rintro e w' ⟨rfl, rfl⟩)
  go_ret2
  exact ⟨rfl, h⟩

theorem put_bad (k : Env) (w : World) (R : Assn) (b : Nat) (al kp mo : Int) (t kk : List KV) (a : ByteArray) (size : Int) (hz : size < 1 ∨ mo < size) (h : Sat k w (StoreV b al kp mo t kk * R)) :
    Calls Try.prog 48 #[.pointer (some ⟨b, 0, none⟩), .string a, .int .i64 size] w fun e w' => e = .returned (.tuple #[.slice none 0 0, .int .i64 (putE mo size)]) ∧ Sat k w' (StoreV b al kp mo t kk * R) := by
  obtain ⟨st, T, K, hr, rfl, rfl, rfl, rfl, rfl, hk, hs0⟩ := sv_open h
  obtain ⟨aa, ac, fa, fc, m, hs⟩ := store_open hs0
  have c2 : w.cell? ⟨b, 2, none⟩ = some (.map (some m)) := hs.cell 2
  have c11 : w.cell? ⟨b, 11, none⟩ = some (.int .i64 st.mo) := hs.cell 11
  by_cases h1 : size < 1
  · have e : putE st.mo size = 1 := by rw [putE, if_pos h1]
    rw [e]
    clear e
    go_enter Try.func48, Try.ntmps48
    go_wp2_with (go_at_call 73; refine (sthere_any _ _ _ c2).mono ?_; rintro e w' ⟨rfl, rfl⟩)
    go_ret2
    exact ⟨rfl, h⟩
  · have h2 : st.mo < size := by omega
    have e : putE st.mo size = 2 := by rw [putE, if_neg h1, if_pos h2]
    rw [e]
    clear e hz
    go_enter Try.func48, Try.ntmps48
    go_wp2_with (go_at_call 73; refine (sthere_any _ _ _ c2).mono ?_; rintro e w' ⟨rfl, rfl⟩)
    go_ret2
    exact ⟨rfl, h⟩

end Go.Proofs.Ytlilogcojeoelaa
