/- Several texts in one: SlruE, SlruF. -/
import Derived.Test.YtlilogcojeoelaaSlruD
import Derived.Test.YtlilogcojeoelaaMB
import Derived.Test.YtlilogcojeoelaaMA
import Derived.Deep.LoopGhost
namespace Go.Proofs.Ytlilogcojeoelaa
set_option linter.all false
open Go Go.RowKit

theorem sthere_any (w : World) (b m : Nat) (h : w.cell? ⟨b, 2, none⟩ = some (.map (some m))) :
    Calls Try.prog 73 #[.pointer (some ⟨b, 0, none⟩)] w fun e w' => e = .returned (.bool true) ∧ w = w' := by
  have hm := fun (w : World) (r : Option Nat) => run_neq_map_nil (P := Try.prog) w 122 _ _ r mapT
  go_enter Try.func73, Try.ntmps73
  go_wp2
  go_ret
  exact ⟨rfl, rfl⟩
theorem sthere_zero (w : World) (b : Nat) (h : w.cell? ⟨b, 2, none⟩ = some (.map none)) :
    Calls Try.prog 73 #[.pointer (some ⟨b, 0, none⟩)] w fun e w' => e = .returned (.bool false) ∧ w = w' := by
  have hm := fun (w : World) (r : Option Nat) => run_neq_map_nil (P := Try.prog) w 122 _ _ r mapT
  go_enter Try.func73, Try.ntmps73
  go_wp2
  go_ret
  exact ⟨rfl, rfl⟩
theorem sthere_nil (w : World) : Calls Try.prog 73 #[.pointer none] w fun e w' => e = .returned (.bool false) ∧ w = w' := by
  go_enter Try.func73, Try.ntmps73
  go_wp2
  go_ret
  exact ⟨rfl, rfl⟩

set_option maxRecDepth 100000 in
set_option maxHeartbeats 1000000 in
theorem slot_any (k : Env) (w : World) (R : Assn) (b : Nat) (st : St) (hA : (st.A.length : Int) ≤ 1073741824) (hF : st.F.length ≤ st.A.length) (hF0 : ∀ v ∈ st.F, 0 ≤ v) (h : Sat k w (StoreR b st * R)) :
    Calls Try.prog 76 #[.pointer (some ⟨b, 0, none⟩)] w fun e w' => e = .returned (.int .i64 (slotI st)) ∧ Sat k w' (StoreR b (slotS st) * R) := by
  obtain ⟨aa, ac, fa, fc, m, hs⟩ := store_open h
  have c0 : w.cell? ⟨b, 0, none⟩ = some (.slice aa st.A.length ac) := hs.cell 0
  have c1 : w.cell? ⟨b, 1, none⟩ = some (.slice fa st.F.length fc) := hs.cell 1
  have fb := hs.frozen
  rcases List.eq_nil_or_concat st.F with hf | ⟨F', v, hf⟩
  · have e1 : Hid (slotI st = st.A.length) := by unfold Hid slotI; rw [hf]; rfl
    have e2 : Hid (slotS st = { st with A := st.A ++ [Ent.zero] }) := by unfold Hid slotS; rw [hf]; rfl
    rw [hf] at c1
    simp only [List.length_nil] at c1
    clear hf hF hF0
    go_enter Try.func76, Try.ntmps76
    go_wp2_with (at_builtin; refine wpList_append_sat TEnt (hs.swap.alloc' _) (.tmp 35) (.tmp 37) _ 1 1 (ents [Ent.zero]) rfl rfl rfl rfl rfl (fun _ => ⟨_, rfl, new_cells_at _ _ (ents [Ent.zero]) _ (by simp)⟩) (fun u hu => by simp [ents, entc, Ent.zero] at hu; rcases hu with rfl | rfl <;> rfl) (by simp [maxLen]; omega) (by omega) ?_; intro a3 c3 w3 h4; have d0 := (h4.swap.cell 0).trans rfl; have f0 := h4.swap.frozen 0; have hsv := fun v => (h4.swap.set 0 v))
    go_ret
    rw [e1.out, e2.out]
    refine ⟨?_, store_close (h4.swap.set 0 _) rfl (by simp) (by rw [ents_append]) rfl rfl rfl⟩
    simp
  · rw [List.concat_eq_append] at hf
    have hv : 0 ≤ v := hF0 v (by rw [hf]; simp)
    have e1 : Hid (slotI st = v.toNat) := by unfold Hid slotI; rw [hf]; simp
    have e2 : Hid (slotS st = { st with F := F' }) := by unfold Hid slotS; rw [hf]; simp
    have HF := Lib.hid hf
    have hlen : st.F.length = F'.length + 1 := by rw [hf]; simp
    have hs3 := hs.get3
    rw [hf] at hs3
    simp only [List.length_append, List.length_cons, List.length_nil, Nat.zero_add] at hs3
    obtain ⟨g, rfl, hg, d0⟩ := ints_get hs3 F'.length (by simp)
    rw [List.getElem_append_right (Nat.le_refl _)] at d0
    simp only [Nat.sub_self, List.getElem_cons_zero] at d0
    have hcap := own_cap hs3
    have hsub := own_sub (m := F'.length) (c := fc) hs3 (by omega) (by omega) (Nat.le_refl _) (by omega)
    rw [hf] at c1
    simp only [List.length_append, List.length_cons, List.length_nil, Nat.zero_add] at c1
    have hbl : (F'.length : Int) + 1 ≤ 1073741824 := by omega
    have hc' : (F'.length : Int) ≤ fc := by omega
    have hvv : (v.toNat : Int) = v := by omega
    have HV := Lib.hid hvv
    clear hf hF hF0 hlen hvv
    go_enter Try.func76, Try.ntmps76
    go_wp2_with fail
    go_ret
    rw [e1.out, e2.out, HV.out]
    refine ⟨rfl, store_close (hsub.swap.set 1 _).swap2 rfl rfl rfl rfl ?_ rfl⟩
    simp [ints]

end Go.Proofs.Ytlilogcojeoelaa

namespace Go.Proofs.Ytlilogcojeoelaa
set_option linter.all false
open Go Go.RowKit

theorem lsd_concat (L : List Nat) (i : Nat) (p : Int) : lsd (L ++ [i]) p = i := by rw [lsd_append]; rfl
theorem view_len (A : List Ent) (L : List Nat) : (view A L).length = L.length := by simp [view]
theorem view_snoc (A : List Ent) (L : List Nat) (i : Nat) : view A (L ++ [i]) = view A L ++ [(keyA A i, sizA A i)] := by simp [view]

set_option maxRecDepth 100000 in
set_option maxHeartbeats 2000000 in
theorem room_any (k : Env) (w : World) (R : Assn) (b : Nat) (st : St) (T K : List Nat) (size : Int) (hr : Rep st T K []) (h1 : 1 ≤ size) (h2 : size ≤ st.al) (h : Sat k w (StoreR b st * R)) :
    Calls Try.prog 75 #[.pointer (some ⟨b, 0, none⟩), .int .i64 size] w fun e w' => ∃ v, e = .returned v ∧ ∃ (st' : St) (T' K' : List Nat) (out : List ByteArray), Rep st' T' K' [] ∧ (view st'.A T', view st'.A K', out) = roomV st.al size (T.length + K.length) (view st.A T) (view st.A K) ∧
      st'.al = st.al ∧ st'.kp = st.kp ∧ st'.mo = st.mo ∧ sumA st'.A (T' ++ K') + size ≤ st.al ∧ Sat k w' (Strs v out * (StoreR b st' * R)) := by
  have hpa := hr.pa
  have hTK : T.length + K.length ≤ 1073741824 := by
    have h3 := sumA_nonneg (A := st.A) (L := T ++ K ++ []) hr.sz
    have h4 := hr.tot
    simp at h3
    simp only [List.append_nil] at h4
    omega
  go_enter Try.func75, Try.ntmps75
  go_wp2_with fail
  go_loopg [5, 6] (T.length + K.length) (fun gk lv _ wr => ∃ (st' : St) (T' K' : List Nat) (out : List ByteArray), gk = T'.length + K'.length ∧ Rep st' T' K' [] ∧ out.length ≤ 1073741824 ∧ out.length + (T'.length + K'.length) ≤ T.length + K.length ∧
    Hid (roomV st.al size (T.length + K.length) (view st.A T) (view st.A K) = ((roomV st.al size gk (view st'.A T') (view st'.A K')).1, (roomV st.al size gk (view st'.A T') (view st'.A K')).2.1, out ++ (roomV st.al size gk (view st'.A T') (view st'.A K')).2.2)) ∧
    Hid (st'.al = st.al ∧ st'.kp = st.kp ∧ st'.mo = st.mo) ∧ Sat k wr (Strs lv out * (StoreR b st' * R)))
  case atStart => exact ⟨st, T, K, [], rfl, hr, by simp, by simp, rfl, ⟨rfl, rfl, rfl⟩, own_nil h⟩
  case round =>
    obtain ⟨st', T', K', out, rfl, hr', ho, hol, HV, HP, hs⟩ := hrel
    obtain ⟨aa, ac, fa, fc, m, hs'⟩ := store_open hs.swap
    have hsm := hr'.small
    have hal : st'.al = st.al := HP.out.1
    rw [hal] at hsm
    have c5 : wr.cell? ⟨b, 5, none⟩ = some (.int .i64 st'.l0.bytes) := hs'.cell 5
    have c8 : wr.cell? ⟨b, 8, none⟩ = some (.int .i64 st'.l1.bytes) := hs'.cell 8
    have c9 : wr.cell? ⟨b, 9, none⟩ = some (.int .i64 st.al) := (hs'.cell 9).trans (by rw [← hal]; rfl)
    have w1 : IntKind.i64.wrap (st'.l0.bytes + st'.l1.bytes) = st'.l0.bytes + st'.l1.bytes := IntWalk.i64_in _ (by omega)
    have w2 : IntKind.i64.wrap (st'.l0.bytes + st'.l1.bytes + size) = st'.l0.bytes + st'.l1.bytes + size := IntWalk.i64_in _ (by omega)
    have HB : Hid (st'.l0.bytes = sumV (view st'.A T') ∧ st'.l1.bytes = sumV (view st'.A K')) := ⟨by rw [sumV_view, hr'.b0], by rw [sumV_view, hr'.b1]⟩
    have HAL := Lib.hid hal
    clear hal
    by_cases hq : st.al < st'.l0.bytes + st'.l1.bytes + size
    · have hq' : Hid (st.al < sumV (view st'.A T') + sumV (view st'.A K') + size) := by unfold Hid; rw [← HB.out.1, ← HB.out.2]; exact hq
      rcases List.eq_nil_or_concat T' with rfl | ⟨T1, i, rfl⟩
      · rcases List.eq_nil_or_concat K' with rfl | ⟨K1, i, rfl⟩
        · exfalso
          have := hq'.out
          simp [view, sumV] at this
          omega
        · rw [List.concat_eq_append] at *
          have hlast0 : st'.l0.last = -1 := hr'.t.2.2
          have hlast : st'.l1.last = i := by rw [hr'.k.2.2, lsd_concat]
          have hmem : i ∈ [] ++ (K1 ++ [i]) := by simp
          obtain ⟨hr2, hvw⟩ := rep_remove1 (K2 := []) hr'
          rw [List.append_nil] at hr2 hvw
          have HV2 : Hid (roomV st.al size (([] : List Nat).length + (K1 ++ [i]).length) (view st'.A []) (view st'.A (K1 ++ [i])) = ((roomV st.al size (([] : List Nat).length + K1.length) (view (removeS st' i).A []) (view (removeS st' i).A K1)).1, (roomV st.al size (([] : List Nat).length + K1.length) (view (removeS st' i).A []) (view (removeS st' i).A K1)).2.1, keyA st'.A i :: (roomV st.al size (([] : List Nat).length + K1.length) (view (removeS st' i).A []) (view (removeS st' i).A K1)).2.2)) := by
            unfold Hid
            rw [hvw [] (fun j hj => by simp at hj), hvw K1 (fun j hj => by simp [hj])]
            rw [show ([] : List Nat).length + (K1 ++ [i]).length = (([] : List Nat).length + K1.length) + 1 by simp, view_snoc]
            exact roomV_k _ (by rw [← view_snoc]; exact hq'.out)
          obtain ⟨x, hx, _⟩ := hr'.live (i := i) (by simp)
          have HKX : Hid (keyA st'.A i = x.k) := by unfold Hid keyA; simp [List.getD, hx]
          have hil : (i : Int) < st'.A.length := by have := (List.getElem?_eq_some_iff.1 hx).1; omega
          have hi0 : (0 : Int) ≤ i := by omega
          have hi1 : ((i : Int) == -1) = false := by simp
          have HX := Lib.hid hx
          have HP2 : Hid ((removeS st' i).al = st.al ∧ (removeS st' i).kp = st.kp ∧ (removeS st' i).mo = st.mo) := by
            obtain ⟨a, b, c⟩ := removeS_par st' i
            unfold Hid; rw [a, b, c]; exact HP.out
          clear hx
          have c4 : wr.cell? ⟨b, 4, none⟩ = some (.int .i64 (-1)) := (hs'.cell 4).trans (by rw [← hlast0]; rfl)
          have c7 : wr.cell? ⟨b, 7, none⟩ = some (.int .i64 i) := (hs'.cell 7).trans (by rw [← hlast]; rfl)
          clear hlast hlast0
          obtain ⟨va, vc, rfl⟩ := own_val hs
          obtain ⟨g, rfl⟩ := ent_addr hs'.drop HX.out
          obtain ⟨hgl, d0, _⟩ := ent_cells hs'.drop HX.out
          have c0 : wr.cell? ⟨b, 0, none⟩ = some (.slice (some ⟨g, 0, none⟩) st'.A.length ac) := hs'.cell 0
          have hTl : T.length + K.length ≤ 1073741824 := hTK
          simp only [List.length_append, List.length_cons, List.length_nil] at hol
          go_wp2_with fail
          go_quiet (fail)
          go_wp2_with (at_builtin; refine wpList_append_sat TStrs ((hs.drewN _).alloc' _) (.tmp 41) (.tmp 50) _ 1 1 [.string x.k] rfl rfl rfl rfl rfl (fun _ => ⟨_, rfl, new_cells_at _ _ _ _ (by simp)⟩) (strs_one [x.k]) (by simp [maxLen]; omega) (by omega) ?_; intro a3 c3 w3 h4)
          refine (remove_rep k _ _ b st' [] (K1 ++ [i]) [] i hr' hmem h4.swap).mono ?_
          rintro e w4 ⟨rfl, h5⟩
          go_wp2_with fail
          go_roundg (([] : List Nat).length + K1.length)
          case measure => simp
          case rel =>
            refine ⟨removeS st' i, [], K1, out ++ [x.k], rfl, hr2, by simp; omega, by simp; omega, ?_, HP2.out, strs_push h5.swap⟩
            unfold Hid
            rw [HV.out, HV2.out, HKX.out]
            simp
      · rw [List.concat_eq_append] at *
        have hlast : st'.l0.last = i := by rw [hr'.t.2.2, lsd_concat]
        have hmem : i ∈ (T1 ++ [i]) ++ K' := by simp
        obtain ⟨hr2, hvw⟩ := rep_remove0 (T2 := []) hr'
        rw [List.append_nil] at hr2 hvw
        have HV2 : Hid (roomV st.al size ((T1 ++ [i]).length + K'.length) (view st'.A (T1 ++ [i])) (view st'.A K') = ((roomV st.al size (T1.length + K'.length) (view (removeS st' i).A T1) (view (removeS st' i).A K')).1, (roomV st.al size (T1.length + K'.length) (view (removeS st' i).A T1) (view (removeS st' i).A K')).2.1, keyA st'.A i :: (roomV st.al size (T1.length + K'.length) (view (removeS st' i).A T1) (view (removeS st' i).A K')).2.2)) := by
          unfold Hid
          rw [hvw T1 (fun j hj => by simp [hj]), hvw K' (fun j hj => by simp [hj])]
          rw [show (T1 ++ [i]).length + K'.length = (T1.length + K'.length) + 1 by simp; omega, view_snoc]
          exact roomV_t _ (by rw [← view_snoc]; exact hq'.out)
        obtain ⟨x, hx, _⟩ := hr'.live (i := i) (by simp)
        have HKX : Hid (keyA st'.A i = x.k) := by unfold Hid keyA; simp [List.getD, hx]
        have hil : (i : Int) < st'.A.length := by have := (List.getElem?_eq_some_iff.1 hx).1; omega
        have hi0 : (0 : Int) ≤ i := by omega
        have hi1 : ((i : Int) == -1) = false := by simp
        have HX := Lib.hid hx
        have HP2 : Hid ((removeS st' i).al = st.al ∧ (removeS st' i).kp = st.kp ∧ (removeS st' i).mo = st.mo) := by
          obtain ⟨a, b, c⟩ := removeS_par st' i
          unfold Hid; rw [a, b, c]; exact HP.out
        clear hx
        have c4 : wr.cell? ⟨b, 4, none⟩ = some (.int .i64 i) := (hs'.cell 4).trans (by rw [← hlast]; rfl)
        clear hlast
        obtain ⟨va, vc, rfl⟩ := own_val hs
        obtain ⟨g, rfl⟩ := ent_addr hs'.drop HX.out
        obtain ⟨hgl, d0, _⟩ := ent_cells hs'.drop HX.out
        have c0 : wr.cell? ⟨b, 0, none⟩ = some (.slice (some ⟨g, 0, none⟩) st'.A.length ac) := hs'.cell 0
        have hTl : T.length + K.length ≤ 1073741824 := hTK
        simp only [List.length_append, List.length_cons, List.length_nil] at hol
        go_wp2_with fail
        go_quiet (fail)
        go_wp2_with (at_builtin; refine wpList_append_sat TStrs ((hs.drewN _).alloc' _) (.tmp 41) (.tmp 50) _ 1 1 [.string x.k] rfl rfl rfl rfl rfl (fun _ => ⟨_, rfl, new_cells_at _ _ _ _ (by simp)⟩) (strs_one [x.k]) (by simp [maxLen]; omega) (by omega) ?_; intro a3 c3 w3 h4)
        refine (remove_rep k _ _ b st' (T1 ++ [i]) K' [] i hr' hmem h4.swap).mono ?_
        rintro e w4 ⟨rfl, h5⟩
        go_wp2_with fail
        go_roundg (T1.length + K'.length)
        case measure => simp
        case rel =>
          refine ⟨removeS st' i, T1, K', out ++ [x.k], rfl, hr2, by simp; omega, by simp; omega, ?_, HP2.out, strs_push h5.swap⟩
          unfold Hid
          rw [HV.out, HV2.out, HKX.out]
          simp
    · have hq' : Hid (¬ st.al < sumV (view st'.A T') + sumV (view st'.A K') + size) := by unfold Hid; rw [← HB.out.1, ← HB.out.2]; exact hq
      go_wp2_with fail
      go_quiet (fail)
      go_wp2_with fail
      go_ret
      refine ⟨_, rfl, st', T', K', out, hr', ?_, HP.out.1, HP.out.2.1, HP.out.2.2, ?_, hs.drewN _⟩
      · rw [HV.out, roomV_stop _ (by have := hq'.out; omega)]; simp
      · rw [sumA_append, ← hr'.b0, ← hr'.b1]; omega

end Go.Proofs.Ytlilogcojeoelaa
