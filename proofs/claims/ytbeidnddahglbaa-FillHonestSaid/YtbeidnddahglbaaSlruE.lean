/- Contracts of package slru: there, slot, room. -/
import Derived.Test.YtbeidnddahglbaaSlruD
import Derived.Test.YtbeidnddahglbaaMB
import Derived.Test.YtbeidnddahglbaaMA
import Derived.Deep.LoopGhost
namespace Go.Proofs.Ytbeidnddahglbaa
set_option linter.all false
open Go Go.RowKit

theorem sthere_any (w : World) (b m : Nat) (h : w.cell? ⟨b, 2, none⟩ = some (.map (some m))) :
    Calls Try.prog 67 #[.pointer (some ⟨b, 0, none⟩)] w fun e w' => e = .returned (.bool true) ∧ w = w' := by
  have hm := fun (w : World) (r : Option Nat) => run_neq_map_nil (P := Try.prog) w 109 _ _ r mapT
  go_enter Try.func67, Try.ntmps67
  go_wp2
  go_ret
  exact ⟨rfl, rfl⟩
theorem sthere_zero (w : World) (b : Nat) (h : w.cell? ⟨b, 2, none⟩ = some (.map none)) :
    Calls Try.prog 67 #[.pointer (some ⟨b, 0, none⟩)] w fun e w' => e = .returned (.bool false) ∧ w = w' := by
  have hm := fun (w : World) (r : Option Nat) => run_neq_map_nil (P := Try.prog) w 109 _ _ r mapT
  go_enter Try.func67, Try.ntmps67
  go_wp2
  go_ret
  exact ⟨rfl, rfl⟩
theorem sthere_nil (w : World) : Calls Try.prog 67 #[.pointer none] w fun e w' => e = .returned (.bool false) ∧ w = w' := by
  go_enter Try.func67, Try.ntmps67
  go_wp2
  go_ret
  exact ⟨rfl, rfl⟩

set_option maxRecDepth 100000 in
set_option maxHeartbeats 1000000 in
theorem slot_any (k : Env) (w : World) (R : Assn) (b : Nat) (st : St) (hA : (st.A.length : Int) ≤ 1073741824) (hF : st.F.length ≤ st.A.length) (hF0 : ∀ v ∈ st.F, 0 ≤ v) (h : Sat k w (StoreR b st * R)) :
    Calls Try.prog 70 #[.pointer (some ⟨b, 0, none⟩)] w fun e w' => e = .returned (.int .i64 (slotI st)) ∧ Sat k w' (StoreR b (slotS st) * R) := by
  obtain ⟨aa, ac, fa, fc, m, hs⟩ := store_open h
  have c0 : w.cell? ⟨b, 0, none⟩ = some (.slice aa st.A.length ac) := hs.cell 0
  have c1 : w.cell? ⟨b, 1, none⟩ = some (.slice fa st.F.length fc) := hs.cell 1
  have fb := hs.frozen
  rcases List.eq_nil_or_concat st.F with hf | ⟨F', v, hf⟩
  · have e1 : Hid (slotI st = st.A.length) := by unfold Hid slotI; rw [hf]; rfl
    have e2 : Hid (slotS st = { st with A := st.A ++ [Ent.zero] }) := by unfold Hid slotS; rw [hf]; rfl
    rw [hf] at c1
    simp only [List.length_nil] at c1
    clear hf hF hF0
    go_enter Try.func70, Try.ntmps70
    go_wp2_with (at_builtin; refine wpList_append_sat TEnt (hs.swap.alloc' _) (.tmp 35) (.tmp 37) _ 1 1 (ents [Ent.zero]) rfl rfl rfl rfl rfl (fun _ => ⟨_, rfl, new_cells_at _ _ (ents [Ent.zero]) _ (by simp)⟩) (fun u hu => by simp [ents, entc, Ent.zero] at hu; rcases hu with rfl | rfl <;> rfl) (by simp [maxLen]; omega) (by omega) ?_; intro a3 c3 w3 h4; have d0 := (h4.swap.cell 0).trans rfl; have f0 := h4.swap.frozen 0; have hsv := fun v => (h4.swap.set 0 v))
    go_ret
    rw [e1.out, e2.out]
    refine ⟨?_, store_close (h4.swap.set 0 _) rfl (by simp) (by rw [ents_append]) rfl rfl rfl⟩
    simp
  · rw [List.concat_eq_append] at hf
    have hv : 0 ≤ v := hF0 v (by rw [hf]; simp)
    have e1 : Hid (slotI st = v.toNat) := by unfold Hid slotI; rw [hf]; simp
    have e2 : Hid (slotS st = { st with F := F' }) := by unfold Hid slotS; rw [hf]; simp
    have HF := Lib.hid hf
    have hlen : st.F.length = F'.length + 1 := by rw [hf]; simp
    have hs3 := hs.get3
    rw [hf] at hs3
    simp only [List.length_append, List.length_cons, List.length_nil, Nat.zero_add] at hs3
    obtain ⟨g, rfl, hg, d0⟩ := ints_get hs3 F'.length (by simp)
    rw [List.getElem_append_right (Nat.le_refl _)] at d0
    simp only [Nat.sub_self, List.getElem_cons_zero] at d0
    have hcap := own_cap hs3
    have hsub := own_sub (m := F'.length) (c := fc) hs3 (by omega) (by omega) (Nat.le_refl _) (by omega)
    rw [hf] at c1
    simp only [List.length_append, List.length_cons, List.length_nil, Nat.zero_add] at c1
    have hbl : (F'.length : Int) + 1 ≤ 1073741824 := by omega
    have hc' : (F'.length : Int) ≤ fc := by omega
    have hvv : (v.toNat : Int) = v := by omega
    have HV := Lib.hid hvv
    clear hf hF hF0 hlen hvv
    go_enter Try.func70, Try.ntmps70
    go_wp2_with fail
    go_ret
    rw [e1.out, e2.out, HV.out]
    refine ⟨rfl, store_close (hsub.swap.set 1 _).swap2 rfl rfl rfl rfl ?_ rfl⟩
    simp [ints]

end Go.Proofs.Ytbeidnddahglbaa
