/- A state that is owned: names and rows are stored into. -/
import Derived.Test.YtoeepbjnbgpmpaaStTb
namespace Go.Proofs.Ytoeepbjnbgpmpaa
set_option linter.all false
open Go Go.RowKit

/-- A state that is owned, its length by a letter. -/
def StM (g d n : Nat) (P : List TbM) : Assn := Own 43 2 (.slice (some ⟨g, 0, none⟩) n d) n (ETb.recs P) * stars tbR P
theorem stm_of {g d : Nat} {P : List TbM} {n : Nat} (hn : P.length = n) : StO (.slice (some ⟨g, 0, none⟩) n d) P = StM g d n P := by
  subst hn; rfl
section
variable {k : Env} {w : World} {R : Assn} {g d n : Nat} {P : List TbM}
theorem stm_tab (h : Sat k w (StM g d n P * R)) (hn : P.length = n) (i : Nat) (hi : i < P.length) :
    w.cell? ⟨g, i * 2, none⟩ = some (.string P[i].nm) ∧ w.cell? ⟨g, i * 2 + 1, none⟩ = some (.slice P[i].a P[i].rows.length P[i].c) ∧ w.frozen? ⟨g, i * 2, none⟩ = false := by
  have h1 : Sat k w (Own 43 2 (.slice (some ⟨g, 0, none⟩) n d) n (ETb.recs P) * (stars tbR P * R)) := h.of_eq (by unfold StM; rw [star_assoc])
  obtain ⟨u0, v0, c0, f0, _⟩ := own_at h1 (i * 2) (by omega)
  obtain ⟨u1, v1, c1, _, _⟩ := own_at h1 (i * 2 + 1) (by omega)
  have g0 := ETb.recs_get P i 0 hi (by decide)
  have g1 := ETb.recs_get P i 1 hi (by decide)
  exact ⟨c0.trans (v0.symm.trans g0), c1.trans (v1.symm.trans g1), f0⟩
theorem stm_name (h : Sat k w (StM g d n P * R)) (i : Nat) (hi : i < P.length) (s : ByteArray) :
    Sat k (w.setCell ⟨g, i * 2, none⟩ (.string s)) (StM g d n (P.set i ⟨s, P[i].a, P[i].c, P[i].rows⟩) * R) := by
  have h1 : Sat k w (Own 43 2 (.slice (some ⟨g, 0, none⟩) n d) n (ETb.recs P) * (stars tbR P * R)) := h.of_eq (by unfold StM; rw [star_assoc])
  have h2 := own_set2 h1 (i * 2) (.string s)
  have hrs : (ETb.recs P).set (i * 2) (.string s) = ETb.recs (P.set i ⟨s, P[i].a, P[i].c, P[i].rows⟩) := ETb.recs_set P i 0 _ ⟨s, P[i].a, P[i].c, P[i].rows⟩ hi (by decide) rfl
  rw [hrs] at h2
  obtain ⟨F, hF1, hF2⟩ := sto_split hi
  refine h2.of_eq ?_
  unfold StM
  rw [hF1, hF2]
  show Own 43 2 _ _ _ * (tbR P[i] * F * R) = Own 43 2 _ _ _ * (tbR P[i] * F) * R
  ac_rfl
theorem stm_row (h : Sat k w (StM g d n P * R)) (i : Nat) (hi : i < P.length) (m : Nat) (hm : m < P[i].rows.length) :
    ∃ gr, P[i].a = some ⟨gr, 0, none⟩ ∧ w.cell? ⟨gr, m * 2, none⟩ = some (.int .i64 P[i].rows[m].1) ∧ w.cell? ⟨gr, m * 2 + 1, none⟩ = some (.int .i64 P[i].rows[m].2) ∧ w.frozen? ⟨gr, m * 2, none⟩ = false ∧ w.frozen? ⟨gr, m * 2 + 1, none⟩ = false ∧
      (∀ v : Int, Sat k (w.setCell ⟨gr, m * 2, none⟩ (.int .i64 v)) (StM g d n (P.set i ⟨P[i].nm, P[i].a, P[i].c, P[i].rows.set m (v, P[i].rows[m].2)⟩) * R)) ∧
      (∀ v : Int, Sat k (w.setCell ⟨gr, m * 2 + 1, none⟩ (.int .i64 v)) (StM g d n (P.set i ⟨P[i].nm, P[i].a, P[i].c, P[i].rows.set m (P[i].rows[m].1, v)⟩) * R)) := by
  obtain ⟨F, hF1, hF2⟩ := sto_split hi
  have hal := fun (l' : List Rw2) (e : l'.length = P[i].rows.length) => recs_alike hi ⟨P[i].nm, P[i].a, P[i].c, l'⟩ (by unfold tbc TbM.v; rw [e])
  have h1 : Sat k w (Rws (.slice P[i].a P[i].rows.length P[i].c) P[i].rows * (Own 43 2 (.slice (some ⟨g, 0, none⟩) n d) n (ETb.recs P) * (F * R))) := h.of_eq (by
    unfold StM
    rw [hF1]
    show _ = Rws P[i].v P[i].rows * _
    unfold tbR
    ac_rfl)
  obtain ⟨gr, hgr, _, hcl⟩ := rec_get h1 (by decide) m hm
  rw [hgr] at h1
  obtain ⟨_, _, _, f0, _⟩ := own_at h1 (m * 2) (by show m * 2 < P[i].rows.length * 2; omega)
  obtain ⟨_, _, _, f1, _⟩ := own_at h1 (m * 2 + 1) (by show m * 2 + 1 < P[i].rows.length * 2; omega)
  have fin : ∀ (w' : World) (l' : List Rw2), l'.length = P[i].rows.length → Sat k w' (Own 45 2 (.slice (some ⟨gr, 0, none⟩) P[i].rows.length P[i].c) P[i].rows.length (ERw.recs l') * (Own 43 2 (.slice (some ⟨g, 0, none⟩) n d) n (ETb.recs P) * (F * R))) → Sat k w' (StM g d n (P.set i ⟨P[i].nm, P[i].a, P[i].c, l'⟩) * R) := by
    intro w' l' e q
    refine q.of_eq ?_
    unfold StM
    rw [hF2, hal l' e]
    show _ = Own 43 2 _ _ _ * (Own 45 2 (.slice P[i].a l'.length P[i].c) l'.length (ERw.recs l') * F) * R
    rw [e, hgr]
    ac_rfl
  refine ⟨gr, hgr, hcl 0 (by decide), hcl 1 (by decide), f0, f1, fun v => ?_, fun v => ?_⟩
  · have h2 := own_set2 h1 (m * 2) (.int .i64 v)
    have hrs : (ERw.recs P[i].rows).set (m * 2) (.int .i64 v) = ERw.recs (P[i].rows.set m (v, P[i].rows[m].2)) := ERw.recs_set P[i].rows m 0 _ (v, P[i].rows[m].2) hm (by decide) rfl
    rw [hrs] at h2
    exact fin _ _ List.length_set h2
  · have h2 := own_set2 h1 (m * 2 + 1) (.int .i64 v)
    have hrs : (ERw.recs P[i].rows).set (m * 2 + 1) (.int .i64 v) = ERw.recs (P[i].rows.set m (P[i].rows[m].1, v)) := ERw.recs_set P[i].rows m 1 _ (P[i].rows[m].1, v) hm (by decide) rfl
    rw [hrs] at h2
    exact fin _ _ List.length_set h2
end

end Go.Proofs.Ytoeepbjnbgpmpaa
