/- A pool's connections and lines: plain data, no program. -/
import Derived.Test.YticponkpgaofnaaAssoc
namespace Go.Proofs.Yticponkpgaofnaa
set_option linter.all false
open Go

/-- A connection: its number, who holds it (-1: nobody), since when it is idle, whether it is pinned. -/
structure Cn where
  num : Int
  cl : Int
  since : Int
  pin : Bool
deriving DecidableEq, Inhabited
/-- A group: its name, its connections, its line. -/
structure Gp where
  name : ByteArray
  cs : List Cn
  sp : List (Int × Int)

def conns (G : List Gp) : List Cn := G.flatMap (·.cs)
def waitr (G : List Gp) : List Int := G.flatMap (fun g => g.sp.map (·.1))
def busy (c : Cn) : Bool := decide (c.cl ≠ -1)

theorem conns_mid (p q : List Gp) (g : Gp) : conns (p ++ g :: q) = conns p ++ (g.cs ++ conns q) := by simp [conns]
theorem waitr_mid (p q : List Gp) (g : Gp) : waitr (p ++ g :: q) = waitr p ++ (g.sp.map (·.1) ++ waitr q) := by simp [waitr]
theorem conns_perm (p q : List Gp) (g : Gp) (r s : List Cn) (c : Cn) (h : g.cs = r ++ c :: s) : (conns (p ++ g :: q)).Perm (c :: (conns p ++ ((r ++ s) ++ conns q))) := by
  rw [conns_mid, h]
  have h1 : (r ++ c :: s).Perm (c :: (r ++ s)) := List.perm_middle
  refine ((h1.append_right (conns q)).append_left (conns p)).trans ?_
  rw [List.cons_append]
  exact List.perm_middle
theorem conns_perm0 (p q : List Gp) (g : Gp) : (conns (p ++ g :: q)).Perm (g.cs ++ (conns p ++ conns q)) := by
  rw [conns_mid, ← List.append_assoc, ← List.append_assoc]
  exact List.perm_append_comm.append_right _
theorem conns_snoc (p q : List Gp) (g : Gp) (l : List Cn) (c : Cn) (h : g.cs = l ++ [c]) : (conns (p ++ g :: q)).Perm (c :: (conns p ++ (l ++ conns q))) := by
  have := conns_perm p q g l [] c h
  simpa using this
theorem waitr_perm (p q : List Gp) (g : Gp) : (waitr (p ++ g :: q)).Perm (g.sp.map (·.1) ++ (waitr p ++ waitr q)) := by
  rw [waitr_mid, ← List.append_assoc, ← List.append_assoc]
  exact List.perm_append_comm.append_right _

/-- What holds of a pool's connections C, of those who wait, of its maps. It asks for no order. -/
structure PI (C : List Cn) (Wt : List Int) (M K : List (Int × Int)) (last : Int) : Prop where
  mM : M.Perm (C.map fun c => (c.num, c.num))
  mK : K.Perm ((C.filter busy).map fun c => (c.cl, c.num))
  nu : (C.map (·.num)).Nodup
  cw : ((C.filter busy).map (·.cl) ++ Wt).Nodup
  pc : ∀ c ∈ C, busy c = true → 0 ≤ c.cl
  pw : ∀ x ∈ Wt, 0 ≤ x
  rg : ∀ c ∈ C, 1 ≤ c.num ∧ c.num ≤ last
  l0 : 0 ≤ last

theorem PI.perm {C C' : List Cn} {Wt Wt' : List Int} {M K : List (Int × Int)} {last : Int} (h : PI C Wt M K last) (hc : C.Perm C') (hw : Wt.Perm Wt') : PI C' Wt' M K last where
  mM := h.mM.trans (hc.map _)
  mK := h.mK.trans ((hc.filter _).map _)
  nu := (hc.map _).nodup_iff.1 h.nu
  cw := (((hc.filter _).map _).append hw).nodup_iff.1 h.cw
  pc := fun c m => h.pc c (hc.mem_iff.2 m)
  pw := fun x m => h.pw x (hw.mem_iff.2 m)
  rg := fun c m => h.rg c (hc.mem_iff.2 m)
  l0 := h.l0

section
variable {C X : List Cn} {Wt : List Int} {M K : List (Int × Int)} {last : Int} {c : Cn}

theorem PI.mnd (h : PI C Wt M K last) : (M.map (·.1)).Nodup := by
  refine (h.mM.map (·.1)).nodup_iff.2 ?_
  rw [List.map_map]; exact h.nu
theorem PI.knd (h : PI C Wt M K last) : (K.map (·.1)).Nodup := by
  refine (h.mK.map (·.1)).nodup_iff.2 ?_
  rw [List.map_map]
  exact (List.nodup_append.1 h.cw).1

theorem PI.getM (h : PI C Wt M K last) {n v : Int} : mget n M = some v ↔ n = v ∧ ∃ c ∈ C, c.num = n := by
  rw [mget_mem h.mnd, h.mM.mem_iff, List.mem_map]
  constructor
  · rintro ⟨c, hc, e⟩; cases e; exact ⟨rfl, c, hc, rfl⟩
  · rintro ⟨rfl, c, hc, rfl⟩; exact ⟨c, hc, rfl⟩
theorem PI.getM_none (h : PI C Wt M K last) {n : Int} : mget n M = none ↔ ∀ c ∈ C, c.num ≠ n := by
  constructor
  · intro hn c hc e
    have := (h.getM (n := n) (v := n)).2 ⟨rfl, c, hc, e⟩
    rw [hn] at this; cases this
  · intro hn
    cases hm : mget n M with
    | none => rfl
    | some v => obtain ⟨_, c, hc, e⟩ := h.getM.1 hm; exact absurd e (hn c hc)
theorem PI.getK (h : PI C Wt M K last) {x v : Int} : mget x K = some v ↔ ∃ c ∈ C, c.cl = x ∧ c.num = v ∧ x ≠ -1 := by
  rw [mget_mem h.knd, h.mK.mem_iff, List.mem_map]
  constructor
  · rintro ⟨c, hc, e⟩
    cases e
    obtain ⟨h1, h2⟩ := List.mem_filter.1 hc
    exact ⟨c, h1, rfl, rfl, by simpa [busy] using h2⟩
  · rintro ⟨c, hc, rfl, rfl, h2⟩
    exact ⟨c, List.mem_filter.2 ⟨hc, by simpa [busy] using h2⟩, rfl⟩
theorem PI.getK_none (h : PI C Wt M K last) {x : Int} (hx : x ≠ -1) : mget x K = none ↔ ∀ c ∈ C, c.cl ≠ x := by
  constructor
  · intro hn c hc e
    have := (h.getK (x := x) (v := c.num)).2 ⟨c, hc, e, rfl, hx⟩
    rw [hn] at this; cases this
  · intro hn
    cases hm : mget x K with
    | none => rfl
    | some v => obtain ⟨c, hc, e, _⟩ := h.getK.1 hm; exact absurd e (hn c hc)
theorem PI.getK_m1 (h : PI C Wt M K last) : mget (-1) K = none := by
  cases hm : mget (-1) K with
  | none => rfl
  | some v => obtain ⟨c, hc, e, _, h1⟩ := h.getK.1 hm; exact absurd rfl h1

theorem mput_fresh {a v : Int} {l : List (Int × Int)} (h : mget a l = none) : mput a v l = l ++ [(a, v)] := by
  induction l with
  | nil => rfl
  | cons x r ih =>
    rw [mget] at h
    by_cases hx : x.1 = a
    · rw [if_pos hx] at h; cases h
    · rw [if_neg hx] at h
      rw [mput, if_neg hx, ih h]; rfl
theorem mdel_perm {a v : Int} {l : List (Int × Int)} (h : mget a l = some v) : l.Perm ((a, v) :: mdel a l) := by
  induction l with
  | nil => cases h
  | cons x r ih =>
    rw [mget] at h
    by_cases hx : x.1 = a
    · rw [if_pos hx] at h
      rw [mdel, if_pos hx]
      cases h
      rw [← hx]
    · rw [if_neg hx] at h
      rw [mdel, if_neg hx]
      exact ((ih h).cons x).trans (List.Perm.swap _ _ _)
theorem mdel_none {a : Int} {l : List (Int × Int)} (h : mget a l = none) : mdel a l = l := by
  induction l with
  | nil => rfl
  | cons x r ih =>
    rw [mget] at h
    by_cases hx : x.1 = a
    · rw [if_pos hx] at h; cases h
    · rw [if_neg hx] at h
      rw [mdel, if_neg hx, ih h]

/-- A connection is noted anew: the same number, the same holder. -/
theorem PI.note (h : PI (c :: X) Wt M K last) (c' : Cn) (h1 : c'.num = c.num) (h2 : c'.cl = c.cl) : PI (c' :: X) Wt M K last := by
  obtain ⟨a1, a2, a3, a4, a5, a6, a7, a8⟩ := h
  have hb : busy c' = busy c := by simp [busy, h2]
  refine ⟨?_, ?_, ?_, ?_, ?_, a6, ?_, a8⟩
  · simpa [h1] using a1
  · simp only [List.filter_cons, hb] at a2 ⊢
    split at a2 <;> simp_all
  · simpa [h1] using a3
  · simp only [List.filter_cons, hb] at a4 ⊢
    split at a4 <;> simp_all
  · intro d hd hbd
    rcases List.mem_cons.1 hd with rfl | hd
    · rw [h2]; exact a5 c (by simp) (by rw [← hb]; exact hbd)
    · exact a5 d (by simp [hd]) hbd
  · intro d hd
    rcases List.mem_cons.1 hd with rfl | hd
    · rw [h1]; exact a7 c (by simp)
    · exact a7 d (by simp [hd])

/-- A connection that is idle is lent. -/
theorem PI.lend (h : PI (c :: X) Wt M K last) (hc : c.cl = -1) (x : Int) (hx : 0 ≤ x) (hk : mget x K = none) (hw : x ∉ Wt) (c' : Cn) (h1 : c'.num = c.num) (h2 : c'.cl = x) : PI (c' :: X) Wt M (mput x c.num K) last := by
  have hnb : ∀ d ∈ c :: X, d.cl ≠ x := (h.getK_none (by omega)).1 hk
  have hb : busy c = false := by simp [busy, hc]
  have hb' : busy c' = true := by simp [busy, h2]; omega
  obtain ⟨a1, a2, a3, a4, a5, a6, a7, a8⟩ := h
  refine ⟨?_, ?_, ?_, ?_, ?_, a6, ?_, a8⟩
  · simpa [h1] using a1
  · rw [mput_fresh hk]
    simp only [List.filter_cons, hb, hb', if_true, Bool.false_eq_true, if_false, List.map_cons, h1, h2] at a2 ⊢
    refine (List.perm_append_comm).trans ?_
    exact a2.cons _
  · simpa [h1] using a3
  · simp only [List.filter_cons, hb, hb', if_true, Bool.false_eq_true, if_false, List.map_cons, h2] at a4 ⊢
    rw [List.cons_append, List.nodup_cons]
    refine ⟨?_, a4⟩
    intro hm
    rcases List.mem_append.1 hm with hm | hm
    · obtain ⟨d, hd, e⟩ := List.mem_map.1 hm
      exact hnb d (by simp [(List.mem_filter.1 hd).1]) e
    · exact hw hm
  · intro d hd hbd
    rcases List.mem_cons.1 hd with rfl | hd
    · rw [h2]; exact hx
    · exact a5 d (by simp [hd]) hbd
  · intro d hd
    rcases List.mem_cons.1 hd with rfl | hd
    · rw [h1]; exact a7 c (by simp)
    · exact a7 d (by simp [hd])

/-- A connection that is held is given back. -/
theorem PI.free (h : PI (c :: X) Wt M K last) (hc : c.cl ≠ -1) (c' : Cn) (h1 : c'.num = c.num) (h2 : c'.cl = -1) : PI (c' :: X) Wt M (mdel c.cl K) last := by
  have hk : mget c.cl K = some c.num := h.getK.2 ⟨c, by simp, rfl, rfl, hc⟩
  have hb : busy c = true := by simp [busy, hc]
  have hb' : busy c' = false := by simp [busy, h2]
  obtain ⟨a1, a2, a3, a4, a5, a6, a7, a8⟩ := h
  refine ⟨?_, ?_, ?_, ?_, ?_, a6, ?_, a8⟩
  · simpa [h1] using a1
  · simp only [List.filter_cons, hb, hb', if_true, Bool.false_eq_true, if_false, List.map_cons] at a2 ⊢
    exact ((mdel_perm hk).symm.trans a2).cons_inv
  · simpa [h1] using a3
  · simp only [List.filter_cons, hb, hb', if_true, Bool.false_eq_true, if_false, List.map_cons] at a4 ⊢
    rw [List.cons_append, List.nodup_cons] at a4
    exact a4.2
  · intro d hd hbd
    rcases List.mem_cons.1 hd with rfl | hd
    · rw [hb'] at hbd; cases hbd
    · exact a5 d (by simp [hd]) hbd
  · intro d hd
    rcases List.mem_cons.1 hd with rfl | hd
    · rw [h1]; exact a7 c (by simp)
    · exact a7 d (by simp [hd])

/-- A new connection. -/
theorem PI.made (h : PI X Wt M K last) (c : Cn) (h1 : c.num = last + 1) (h2 : c.cl = -1) : PI (c :: X) Wt (mput (last + 1) (last + 1) M) K (last + 1) := by
  have hm : mget (last + 1) M = none := h.getM_none.2 fun d hd e => by have := h.rg d hd; omega
  have hb : busy c = false := by simp [busy, h2]
  obtain ⟨a1, a2, a3, a4, a5, a6, a7, a8⟩ := h
  refine ⟨?_, ?_, ?_, ?_, ?_, a6, ?_, by omega⟩
  · rw [mput_fresh hm]
    refine (List.perm_append_comm).trans ?_
    simp only [List.map_cons, h1]
    exact a1.cons _
  · simpa [List.filter_cons, hb] using a2
  · rw [List.map_cons, List.nodup_cons]
    refine ⟨fun hx => ?_, a3⟩
    obtain ⟨d, hd, e⟩ := List.mem_map.1 hx
    have := a7 d hd
    omega
  · simpa [List.filter_cons, hb] using a4
  · intro d hd hbd
    rcases List.mem_cons.1 hd with rfl | hd
    · rw [hb] at hbd; cases hbd
    · exact a5 d hd hbd
  · intro d hd
    rcases List.mem_cons.1 hd with rfl | hd
    · omega
    · have := a7 d hd; omega

/-- A connection is no more. -/
theorem PI.drop (h : PI (c :: X) Wt M K last) : PI X Wt (mdel c.num M) (if c.cl = -1 then K else mdel c.cl K) last := by
  have hm : mget c.num M = some c.num := h.getM.2 ⟨rfl, c, by simp, rfl⟩
  have hk : c.cl ≠ -1 → mget c.cl K = some c.num := fun hc => h.getK.2 ⟨c, by simp, rfl, rfl, hc⟩
  obtain ⟨a1, a2, a3, a4, a5, a6, a7, a8⟩ := h
  refine ⟨?_, ?_, ?_, ?_, fun d hd => a5 d (by simp [hd]), a6, fun d hd => a7 d (by simp [hd]), a8⟩
  · exact ((mdel_perm hm).symm.trans a1).cons_inv
  · by_cases hc : c.cl = -1
    · rw [if_pos hc]
      simpa [List.filter_cons, busy, hc] using a2
    · rw [if_neg hc]
      have hb : busy c = true := by simp [busy, hc]
      simp only [List.filter_cons, hb, if_true, List.map_cons] at a2
      exact ((mdel_perm (hk hc)).symm.trans a2).cons_inv
  · rw [List.map_cons, List.nodup_cons] at a3; exact a3.2
  · rw [List.filter_cons] at a4
    split at a4
    · rw [List.map_cons, List.cons_append, List.nodup_cons] at a4; exact a4.2
    · exact a4

/-- Some wait no more. -/
theorem PI.waits (h : PI C Wt M K last) {W2 : List Int} (hs : W2.Sublist Wt) : PI C W2 M K last :=
  { h with
    cw := h.cw.sublist (hs.append_left _)
    pw := fun x hx => h.pw x (hs.mem hx) }
/-- One more waits. -/
theorem PI.joins (h : PI C Wt M K last) (x : Int) (hx : 0 ≤ x) (hk : mget x K = none) (hw : x ∉ Wt) : PI C (x :: Wt) M K last := by
  have hnb : ∀ d ∈ C, d.cl ≠ x := (h.getK_none (by omega)).1 hk
  refine { h with cw := ?_, pw := ?_ }
  · refine (List.perm_middle).nodup_iff.2 ?_
    rw [List.nodup_cons]
    refine ⟨fun hm => ?_, h.cw⟩
    rcases List.mem_append.1 hm with hm | hm
    · obtain ⟨d, hd, e⟩ := List.mem_map.1 hm
      exact hnb d (List.mem_filter.1 hd).1 e
    · exact hw hm
  · intro y hy
    rcases List.mem_cons.1 hy with rfl | hy
    · exact hx
    · exact h.pw y hy
theorem PI.fresh (h : PI C Wt M K last) {x : Int} (hx : x ∈ Wt) : mget x K = none := by
  have h0 := h.pw x hx
  refine (h.getK_none (by omega)).2 fun c hc e => ?_
  have := (List.nodup_append.1 h.cw).2.2 c.cl (List.mem_map_of_mem (List.mem_filter.2 ⟨hc, by simp [busy]; omega⟩)) x hx
  exact this e
end

end Go.Proofs.Yticponkpgaofnaa
