/- Contracts of package pool: Late. -/
import Derived.Test.YticponkpgaofnaaPoolL
namespace Go.Proofs.Yticponkpgaofnaa
set_option linter.all false
open Go Go.RowKit

def stayG (now : Int) (g : Gp) : Gp := ⟨g.name, g.cs, stayF now g.sp⟩
def smixG (now : Int) (D : List ByteArray) (g : Gp) : Gp := if (∃ y ∈ D, y = g.name) then stayG now g else g
def lateOf (now : Int) (G : List Gp) (n : ByteArray) : List Int := match G.find? (fun g => decide (g.name = n)) with
  | some g => lateF now g.sp
  | none => []
def lateAll (now : Int) (G : List Gp) (N : List ByteArray) : List Int := N.flatMap (lateOf now G)
theorem lateOf_at {now : Int} {p q : List Gp} {g : Gp} (hn : ((p ++ g :: q).map (·.name)).Nodup) : lateOf now (p ++ g :: q) g.name = lateF now g.sp := by
  have : (p ++ g :: q).find? (fun y => decide (y.name = g.name)) = some g := by
    rw [List.find?_append]
    have h1 : p.find? (fun y => decide (y.name = g.name)) = none := by
      rw [List.find?_eq_none]
      intro y hy e
      have e : y.name = g.name := by simpa using e
      rw [List.map_append, List.nodup_append] at hn
      exact hn.2.2 y.name (List.mem_map_of_mem hy) g.name (by simp) e
    rw [h1, List.find?_cons]
    simp
  unfold lateOf
  rw [this]
theorem stayF_sub (now : Int) (l : List Sp) : (stayF now l).Sublist l := List.filter_sublist
theorem gents_smix (B : ByteArray → Nat) (now : Int) (D : List ByteArray) (G : List Gp) : gents B (G.map (smixG now D)) = gents B G := by
  unfold gents
  rw [List.map_map]
  exact List.map_congr_left fun g _ => by
    have : (smixG now D g).name = g.name := by unfold smixG; split <;> rfl
    simp [this]
theorem conns_stay (now : Int) (G : List Gp) : conns (G.map (stayG now)) = conns G := by
  induction G with
  | nil => rfl
  | cons g r ih => simp only [conns, List.map_cons, List.flatMap_cons] at *; rw [ih]; rfl
theorem waitr_stay (now : Int) (G : List Gp) : (waitr (G.map (stayG now))).Sublist (waitr G) := by
  induction G with
  | nil => exact List.Sublist.refl _
  | cons g r ih =>
    simp only [waitr, List.map_cons, List.flatMap_cons] at *
    exact List.Sublist.append ((stayF_sub now g.sp).map _) ih
theorem PInv.stay {P : PP} {last : Int} {G : List Gp} {N : List ByteArray} {M K : List (Int × Int)} (h : PInv P last G N M K) (now : Int) : PInv P last (G.map (stayG now)) N M K := by
  have e : (G.map (stayG now)).map (·.name) = G.map (·.name) := by rw [List.map_map]; rfl
  refine ⟨by rw [e]; exact h.nn, by rw [e]; exact h.pn, by rw [conns_stay]; exact h.pi.waits (waitr_stay now G), ?_, h.ok⟩
  intro g hg
  obtain ⟨y, hy, rfl⟩ := List.mem_map.1 hg
  exact h.sz y hy
theorem ints_join {k : Env} {w : World} {R : Assn} {v : Value} {l r : List Int} (h : Sat k w (Own 3 1 v (l.length + r.length) (ints l ++ ints r) * R)) : Sat k w (Ints v (l ++ r) * R) := by
  unfold Ints
  rw [List.length_append]
  have e : ints (l ++ r) = ints l ++ ints r := by simp [ints]
  rw [e]; exact h

set_option maxHeartbeats 4000000 in
theorem late_pool (k : Env) (w : World) (R : Assn) (b : Nat) (P : PP) (last : Int) (G : List Gp) (N : List ByteArray) (now : Int) (hG : (G.length : Int) ≤ 1000000) (h : Sat k w (PoolV b P last G N * R)) :
    Calls Try.prog 13 #[pt b, .int .i64 now] w fun e w' => ∃ v, e = .returned v ∧ Sat k w' (Ints v (lateAll now G N) * (PoolV b P last (G.map (stayG now)) N * R)) := by
  obtain ⟨A, B, L, M, K, hi, hr⟩ := pv_open h
  obtain ⟨mG, vN, mC, mK, hs⟩ := pool_open hr
  obtain ⟨na, nc, hv⟩ := own_val hs.get3
  subst hv
  have hNl : N.length = G.length := by have := hi.pn.length_eq; simpa using this
  have c5 : w.cell? ⟨b, 5, none⟩ = some (.map (some mG)) := hs.cell 5
  have c6 : w.cell? ⟨b, 6, none⟩ = some (.slice na N.length nc) := hs.cell 6
  have hlq := hi.ok.2.2.2.1
  have HI := Lib.hid hi
  clear h hr hi
  go_enter Try.func13, Try.ntmps13
  go_wp2_with (go_at_call 20; refine (pthere_any _ _ _ c5).mono ?_; rintro e w' ⟨rfl, rfl⟩)
  go_loopw [5, 7, 16] (fun v _ i wr => ∃ j : Nat, j ≤ N.length ∧ i = .int .i64 j ∧ ((lateAll now G (N.take j)).length ≤ j * 1000) ∧ Sat k wr (Ints v (lateAll now G (N.take j)) * (blk b (.cells (cellsP P last mG (.slice na N.length nc) mC mK) 52 (0, 0)) * (MapK Value.string mG (gents B G) * (Strs (.slice na N.length nc) N * (MapK (Value.int .i64) mC (ments A M) * (MapK (Value.int .i64) mK (ments A K) * (stars (groupR A B L P.que) (G.map (smixG now (N.take j))) * R)))))))) (fun _ _ i _ => N.length - (intOf i).toNat)
  case atStart =>
    refine ⟨0, Nat.zero_le _, rfl, by simp [lateAll], own_nil ?_⟩
    have e : G.map (smixG now (N.take 0)) = G := by
      conv => rhs; rw [← List.map_id G]
      exact List.map_congr_left fun g _ => by simp [smixG]
    rw [e]; exact hs
  case round =>
    clear c5 c6 hs
    obtain ⟨j, hj, rfl, hol, hr⟩ := hrel
    by_cases hlt : j < N.length
    · obtain ⟨ga, rfl, hga, e0⟩ := strs_get hr.get4 j hlt
      have hNnd : N.Nodup := HI.out.pn.nodup_iff.2 HI.out.nn
      have hmem : N[j] ∈ G.map (·.name) := HI.out.pn.mem_iff.1 (List.getElem_mem hlt)
      obtain ⟨g, hg, hgn⟩ := List.mem_map.1 hmem
      obtain ⟨p, q, hGe⟩ := List.append_of_mem hg
      have hnn := HI.out.nn
      have hlook := run_lookup_sat KStr mapG zeroG hr.get3 N[j]
      rw [← hgn] at hlook e0
      have hgg : mget g.name (gents B G) = some (pt (B g.name)) := by rw [hGe] at hnn ⊢; exact gents_get hnn
      rw [hgg] at hlook
      simp only [Option.getD_some] at hlook
      have HT : Hid (N.take (j + 1) = N.take j ++ [g.name]) := by unfold Hid; rw [List.take_succ_eq_append_getElem hlt, ← hgn]
      have hnot : g.name ∉ N.take j := by
        rw [hgn]
        intro hm
        obtain ⟨i, hi, e⟩ := List.getElem_of_mem hm
        have h1 : i < j := by simp at hi; omega
        rw [List.getElem_take] at e
        exact List.pairwise_iff_getElem.1 hNnd i j (by omega) hlt h1 e
      have hng : ∀ y ∈ p ++ q, y.name ≠ g.name := by
        intro y hy e
        rw [hGe] at hnn
        have hn3 := (List.perm_middle (l₁ := p) (l₂ := q) (a := g)).map (·.name) |>.nodup_iff.1 hnn
        rw [List.map_cons, List.nodup_cons] at hn3
        exact hn3.1 (by rw [← e]; exact List.mem_map_of_mem hy)
      have hm1 : smixG now (N.take j) g = g := by unfold smixG; rw [if_neg fun ⟨y, hy, e⟩ => hnot (e ▸ hy)]
      have hm2 : smixG now (N.take (j + 1)) g = stayG now g := by unfold smixG; rw [HT.out, if_pos ⟨g.name, by simp, rfl⟩]
      have hmix : ∀ l : List Gp, (∀ y ∈ l, y ∈ p ++ q) → l.map (smixG now (N.take j)) = l.map (smixG now (N.take (j + 1))) := by
        intro l hl
        refine List.map_congr_left fun y hy => ?_
        unfold smixG
        rw [HT.out]
        have hne := hng y (hl y hy)
        by_cases hq : ∃ z ∈ N.take j, z = y.name
        · rw [if_pos hq, if_pos (by obtain ⟨z, hz, e⟩ := hq; exact ⟨z, by simp [hz], e⟩)]
        · rw [if_neg hq, if_neg (by
            rintro ⟨z, hz, e⟩
            rcases List.mem_append.1 hz with hz | hz
            · exact hq ⟨z, hz, e⟩
            · simp at hz; exact hne (by rw [← e, hz]))]
      have hst : stars (groupR A B L P.que) (G.map (smixG now (N.take j))) = groupR A B L P.que g * stars (groupR A B L P.que) (p.map (smixG now (N.take (j + 1))) ++ q.map (smixG now (N.take (j + 1)))) := by
        rw [hGe, List.map_append, List.map_cons, hm1, hmix p (fun y hy => by simp [hy]), hmix q (fun y hy => by simp [hy]), stars_mid]
      have hst2 : stars (groupR A B L P.que) (G.map (smixG now (N.take (j + 1)))) = groupR A B L P.que (stayG now g) * stars (groupR A B L P.que) (p.map (smixG now (N.take (j + 1))) ++ q.map (smixG now (N.take (j + 1)))) := by
        rw [hGe, List.map_append, List.map_cons, hm2, stars_mid]
      have HLA : Hid (lateAll now G (N.take (j + 1)) = lateAll now G (N.take j) ++ lateF now g.sp) := by
        unfold Hid lateAll
        rw [HT.out, List.flatMap_append, List.flatMap_cons, List.flatMap_nil, List.append_nil]
        congr 1
        rw [hGe] at hnn ⊢
        exact lateOf_at hnn
      rw [hst] at hr
      simp only [star_assoc] at hr
      have HS2 := Lib.hid hst2
      clear hst hst2 hmix hm1 hm2 hng hnot hmem hgn hGe hg hNnd hnn hgg HT
      obtain ⟨a, cap, h2⟩ := group_open hr.get7
      clear hr
      obtain ⟨va, vc, rfl⟩ := own_val h2.get5
      have c5 : wr.cell? ⟨b, 5, none⟩ = some (.map (some mG)) := h2.get6.cell 5
      have d1 : wr.cell? ⟨B g.name, 1, none⟩ = some (pt (L g.name)) := h2.cell 1
      have hll := late_len now g.sp
      have hspl : (g.sp.length : Int) ≤ P.que := by
        obtain ⟨_, _, _, _, h9, _⟩ := line_open h2.get3
        exact h9
      go_wp2_with fail
      refine (late_any k _ _ (L g.name) g.sp P.que now h2.get3).mono ?_
      rintro e w3 ⟨v3, rfl, h3⟩
      obtain ⟨a3, c3, rfl⟩ := own_val h3
      clear c5 d1 h2 hlook
      go_wp2_with (at_builtin; refine wpList_append_sat TInts h3.get6 (.tmp 20) (.tmp 31) a3 (lateF now g.sp).length c3 (ints (lateF now g.sp)) rfl rfl rfl rfl (by simp [ints]) (own_src h3) (ints_one _) (by simp [maxLen]; omega) (by omega) ?_; intro a4 c4 w4 h4)
      go_roundw
      case rel =>
        refine ⟨j + 1, by omega, by go_num, by rw [HLA.out, List.length_append]; omega, ?_⟩
        have h5 := group_close (nm := g.name) (cs := g.cs) (sp := stayF now g.sp) (ints_join h4).drop2.put5.put3 rfl rfl
        have h6 := h5.put7
        rw [HLA.out, HS2.out]
        simp only [star_assoc]
        exact h6
      case measure => simp [intOf]; omega
    · obtain rfl : j = N.length := by omega
      go_wp2_with fail
      go_ret
      have e : G.map (smixG now (N.take N.length)) = G.map (stayG now) := by
        refine List.map_congr_left fun g hg => ?_
        unfold smixG
        rw [List.take_length, if_pos ⟨g.name, HI.out.pn.mem_iff.2 (List.mem_map_of_mem hg), rfl⟩]
      rw [e, List.take_length] at hr
      refine ⟨_, rfl, ?_⟩
      exact (pv_close (pool_close (M := M) (K := K) (G := G.map (stayG now)) hr.put7 rfl (by unfold gents; rw [List.map_map]; rfl) rfl rfl) (HI.out.stay now)).swap

end Go.Proofs.Yticponkpgaofnaa
