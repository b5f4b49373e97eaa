/- Contracts of package pool: Leave. -/
import Derived.Test.YticponkpgaofnaaPoolJ
namespace Go.Proofs.Yticponkpgaofnaa
set_option linter.all false
open Go Go.RowKit

def leaveG (x : Int) (g : Gp) : Gp := ⟨g.name, g.cs, leaveL x g.sp⟩
/-- The groups, some of which a client has left. -/
def mixG (x : Int) (lf : List Gp) (g : Gp) : Gp := if (∃ y ∈ lf, y.name = g.name) then g else leaveG x g
theorem mixG_name (x : Int) (lf : List Gp) (g : Gp) : (mixG x lf g).name = g.name := by unfold mixG; split <;> rfl
theorem mixG_cs (x : Int) (lf : List Gp) (g : Gp) : (mixG x lf g).cs = g.cs := by unfold mixG; split <;> rfl
theorem leaveL_sub (x : Int) (l : List Sp) : (leaveL x l).Sublist l := by
  unfold leaveL
  split
  · exact List.Sublist.refl _
  · generalize (plc x l 0).toNat = i
    have h : l.take i ++ l.drop i = l := List.take_append_drop i l
    conv => rhs; rw [← h]
    refine List.Sublist.append (List.Sublist.refl _) ?_
    rw [show l.drop (i + 1) = (l.drop i).drop 1 by rw [List.drop_drop]]
    exact List.drop_sublist _ _
theorem gents_mix (B : ByteArray → Nat) (x : Int) (lf G : List Gp) : gents B (G.map (mixG x lf)) = gents B G := by
  unfold gents
  rw [List.map_map]
  exact List.map_congr_left fun g _ => by simp [mixG_name]
theorem conns_leave (x : Int) (G : List Gp) : conns (G.map (leaveG x)) = conns G := by
  induction G with
  | nil => rfl
  | cons g r ih => simp only [conns, List.map_cons, List.flatMap_cons] at *; rw [ih]; rfl
theorem waitr_leave (x : Int) (G : List Gp) : (waitr (G.map (leaveG x))).Sublist (waitr G) := by
  induction G with
  | nil => exact List.Sublist.refl _
  | cons g r ih =>
    simp only [waitr, List.map_cons, List.flatMap_cons] at *
    exact List.Sublist.append ((leaveL_sub x g.sp).map _) ih
theorem PInv.leave {P : PP} {last : Int} {G : List Gp} {N : List ByteArray} {M K : List (Int × Int)} (h : PInv P last G N M K) (x : Int) : PInv P last (G.map (leaveG x)) N M K := by
  have e : (G.map (leaveG x)).map (·.name) = G.map (·.name) := by rw [List.map_map]; rfl
  refine ⟨by rw [e]; exact h.nn, by rw [e]; exact h.pn, by rw [conns_leave]; exact h.pi.waits (waitr_leave x G), ?_, h.ok⟩
  intro g hg
  obtain ⟨y, hy, rfl⟩ := List.mem_map.1 hg
  exact h.sz y hy
theorem mix_all (x : Int) (G : List Gp) : G.map (mixG x []) = G.map (leaveG x) := List.map_congr_left fun g _ => by simp [mixG]
theorem mix_none (x : Int) (G : List Gp) : G.map (mixG x G) = G := by
  conv => rhs; rw [← List.map_id G]
  exact List.map_congr_left fun g hg => by unfold mixG; rw [if_pos ⟨g, hg, rfl⟩]; rfl

set_option maxHeartbeats 4000000 in
theorem leave_none (k : Env) (w : World) (R : Assn) (b : Nat) (P : PP) (last : Int) (G : List Gp) (N : List ByteArray) (x now : Int) (hx : NoHold G x) (h : Sat k w (PoolV b P last G N * R)) :
    Calls Try.prog 12 #[pt b, .int .i64 x, .int .i64 now] w fun e w' => e = .returned (.tuple #[.int .i64 0, loanV 0 0 false, .bool false]) ∧ Sat k w' (PoolV b P last (G.map (leaveG x)) N * R) := by
  (
    have h0 := (h.alloc (.cells loan0.toArray 30)).swap
    obtain ⟨A, B, L, M, K, hi, hr⟩ := pv_open h0
    obtain ⟨mG, vN, mC, mK, hs⟩ := pool_open hr
    have hnn := Lib.hid hi.nn
    go_enter Try.func12, Try.ntmps12
    go_upto_region 1 with fail
    generalize w.alloc (.cells loan0.toArray 30) = w0 at *
    generalize w.heap.size = og at *
    have c5 : w0.cell? ⟨b, 5, none⟩ = some (.map (some mG)) := hs.cell 5
    clear h0 hr
    go_upto_block 0 with (first | (go_at_call 20; refine (pthere_any _ _ _ c5).mono ?_; rintro e w' ⟨rfl, rfl⟩) | (at_range; refine wpList_range_sat rfl (.tmp 22) rfl mapG rfl (kv := Value.string) (l := gents B G) hs.swap ?_; intro gm w1 h1))
    go_frame
    go_cut [10] (fun _ wx => Sat k wx (MapK Value.string mG (gents B G) * (blk b (.cells (cellsP P last mG vN mC mK) 52 (0, 0)) * (Strs vN N * (MapK (Value.int .i64) mC (ments A M) * (MapK (Value.int .i64) mK (ments A K) * (stars (groupR A B L P.que) (G.map (leaveG x)) * (blk og (.cells loan0.toArray 30) * R))))))))
    case first =>
      clear c5 hs
      go_wp2_with fail
      go_loopg [10] G.length (fun gk _ wr => ∃ lf : List Gp, gk = lf.length ∧ (∀ g ∈ lf, g ∈ G) ∧ Hid ((lf.map (·.name)).Nodup) ∧ Sat k wr (RangeK Value.string mG gm (gents B G) (gents B lf) * (blk b (.cells (cellsP P last mG vN mC mK) 52 (0, 0)) * (Strs vN N * (MapK (Value.int .i64) mC (ments A M) * (MapK (Value.int .i64) mK (ments A K) * (stars (groupR A B L P.que) (G.map (mixG x lf)) * (blk og (.cells loan0.toArray 30) * R))))))))
      case atStart => exact ⟨G, rfl, fun g hg => hg, hnn.out, by rw [mix_none]; exact h1⟩
      case round =>
        clear h1
        obtain ⟨lf, rfl, hsub, HN, hr⟩ := hrel
        go_wp2_with (at_next; refine wpList_next_sat rfl (.tmp 23) rfl rfl hr ?_ ?_)
        · intro h2
          have hL : lf = [] := by cases lf with
            | nil => rfl
            | cons x r => simp [gents] at h2
          clear h2 hsub
          go_wp2
          go_meet
          case rel =>
            subst hL
            rw [mix_all] at hr
            exact range_map hr
        · intro j hj w1 h1 hen
          have hj' : j < lf.length := by simpa [gents] using hj
          rw [gents_at] at hen ⊢
          rw [gents_erase] at h1
          have hg : lf[j] ∈ G := hsub _ (List.getElem_mem hj')
          have hp : (lf[j] :: lf.eraseIdx j).Perm lf := perm_erase lf j hj'
          have hsub2 : ∀ y ∈ lf.eraseIdx j, y ∈ G := fun y hy => hsub y (List.mem_of_mem_eraseIdx hy)
          have hlen : (lf.eraseIdx j).length < lf.length := by rw [List.length_eraseIdx_of_lt hj']; omega
          generalize lf[j] = g at *
          generalize lf.eraseIdx j = lf2 at *
          clear hr hsub hj hj'
          have hnd : ((g :: lf2).map (·.name)).Nodup := (hp.map _).nodup_iff.2 HN.out
          rw [List.map_cons, List.nodup_cons] at hnd
          obtain ⟨p, q, hG⟩ := List.append_of_mem hg
          have hng : ∀ y ∈ p ++ q, y.name ≠ g.name := by
            intro y hy e
            have hn2 := hnn.out
            rw [hG] at hn2
            have hn3 := (List.perm_middle (l₁ := p) (l₂ := q) (a := g)).map (·.name) |>.nodup_iff.1 hn2
            rw [List.map_cons, List.nodup_cons] at hn3
            exact hn3.1 (by rw [← e]; exact List.mem_map_of_mem hy)
          have hmem : ∀ z : ByteArray, z ≠ g.name → (z ∈ lf.map (·.name) ↔ z ∈ lf2.map (·.name)) := by
            intro z hz
            rw [← (hp.map (·.name)).mem_iff, List.map_cons, List.mem_cons]
            exact ⟨fun h => h.resolve_left hz, .inr⟩
          have hmix : ∀ l : List Gp, (∀ y ∈ l, y ∈ p ++ q) → l.map (mixG x lf) = l.map (mixG x lf2) := by
            intro l hl
            refine List.map_congr_left fun y hy => ?_
            unfold mixG
            have := hmem y.name (hng y (hl y hy))
            by_cases hq : y.name ∈ lf.map (·.name)
            · rw [if_pos (List.mem_map.1 hq), if_pos (List.mem_map.1 (this.1 hq))]
            · rw [if_neg fun h => hq (List.mem_map.2 h), if_neg fun h => hq (this.2 (List.mem_map.2 h))]
          have hm1 : mixG x lf g = g := by unfold mixG; rw [if_pos ⟨g, hp.mem_iff.1 (by simp), rfl⟩]
          have hm2 : mixG x lf2 g = leaveG x g := by unfold mixG; rw [if_neg fun h => hnd.1 (List.mem_map.2 h)]
          have hst : stars (groupR A B L P.que) (G.map (mixG x lf)) = groupR A B L P.que g * stars (groupR A B L P.que) (p.map (mixG x lf2) ++ q.map (mixG x lf2)) := by
            rw [hG, List.map_append, List.map_cons, hm1, hmix p (fun y hy => by simp [hy]), hmix q (fun y hy => by simp [hy]), stars_mid]
          have hst2 : stars (groupR A B L P.que) (G.map (mixG x lf2)) = groupR A B L P.que (leaveG x g) * stars (groupR A B L P.que) (p.map (mixG x lf2) ++ q.map (mixG x lf2)) := by
            rw [hG, List.map_append, List.map_cons, hm2, stars_mid]
          rw [hst] at h1
          simp only [star_assoc] at h1
          have HS2 := Lib.hid hst2
          have HND := Lib.hid hnd.2
          clear hG hng hmem hmix hm1 hm2 hst hst2 hnd hp
          obtain ⟨a, cap, h2⟩ := group_open h1.get6
          clear h1
          have e1 : w1.cell? ⟨B g.name, 1, none⟩ = some (pt (L g.name)) := h2.cell 1
          go_wp2_with fail
          refine (leave_any k _ _ (L g.name) g.sp P.que x h2.get3).mono ?_
          rintro e w3 ⟨rfl, h3⟩
          have h4 := group_close (nm := g.name) (cs := g.cs) (sp := leaveL x g.sp) h3.put3 rfl rfl
          have h5 : Sat k w3 (RangeK Value.string mG gm (gents B G) (gents B lf2) * (blk b (.cells (cellsP P last mG vN mC mK) 52 (0, 0)) * (Strs vN N * (MapK (Value.int .i64) mC (ments A M) * (MapK (Value.int .i64) mK (ments A K) * (stars (groupR A B L P.que) (G.map (mixG x lf2)) * (blk og (.cells loan0.toArray 30) * R))))))) := by
            rw [HS2.out]
            simp only [star_assoc]
            exact h4.put6
          clear h2 h3 h4 e1
          go_wp2_with fail
          go_roundg lf2.length
          case measure => exact hlen
          case rel => exact ⟨lf2, rfl, hsub2, HND.out, h5⟩)
  case rest =>
    have hl := run_lookup_sat KInt mapC zeroC hcut.get5 x
    rw [ments_get, (nohold_K hi).2 hx] at hl
    simp only [Option.map_none, Option.getD_none] at hl
    have c8 : wc.cell? ⟨b, 8, none⟩ = some (.map (some mK)) := hcut.swap.cell 8
    have e0 : wc.cell? ⟨og, 0, none⟩ = some (.int .i64 0) := hcut.get7.cell 0
    have e1 : wc.cell? ⟨og, 1, none⟩ = some (.int .i64 0) := hcut.get7.cell 1
    have e2 : wc.cell? ⟨og, 2, none⟩ = some (.bool false) := hcut.get7.cell 2
    have f0 := hcut.get7.frozen
    clear hx
    go_wp2_with fail
    refine bodyPost_ret (v := .tuple #[.int .i64 0, loanV 0 0 false, .bool false]) (by simp [results, Try.results12, go_sem, e0, e1, e2, loanV]) rfl ⟨rfl, ?_⟩
    have h9 := (((hcut.get7.set 0 (.int .i64 0)).set 1 (.int .i64 0)).set 2 (.bool false)).drop
    exact pv_close (pool_close (M := M) (K := K) h9.swap rfl (by have := gents_mix B x [] G; rw [mix_all] at this; exact this.symm) rfl rfl) (hi.leave x)

theorem leave_id {x : Int} {G : List Gp} (h : x ∉ waitr G) : G.map (leaveG x) = G := by
  conv => rhs; rw [← List.map_id G]
  refine List.map_congr_left fun g hg => ?_
  have hn : x ∉ g.sp.map (·.1) := fun hm => h (List.mem_flatMap.2 ⟨g, hg, hm⟩)
  unfold leaveG leaveL
  rw [if_pos ((plc_none x g.sp 0).2 hn)]
  rfl

set_option maxHeartbeats 4000000 in
theorem leave_free (k : Env) (w : World) (R : Assn) (b : Nat) (P : PP) (last : Int) (G p q : List Gp) (g : Gp) (N : List ByteArray) (r s : List Cn) (c : Cn) (hGe : G = p ++ g :: q) (hc : g.cs = r ++ c :: s) (hx : c.cl ≠ -1) (hsp : g.sp = []) (x now : Int) (hxe : c.cl = x) (h : Sat k w (PoolV b P last G N * R)) :
    Calls Try.prog 12 #[pt b, .int .i64 x, .int .i64 now] w fun e w' => e = .returned (.tuple #[.int .i64 c.num, loanV 0 0 false, .bool false]) ∧ Sat k w' (PoolV b P last (p ++ ⟨g.name, r ++ s, g.sp⟩ :: q) N * R) := by
  have HGE := Lib.hid hGe
  have HC := Lib.hid hc
  have HX := Lib.hid hx
  have HXE := Lib.hid hxe
  have HSP := Lib.hid hsp
  clear hGe hc hx hxe hsp
  (
    have h0 := (h.alloc (.cells loan0.toArray 30)).swap
    obtain ⟨A, B, L, M, K, hi, hr⟩ := pv_open h0
    obtain ⟨mG, vN, mC, mK, hs⟩ := pool_open hr
    have hnn := Lib.hid hi.nn
    go_enter Try.func12, Try.ntmps12
    go_upto_region 1 with fail
    generalize w.alloc (.cells loan0.toArray 30) = w0 at *
    generalize w.heap.size = og at *
    have c5 : w0.cell? ⟨b, 5, none⟩ = some (.map (some mG)) := hs.cell 5
    clear h0 hr
    go_upto_block 0 with (first | (go_at_call 20; refine (pthere_any _ _ _ c5).mono ?_; rintro e w' ⟨rfl, rfl⟩) | (at_range; refine wpList_range_sat rfl (.tmp 22) rfl mapG rfl (kv := Value.string) (l := gents B G) hs.swap ?_; intro gm w1 h1))
    go_frame
    go_cut [10] (fun _ wx => Sat k wx (MapK Value.string mG (gents B G) * (blk b (.cells (cellsP P last mG vN mC mK) 52 (0, 0)) * (Strs vN N * (MapK (Value.int .i64) mC (ments A M) * (MapK (Value.int .i64) mK (ments A K) * (stars (groupR A B L P.que) (G.map (leaveG x)) * (blk og (.cells loan0.toArray 30) * R))))))))
    case first =>
      clear c5 hs
      go_wp2_with fail
      go_loopg [10] G.length (fun gk _ wr => ∃ lf : List Gp, gk = lf.length ∧ (∀ g ∈ lf, g ∈ G) ∧ Hid ((lf.map (·.name)).Nodup) ∧ Sat k wr (RangeK Value.string mG gm (gents B G) (gents B lf) * (blk b (.cells (cellsP P last mG vN mC mK) 52 (0, 0)) * (Strs vN N * (MapK (Value.int .i64) mC (ments A M) * (MapK (Value.int .i64) mK (ments A K) * (stars (groupR A B L P.que) (G.map (mixG x lf)) * (blk og (.cells loan0.toArray 30) * R))))))))
      case atStart => exact ⟨G, rfl, fun g hg => hg, hnn.out, by rw [mix_none]; exact h1⟩
      case round =>
        clear h1
        obtain ⟨lf, rfl, hsub, HN, hr⟩ := hrel
        go_wp2_with (at_next; refine wpList_next_sat rfl (.tmp 23) rfl rfl hr ?_ ?_)
        · intro h2
          have hL : lf = [] := by cases lf with
            | nil => rfl
            | cons x r => simp [gents] at h2
          clear h2 hsub
          go_wp2
          go_meet
          case rel =>
            subst hL
            rw [mix_all] at hr
            exact range_map hr
        · intro j hj w1 h1 hen
          have hj' : j < lf.length := by simpa [gents] using hj
          rw [gents_at] at hen ⊢
          rw [gents_erase] at h1
          have hg : lf[j] ∈ G := hsub _ (List.getElem_mem hj')
          have hp : (lf[j] :: lf.eraseIdx j).Perm lf := perm_erase lf j hj'
          have hsub2 : ∀ y ∈ lf.eraseIdx j, y ∈ G := fun y hy => hsub y (List.mem_of_mem_eraseIdx hy)
          have hlen : (lf.eraseIdx j).length < lf.length := by rw [List.length_eraseIdx_of_lt hj']; omega
          generalize lf[j] = g at *
          generalize lf.eraseIdx j = lf2 at *
          clear hr hsub hj hj'
          have hnd : ((g :: lf2).map (·.name)).Nodup := (hp.map _).nodup_iff.2 HN.out
          rw [List.map_cons, List.nodup_cons] at hnd
          obtain ⟨p, q, hG⟩ := List.append_of_mem hg
          have hng : ∀ y ∈ p ++ q, y.name ≠ g.name := by
            intro y hy e
            have hn2 := hnn.out
            rw [hG] at hn2
            have hn3 := (List.perm_middle (l₁ := p) (l₂ := q) (a := g)).map (·.name) |>.nodup_iff.1 hn2
            rw [List.map_cons, List.nodup_cons] at hn3
            exact hn3.1 (by rw [← e]; exact List.mem_map_of_mem hy)
          have hmem : ∀ z : ByteArray, z ≠ g.name → (z ∈ lf.map (·.name) ↔ z ∈ lf2.map (·.name)) := by
            intro z hz
            rw [← (hp.map (·.name)).mem_iff, List.map_cons, List.mem_cons]
            exact ⟨fun h => h.resolve_left hz, .inr⟩
          have hmix : ∀ l : List Gp, (∀ y ∈ l, y ∈ p ++ q) → l.map (mixG x lf) = l.map (mixG x lf2) := by
            intro l hl
            refine List.map_congr_left fun y hy => ?_
            unfold mixG
            have := hmem y.name (hng y (hl y hy))
            by_cases hq : y.name ∈ lf.map (·.name)
            · rw [if_pos (List.mem_map.1 hq), if_pos (List.mem_map.1 (this.1 hq))]
            · rw [if_neg fun h => hq (List.mem_map.2 h), if_neg fun h => hq (this.2 (List.mem_map.2 h))]
          have hm1 : mixG x lf g = g := by unfold mixG; rw [if_pos ⟨g, hp.mem_iff.1 (by simp), rfl⟩]
          have hm2 : mixG x lf2 g = leaveG x g := by unfold mixG; rw [if_neg fun h => hnd.1 (List.mem_map.2 h)]
          have hst : stars (groupR A B L P.que) (G.map (mixG x lf)) = groupR A B L P.que g * stars (groupR A B L P.que) (p.map (mixG x lf2) ++ q.map (mixG x lf2)) := by
            rw [hG, List.map_append, List.map_cons, hm1, hmix p (fun y hy => by simp [hy]), hmix q (fun y hy => by simp [hy]), stars_mid]
          have hst2 : stars (groupR A B L P.que) (G.map (mixG x lf2)) = groupR A B L P.que (leaveG x g) * stars (groupR A B L P.que) (p.map (mixG x lf2) ++ q.map (mixG x lf2)) := by
            rw [hG, List.map_append, List.map_cons, hm2, stars_mid]
          rw [hst] at h1
          simp only [star_assoc] at h1
          have HS2 := Lib.hid hst2
          have HND := Lib.hid hnd.2
          clear hG hng hmem hmix hm1 hm2 hst hst2 hnd hp
          obtain ⟨a, cap, h2⟩ := group_open h1.get6
          clear h1
          have e1 : w1.cell? ⟨B g.name, 1, none⟩ = some (pt (L g.name)) := h2.cell 1
          go_wp2_with fail
          refine (leave_any k _ _ (L g.name) g.sp P.que x h2.get3).mono ?_
          rintro e w3 ⟨rfl, h3⟩
          have h4 := group_close (nm := g.name) (cs := g.cs) (sp := leaveL x g.sp) h3.put3 rfl rfl
          have h5 : Sat k w3 (RangeK Value.string mG gm (gents B G) (gents B lf2) * (blk b (.cells (cellsP P last mG vN mC mK) 52 (0, 0)) * (Strs vN N * (MapK (Value.int .i64) mC (ments A M) * (MapK (Value.int .i64) mK (ments A K) * (stars (groupR A B L P.que) (G.map (mixG x lf2)) * (blk og (.cells loan0.toArray 30) * R))))))) := by
            rw [HS2.out]
            simp only [star_assoc]
            exact h4.put6
          clear h2 h3 h4 e1
          go_wp2_with fail
          go_roundg lf2.length
          case measure => exact hlen
          case rel => exact ⟨lf2, rfl, hsub2, HND.out, h5⟩)
  case rest =>
    have hi2 := hi
    rw [HGE.out] at hi2
    have hk := hold_K hi2 HC.out HX.out
    rw [HXE.out] at hk
    have hlG : G.map (leaveG x) = G := leave_id fun hm => by
      have hb : c ∈ (conns G).filter busy := List.mem_filter.2 ⟨by rw [HGE.out, conns_mid, HC.out]; simp, by simp [busy, HX.out]⟩
      exact (List.nodup_append.1 hi.pi.cw).2.2 c.cl (List.mem_map_of_mem hb) x hm HXE.out
    rw [hlG] at hcut
    have hl := run_lookup_sat KInt mapC zeroC hcut.get5 x
    rw [ments_get, hk] at hl
    simp only [Option.map_some, Option.getD_some] at hl
    have c8 : wc.cell? ⟨b, 8, none⟩ = some (.map (some mK)) := hcut.swap.cell 8
    have hP := pool_close (P := P) (last := last) (M := M) (K := K) hcut.swap rfl rfl rfl rfl
    rw [HGE.out] at hP
    obtain ⟨mG5, vN5, mC5, mK5, a5, cap5, hs5⟩ := pool_conn hP HC.out
    have d0 : wc.cell? ⟨A c.num, 0, none⟩ = some (.int .i64 c.num) := hs5.get3.cell 0
    clear hk hlG hs5
    go_wp2_with fail
    refine (lost_freeR k _ _ b P last p q g N r s c HC.out HSP.out now A B L M K hi2 hP).mono ?_
    rintro e w5 ⟨rfl, h5⟩
    clear hl c8 d0 hP hcut
    unfold loanV
    go_upto_region 11 with fail
    have h6 := h5.alloc (.cells #[.int .i64 0, .int .i64 0, .bool false] 30)
    generalize w5.alloc (.cells #[.int .i64 0, .int .i64 0, .bool false] 30) = w6 at *
    generalize w5.heap.size = ol at *
    have d0 : w6.cell? ⟨A c.num, 0, none⟩ = some (.int .i64 c.num) := h6.swap.cell 0
    have l0 : w6.cell? ⟨ol, 0, none⟩ = some (.int .i64 0) := h6.cell 0
    have l1 : w6.cell? ⟨ol, 1, none⟩ = some (.int .i64 0) := h6.cell 1
    have l2 : w6.cell? ⟨ol, 2, none⟩ = some (.bool false) := h6.cell 2
    have e0 : w6.cell? ⟨og, 0, none⟩ = some (.int .i64 0) := h6.get4.cell 0
    have e1 : w6.cell? ⟨og, 1, none⟩ = some (.int .i64 0) := h6.get4.cell 1
    have e2 : w6.cell? ⟨og, 2, none⟩ = some (.bool false) := h6.get4.cell 2
    have f0 := h6.get4.frozen
    have n1 : og ≠ ol := h6.get4.ne
    have n2 : ol ≠ og := Ne.symm n1
    have n3 : og ≠ A c.num := h6.get4.swap2.ne
    have n4 : A c.num ≠ og := Ne.symm n3
    go_region_law (fail)
    all_goals
      go_wp2_with fail
      refine bodyPost_ret (v := .tuple #[.int .i64 c.num, loanV 0 0 false, .bool false]) (by simp [results, Try.results12, go_sem, e0, e1, e2, loanV]) rfl ⟨rfl, ?_⟩
      exact (((h6.get4.set 0 _).set 1 _).set 2 _).drop.drop.drop

set_option maxHeartbeats 4000000 in
theorem leave_next (k : Env) (w : World) (R : Assn) (b : Nat) (P : PP) (last : Int) (G p q : List Gp) (g : Gp) (N : List ByteArray) (r s : List Cn) (c : Cn) (hGe : G = p ++ g :: q) (hc : g.cs = r ++ c :: s) (hx : c.cl ≠ -1) (y : Sp) (sp : List Sp) (hsp : g.sp = y :: sp) (hlast : last ≤ 4611686018427387904) (x now : Int) (hxe : c.cl = x) (h : Sat k w (PoolV b P last G N * R)) :
    Calls Try.prog 12 #[pt b, .int .i64 x, .int .i64 now] w fun e w' => e = .returned (.tuple #[.int .i64 c.num, loanV y.1 (last + 1) true, .bool true]) ∧ Sat k w' (PoolV b P (last + 1) (p ++ ⟨g.name, (r ++ s) ++ [newLent (last + 1) y.1], sp⟩ :: q) N * R) := by
  have HGE := Lib.hid hGe
  have HC := Lib.hid hc
  have HX := Lib.hid hx
  have HXE := Lib.hid hxe
  have HSP := Lib.hid hsp
  clear hGe hc hx hxe hsp
  (
    have h0 := (h.alloc (.cells loan0.toArray 30)).swap
    obtain ⟨A, B, L, M, K, hi, hr⟩ := pv_open h0
    obtain ⟨mG, vN, mC, mK, hs⟩ := pool_open hr
    have hnn := Lib.hid hi.nn
    go_enter Try.func12, Try.ntmps12
    go_upto_region 1 with fail
    generalize w.alloc (.cells loan0.toArray 30) = w0 at *
    generalize w.heap.size = og at *
    have c5 : w0.cell? ⟨b, 5, none⟩ = some (.map (some mG)) := hs.cell 5
    clear h0 hr
    go_upto_block 0 with (first | (go_at_call 20; refine (pthere_any _ _ _ c5).mono ?_; rintro e w' ⟨rfl, rfl⟩) | (at_range; refine wpList_range_sat rfl (.tmp 22) rfl mapG rfl (kv := Value.string) (l := gents B G) hs.swap ?_; intro gm w1 h1))
    go_frame
    go_cut [10] (fun _ wx => Sat k wx (MapK Value.string mG (gents B G) * (blk b (.cells (cellsP P last mG vN mC mK) 52 (0, 0)) * (Strs vN N * (MapK (Value.int .i64) mC (ments A M) * (MapK (Value.int .i64) mK (ments A K) * (stars (groupR A B L P.que) (G.map (leaveG x)) * (blk og (.cells loan0.toArray 30) * R))))))))
    case first =>
      clear c5 hs
      go_wp2_with fail
      go_loopg [10] G.length (fun gk _ wr => ∃ lf : List Gp, gk = lf.length ∧ (∀ g ∈ lf, g ∈ G) ∧ Hid ((lf.map (·.name)).Nodup) ∧ Sat k wr (RangeK Value.string mG gm (gents B G) (gents B lf) * (blk b (.cells (cellsP P last mG vN mC mK) 52 (0, 0)) * (Strs vN N * (MapK (Value.int .i64) mC (ments A M) * (MapK (Value.int .i64) mK (ments A K) * (stars (groupR A B L P.que) (G.map (mixG x lf)) * (blk og (.cells loan0.toArray 30) * R))))))))
      case atStart => exact ⟨G, rfl, fun g hg => hg, hnn.out, by rw [mix_none]; exact h1⟩
      case round =>
        clear h1
        obtain ⟨lf, rfl, hsub, HN, hr⟩ := hrel
        go_wp2_with (at_next; refine wpList_next_sat rfl (.tmp 23) rfl rfl hr ?_ ?_)
        · intro h2
          have hL : lf = [] := by cases lf with
            | nil => rfl
            | cons x r => simp [gents] at h2
          clear h2 hsub
          go_wp2
          go_meet
          case rel =>
            subst hL
            rw [mix_all] at hr
            exact range_map hr
        · intro j hj w1 h1 hen
          have hj' : j < lf.length := by simpa [gents] using hj
          rw [gents_at] at hen ⊢
          rw [gents_erase] at h1
          have hg : lf[j] ∈ G := hsub _ (List.getElem_mem hj')
          have hp : (lf[j] :: lf.eraseIdx j).Perm lf := perm_erase lf j hj'
          have hsub2 : ∀ y ∈ lf.eraseIdx j, y ∈ G := fun y hy => hsub y (List.mem_of_mem_eraseIdx hy)
          have hlen : (lf.eraseIdx j).length < lf.length := by rw [List.length_eraseIdx_of_lt hj']; omega
          generalize lf[j] = g at *
          generalize lf.eraseIdx j = lf2 at *
          clear hr hsub hj hj'
          have hnd : ((g :: lf2).map (·.name)).Nodup := (hp.map _).nodup_iff.2 HN.out
          rw [List.map_cons, List.nodup_cons] at hnd
          obtain ⟨p, q, hG⟩ := List.append_of_mem hg
          have hng : ∀ y ∈ p ++ q, y.name ≠ g.name := by
            intro y hy e
            have hn2 := hnn.out
            rw [hG] at hn2
            have hn3 := (List.perm_middle (l₁ := p) (l₂ := q) (a := g)).map (·.name) |>.nodup_iff.1 hn2
            rw [List.map_cons, List.nodup_cons] at hn3
            exact hn3.1 (by rw [← e]; exact List.mem_map_of_mem hy)
          have hmem : ∀ z : ByteArray, z ≠ g.name → (z ∈ lf.map (·.name) ↔ z ∈ lf2.map (·.name)) := by
            intro z hz
            rw [← (hp.map (·.name)).mem_iff, List.map_cons, List.mem_cons]
            exact ⟨fun h => h.resolve_left hz, .inr⟩
          have hmix : ∀ l : List Gp, (∀ y ∈ l, y ∈ p ++ q) → l.map (mixG x lf) = l.map (mixG x lf2) := by
            intro l hl
            refine List.map_congr_left fun y hy => ?_
            unfold mixG
            have := hmem y.name (hng y (hl y hy))
            by_cases hq : y.name ∈ lf.map (·.name)
            · rw [if_pos (List.mem_map.1 hq), if_pos (List.mem_map.1 (this.1 hq))]
            · rw [if_neg fun h => hq (List.mem_map.2 h), if_neg fun h => hq (this.2 (List.mem_map.2 h))]
          have hm1 : mixG x lf g = g := by unfold mixG; rw [if_pos ⟨g, hp.mem_iff.1 (by simp), rfl⟩]
          have hm2 : mixG x lf2 g = leaveG x g := by unfold mixG; rw [if_neg fun h => hnd.1 (List.mem_map.2 h)]
          have hst : stars (groupR A B L P.que) (G.map (mixG x lf)) = groupR A B L P.que g * stars (groupR A B L P.que) (p.map (mixG x lf2) ++ q.map (mixG x lf2)) := by
            rw [hG, List.map_append, List.map_cons, hm1, hmix p (fun y hy => by simp [hy]), hmix q (fun y hy => by simp [hy]), stars_mid]
          have hst2 : stars (groupR A B L P.que) (G.map (mixG x lf2)) = groupR A B L P.que (leaveG x g) * stars (groupR A B L P.que) (p.map (mixG x lf2) ++ q.map (mixG x lf2)) := by
            rw [hG, List.map_append, List.map_cons, hm2, stars_mid]
          rw [hst] at h1
          simp only [star_assoc] at h1
          have HS2 := Lib.hid hst2
          have HND := Lib.hid hnd.2
          clear hG hng hmem hmix hm1 hm2 hst hst2 hnd hp
          obtain ⟨a, cap, h2⟩ := group_open h1.get6
          clear h1
          have e1 : w1.cell? ⟨B g.name, 1, none⟩ = some (pt (L g.name)) := h2.cell 1
          go_wp2_with fail
          refine (leave_any k _ _ (L g.name) g.sp P.que x h2.get3).mono ?_
          rintro e w3 ⟨rfl, h3⟩
          have h4 := group_close (nm := g.name) (cs := g.cs) (sp := leaveL x g.sp) h3.put3 rfl rfl
          have h5 : Sat k w3 (RangeK Value.string mG gm (gents B G) (gents B lf2) * (blk b (.cells (cellsP P last mG vN mC mK) 52 (0, 0)) * (Strs vN N * (MapK (Value.int .i64) mC (ments A M) * (MapK (Value.int .i64) mK (ments A K) * (stars (groupR A B L P.que) (G.map (mixG x lf2)) * (blk og (.cells loan0.toArray 30) * R))))))) := by
            rw [HS2.out]
            simp only [star_assoc]
            exact h4.put6
          clear h2 h3 h4 e1
          go_wp2_with fail
          go_roundg lf2.length
          case measure => exact hlen
          case rel => exact ⟨lf2, rfl, hsub2, HND.out, h5⟩)
  case rest =>
    have hi2 := hi
    rw [HGE.out] at hi2
    have hk := hold_K hi2 HC.out HX.out
    rw [HXE.out] at hk
    have hlG : G.map (leaveG x) = G := leave_id fun hm => by
      have hb : c ∈ (conns G).filter busy := List.mem_filter.2 ⟨by rw [HGE.out, conns_mid, HC.out]; simp, by simp [busy, HX.out]⟩
      exact (List.nodup_append.1 hi.pi.cw).2.2 c.cl (List.mem_map_of_mem hb) x hm HXE.out
    rw [hlG] at hcut
    have hl := run_lookup_sat KInt mapC zeroC hcut.get5 x
    rw [ments_get, hk] at hl
    simp only [Option.map_some, Option.getD_some] at hl
    have c8 : wc.cell? ⟨b, 8, none⟩ = some (.map (some mK)) := hcut.swap.cell 8
    have hP := pool_close (P := P) (last := last) (M := M) (K := K) hcut.swap rfl rfl rfl rfl
    rw [HGE.out] at hP
    obtain ⟨mG5, vN5, mC5, mK5, a5, cap5, hs5⟩ := pool_conn hP HC.out
    have d0 : wc.cell? ⟨A c.num, 0, none⟩ = some (.int .i64 c.num) := hs5.get3.cell 0
    clear hk hlG hs5
    go_wp2_with fail
    refine (lost_nextR k _ _ b P last p q g N r s c HC.out y sp HSP.out now hlast A B L M K hi2 hP).mono ?_
    rintro e w5 ⟨rfl, h5⟩
    clear hl c8 d0 hP hcut
    unfold loanV
    go_upto_region 11 with fail
    have h6 := h5.alloc (.cells #[.int .i64 y.1, .int .i64 (last + 1), .bool true] 30)
    generalize w5.alloc (.cells #[.int .i64 y.1, .int .i64 (last + 1), .bool true] 30) = w6 at *
    generalize w5.heap.size = ol at *
    have d0 : w6.cell? ⟨A c.num, 0, none⟩ = some (.int .i64 c.num) := h6.swap.cell 0
    have l0 : w6.cell? ⟨ol, 0, none⟩ = some (.int .i64 y.1) := h6.cell 0
    have l1 : w6.cell? ⟨ol, 1, none⟩ = some (.int .i64 (last + 1)) := h6.cell 1
    have l2 : w6.cell? ⟨ol, 2, none⟩ = some (.bool true) := h6.cell 2
    have e0 : w6.cell? ⟨og, 0, none⟩ = some (.int .i64 0) := h6.get4.cell 0
    have e1 : w6.cell? ⟨og, 1, none⟩ = some (.int .i64 0) := h6.get4.cell 1
    have e2 : w6.cell? ⟨og, 2, none⟩ = some (.bool false) := h6.get4.cell 2
    have f0 := h6.get4.frozen
    have n1 : og ≠ ol := h6.get4.ne
    have n2 : ol ≠ og := Ne.symm n1
    have n3 : og ≠ A c.num := h6.get4.swap2.ne
    have n4 : A c.num ≠ og := Ne.symm n3
    go_region_law (fail)
    all_goals
      go_wp2_with fail
      refine bodyPost_ret (v := .tuple #[.int .i64 c.num, loanV y.1 (last + 1) true, .bool true]) (by simp [results, Try.results12, go_sem, e0, e1, e2, loanV]) rfl ⟨rfl, ?_⟩
      exact (((h6.get4.set 0 _).set 1 _).set 2 _).drop.drop.drop

end Go.Proofs.Yticponkpgaofnaa
