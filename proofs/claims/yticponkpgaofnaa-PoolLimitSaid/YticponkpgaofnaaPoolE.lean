/- Contracts of package pool: waits, group. -/
import Derived.Test.YticponkpgaofnaaPoolD
import Derived.Test.YticponkpgaofnaaCopyS
import Derived.Deep.LoopGhost
namespace Go.Proofs.Yticponkpgaofnaa
set_option linter.all false
open Go Go.RowKit

theorem plc_none (x : Int) (l : List Sp) (i : Nat) : plc x l i = -1 ↔ x ∉ l.map (·.1) := by
  induction l generalizing i with
  | nil => simp [plc]
  | cons s r ih =>
    rw [plc]
    by_cases h : s.1 = x
    · rw [if_pos h]; simp [h]
    · rw [if_neg h, ih, List.map_cons, List.mem_cons]
      exact ⟨fun h1 h2 => by rcases h2 with h2 | h2; exact h h2.symm; exact h1 h2, fun h1 h2 => h1 (.inr h2)⟩
theorem gents_erase (B : ByteArray → Nat) (l : List Gp) (j : Nat) : (gents B l).eraseIdx j = gents B (l.eraseIdx j) := (map_erase _ l j).symm
theorem gents_at (B : ByteArray → Nat) (l : List Gp) (j : Nat) (hj : j < (gents B l).length) : (gents B l)[j] = ((l[j]'(by simpa [gents] using hj)).name, pt (B (l[j]'(by simpa [gents] using hj)).name)) := by simp [gents]

set_option maxHeartbeats 4000000 in
theorem waits_any (k : Env) (w : World) (R : Assn) (b : Nat) (P : PP) (last : Int) (A : Int → Nat) (B L : ByteArray → Nat) (G : List Gp) (N : List ByteArray) (M K : List (Int × Int)) (x : Int) (h : Sat k w (PoolR b P last A B L G N M K * R)) :
    Calls Try.prog 21 #[pt b, .int .i64 x] w fun e w' => e = .returned (.bool (decide (x ∈ waitr G))) ∧ Sat k w' (PoolR b P last A B L G N M K * R) := by
  obtain ⟨mG, vN, mC, mK, hs⟩ := pool_open h
  have c5 : w.cell? ⟨b, 5, none⟩ = some (.map (some mG)) := hs.cell 5
  clear h
  go_enter Try.func21, Try.ntmps21
  go_wp2_with (at_range; refine wpList_range_sat rfl (.tmp 10) rfl mapG rfl (kv := Value.string) (l := gents B G) hs.swap ?_; intro gm w1 h1)
  go_frame
  clear c5 hs
  go_loopg [6] G.length (fun gk _ wr => ∃ lf : List Gp, gk = lf.length ∧ (∀ g ∈ lf, g ∈ G) ∧ Hid (∀ g ∈ G, g ∈ lf ∨ x ∉ g.sp.map (·.1)) ∧ Sat k wr (RangeK Value.string mG gm (gents B G) (gents B lf) * (blk b (.cells (cellsP P last mG vN mC mK) 52 (0, 0)) * (Strs vN N * (MapK (Value.int .i64) mC (ments A M) * (MapK (Value.int .i64) mK (ments A K) * (stars (groupR A B L P.que) G * R)))))))
  case atStart => exact ⟨G, rfl, fun g hg => hg, fun g hg => .inl hg, h1⟩
  case round =>
    clear h1
    obtain ⟨lf, rfl, hsub, HW, hr⟩ := hrel
    go_wp2_with (at_next; refine wpList_next_sat rfl (.tmp 11) rfl rfl hr ?_ ?_)
    · intro h0
      have hL : lf = [] := by cases lf with
        | nil => rfl
        | cons x r => simp [gents] at h0
      have HD : Hid (decide (x ∈ waitr G) = false) := by
        unfold Hid
        rw [decide_eq_false_iff_not]
        intro hx
        obtain ⟨g, hg, hm⟩ := List.mem_flatMap.1 hx
        rcases HW.out g hg with h2 | h2
        · rw [hL] at h2; cases h2
        · exact h2 hm
      clear h0 hL hsub
      go_wp2
      go_ret
      rw [HD.out]
      exact ⟨rfl, pool_close (range_map hr).swap rfl rfl rfl rfl⟩
    · intro j hj w1 h1 hen
      have hj' : j < lf.length := by simpa [gents] using hj
      rw [gents_at] at hen ⊢
      rw [gents_erase] at h1
      have hg : lf[j] ∈ G := hsub _ (List.getElem_mem hj')
      have HE : Hid (∀ y ∈ lf, y = lf[j] ∨ y ∈ lf.eraseIdx j) := by
        intro y hy
        have hp : (lf[j] :: lf.eraseIdx j).Perm lf := by
          have := perm_erase lf j hj'
          exact this
        have := hp.mem_iff.2 hy
        simpa using this
      have hsub2 : ∀ y ∈ lf.eraseIdx j, y ∈ G := fun y hy => hsub y (List.mem_of_mem_eraseIdx hy)
      have hlen : (lf.eraseIdx j).length < lf.length := by rw [List.length_eraseIdx_of_lt hj']; omega
      generalize lf[j] = g at *
      generalize lf.eraseIdx j = lf2 at *
      clear hr hsub hj hj'
      obtain ⟨p, q, hG⟩ := List.append_of_mem hg
      have hst : stars (groupR A B L P.que) G = groupR A B L P.que g * stars (groupR A B L P.que) (p ++ q) := by rw [hG, stars_mid]
      have HG := Lib.hid hG
      rw [hst] at h1
      simp only [star_assoc] at h1
      obtain ⟨a, cap, h2⟩ := group_open h1.get6
      have HS := Lib.hid hst
      clear hG hst h1
      have e1 : w1.cell? ⟨B g.name, 1, none⟩ = some (pt (L g.name)) := h2.cell 1
      go_wp2_with fail
      refine (place_any k _ _ (L g.name) g.sp P.que x h2.get3).mono ?_
      rintro e w3 ⟨rfl, h3⟩
      have h4 := group_close (nm := g.name) (cs := g.cs) (sp := g.sp) h3.put3 rfl rfl
      have h5 : Sat k w3 (RangeK Value.string mG gm (gents B G) (gents B lf2) * (blk b (.cells (cellsP P last mG vN mC mK) 52 (0, 0)) * (Strs vN N * (MapK (Value.int .i64) mC (ments A M) * (MapK (Value.int .i64) mK (ments A K) * (stars (groupR A B L P.que) G * R)))))) := by
        rw [HS.out]
        simp only [star_assoc]
        exact h4.put6
      clear h2 h3 h4 e1
      by_cases hm : x ∈ g.sp.map (·.1)
      · have hp : 0 ≤ plc x g.sp 0 := by
          rcases plc_range x g.sp 0 with h | h
          · exact absurd hm ((plc_none x g.sp 0).1 h)
          · omega
        have HD : Hid (decide (x ∈ waitr G) = true) := by
          unfold Hid
          rw [decide_eq_true_iff]
          exact List.mem_flatMap.2 ⟨g, hg, hm⟩
        generalize plc x g.sp 0 = pl at *
        clear hm
        go_wp2_with fail
        go_ret
        rw [HD.out]
        exact ⟨rfl, pool_close (range_map h5).swap rfl rfl rfl rfl⟩
      · have hp := (plc_none x g.sp 0).2 hm
        rw [hp]
        have HM := Lib.hid hm
        clear hp hm
        go_wp2_with fail
        go_roundg lf2.length
        case measure => exact hlen
        case rel =>
          refine ⟨lf2, rfl, hsub2, ?_, h5⟩
          intro y hy
          rcases HW.out y hy with h6 | h6
          · rcases HE.out y h6 with rfl | h7
            · exact .inr HM.out
            · exact .inl h7
          · exact .inr h6

end Go.Proofs.Yticponkpgaofnaa
