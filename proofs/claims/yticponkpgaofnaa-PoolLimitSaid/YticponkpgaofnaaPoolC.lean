/- Contracts of package pool: best, drop. -/
import Derived.Test.YticponkpgaofnaaPoolB
import Derived.Deep.QuietTactic
namespace Go.Proofs.Yticponkpgaofnaa
set_option linter.all false
open Go Go.RowKit

def bestStep (b : Option Cn) (c : Cn) : Option Cn := match b with
  | none => if c.cl = -1 then some c else none
  | some d => if c.cl = -1 ∧ d.since ≤ c.since then some c else some d
def bestC (cs : List Cn) : Option Cn := cs.foldl bestStep none
theorem bestC_mem {cs : List Cn} {o : Option Cn} {c : Cn} (h : cs.foldl bestStep o = some c) : (c ∈ cs ∧ c.cl = -1) ∨ o = some c := by
  induction cs generalizing o with
  | nil => exact .inr h
  | cons x r ih =>
    rcases ih h with ⟨h1, h2⟩ | h1
    · exact .inl ⟨by simp [h1], h2⟩
    · cases o with
      | none =>
        rw [bestStep] at h1
        split at h1
        · rename_i hx; cases h1; exact .inl ⟨by simp, hx⟩
        · cases h1
      | some d =>
        rw [bestStep] at h1
        split at h1
        · rename_i hx; cases h1; exact .inl ⟨by simp, hx.1⟩
        · exact .inr h1
theorem bestC_none {cs : List Cn} {o : Option Cn} (h : cs.foldl bestStep o = none) : o = none ∧ ∀ c ∈ cs, c.cl ≠ -1 := by
  induction cs generalizing o with
  | nil => exact ⟨h, by simp⟩
  | cons x r ih =>
    obtain ⟨h1, h2⟩ := ih h
    cases o with
    | none =>
      rw [bestStep] at h1
      split at h1
      · cases h1
      · rename_i hx; exact ⟨rfl, fun c hc => by rcases List.mem_cons.1 hc with rfl | hc; exact hx; exact h2 c hc⟩
    | some d => rw [bestStep] at h1; split at h1 <;> cases h1
def optP (A : Int → Nat) : Option Cn → Value
  | none => .pointer none
  | some c => pt (A c.num)

theorem conn_at {k : Env} {w : World} {A : Int → Nat} {gb : Nat} {l : List Cn} {R : Assn} {c : Cn} (h : Sat k w (stars (connR A gb) l * R)) (hc : c ∈ l) : A c.num < w.heap.size ∧ ∀ i, w.cell? ⟨A c.num, i, none⟩ = (cellsC gb c)[i]? := by
  obtain ⟨p, q, rfl⟩ := List.append_of_mem hc
  rw [stars_mid, star_assoc] at h
  unfold connR at h
  exact ⟨h.lt, fun i => h.cell i⟩
theorem conn_ne {k : Env} {w : World} {A : Int → Nat} {gb g : Nat} {l : List Cn} {R : Assn} {c : Cn} {o : Obj} (h : Sat k w (blk g o * (stars (connR A gb) l * R))) (hc : c ∈ l) : A c.num ≠ g := by
  obtain ⟨p, q, rfl⟩ := List.append_of_mem hc
  rw [stars_mid, star_assoc] at h
  unfold connR at h
  exact h.ne.symm
theorem ptr_get {k : Env} {w : World} {A : Int → Nat} {l : List Cn} {a : Option Addr} {n c : Nat} {R : Assn} (h : Sat k w (Own 56 1 (.slice a n c) n (cptr A l) * R)) (j : Nat) (hj : j < l.length) :
    ∃ g, a = some ⟨g, 0, none⟩ ∧ g < w.heap.size ∧ w.cell? ⟨g, j, none⟩ = some (pt (A l[j].num)) := by
  have hl := own_len h
  rw [cptr, List.length_map, Nat.mul_one] at hl
  obtain ⟨g, rfl, hg, hc, _⟩ := own_get h (by omega)
  exact ⟨g, rfl, hg, (hc _ (by omega)).trans (by simp [cptr, hj])⟩

set_option maxHeartbeats 2000000 in
theorem best_any (k : Env) (w : World) (R : Assn) (v0 : Value) (A : Int → Nat) (B L : ByteArray → Nat) (que : Int) (g : Gp) (h : Sat k w (groupR A B L que g * R)) :
    Calls Try.prog 24 #[v0, pt (B g.name)] w fun e w' => e = .returned (.tuple #[optP A (bestC g.cs), .bool false]) ∧ Sat k w' (groupR A B L que g * R) := by
  obtain ⟨a, cap, hs⟩ := group_open h
  have hcap := own_cap hs.swap
  unfold maxLen at hcap
  have d0 : w.cell? ⟨B g.name, 0, none⟩ = some (.slice a g.cs.length cap) := hs.cell 0
  clear h
  go_enter Try.func24, Try.ntmps24
  go_wp2_with fail
  go_loopw [6, 8, 14] (fun bv _ i wr => ∃ j : Nat, j ≤ g.cs.length ∧ i = .int .i64 j ∧ bv = optP A ((g.cs.take j).foldl bestStep none) ∧ Sat k wr (blk (B g.name) (.cells #[.slice a g.cs.length cap, pt (L g.name)] 62 (0, 0)) * (Own 56 1 (.slice a g.cs.length cap) g.cs.length (cptr A g.cs) * (LineR (L g.name) g.sp que * (stars (connR A (B g.name)) g.cs * R))))) (fun _ _ i _ => g.cs.length - (intOf i).toNat)
  case atStart => exact ⟨0, Nat.zero_le _, rfl, rfl, hs⟩
  case round =>
    clear hs d0
    obtain ⟨j, hj, rfl, rfl, hr⟩ := hrel
    by_cases hlt : j < g.cs.length
    · obtain ⟨ga, rfl, hga, e0⟩ := ptr_get hr.swap j hlt
      have hmem : g.cs[j] ∈ g.cs := List.getElem_mem hlt
      obtain ⟨_, hcell⟩ := conn_at hr.get4 hmem
      have e2 : wr.cell? ⟨A g.cs[j].num, 2, none⟩ = some (.int .i64 g.cs[j].cl) := hcell 2
      have e3 : wr.cell? ⟨A g.cs[j].num, 3, none⟩ = some (.int .i64 g.cs[j].since) := hcell 3
      clear hcell
      have HT : Hid ((g.cs.take (j + 1)).foldl bestStep none = bestStep ((g.cs.take j).foldl bestStep none) g.cs[j]) := by
        unfold Hid
        rw [List.take_succ_eq_append_getElem hlt, List.foldl_append]; rfl
      cases hb : (g.cs.take j).foldl bestStep none with
      | none =>
        rw [hb] at HT
        clear hb
        by_cases hi : g.cs[j].cl = -1
        · have hib : (g.cs[j].cl == -1) = true := by simpa using hi
          have HN : Hid (bestStep none g.cs[j] = some g.cs[j]) := by unfold Hid; rw [bestStep, if_pos hi]
          clear hi
          unfold optP
          go_wp2_with fail
          go_quiet (fail)
          go_wp2_with fail
          go_roundw
          case rel => exact ⟨j + 1, by omega, by go_num, by rw [HT.out, HN.out], hr.drewN _⟩
          case measure => simp [intOf]; omega
        · have hib : (g.cs[j].cl == -1) = false := by simpa using hi
          have HN : Hid (bestStep none g.cs[j] = none) := by unfold Hid; rw [bestStep, if_neg hi]
          clear hi
          unfold optP
          go_wp2_with fail
          go_quiet (fail)
          go_wp2_with fail
          go_roundw
          case rel => exact ⟨j + 1, by omega, by go_num, by rw [HT.out, HN.out], hr.drewN _⟩
          case measure => simp [intOf]; omega
      | some d =>
        have hd : d ∈ g.cs := by
          rcases bestC_mem hb with ⟨h1, _⟩ | h1
          · exact List.mem_of_mem_take h1
          · cases h1
        obtain ⟨_, hcd⟩ := conn_at hr.get4 hd
        have e4 : wr.cell? ⟨A d.num, 3, none⟩ = some (.int .i64 d.since) := hcd 3
        clear hcd
        rw [hb] at HT
        clear hb hd
        by_cases hi : g.cs[j].cl = -1
        · have hib : (g.cs[j].cl == -1) = true := by simpa using hi
          by_cases hs : d.since ≤ g.cs[j].since
          · have hsb : decide (d.since ≤ g.cs[j].since) = true := by simpa using hs
            have HN : Hid (bestStep (some d) g.cs[j] = some g.cs[j]) := by unfold Hid; rw [bestStep, if_pos ⟨hi, hs⟩]
            clear hi
            unfold optP
            go_wp2_with fail
            go_quiet (fail)
            go_wp2_with fail
            go_roundw
            case rel => exact ⟨j + 1, by omega, by go_num, by rw [HT.out, HN.out], hr.drewN _⟩
            case measure => simp [intOf]; omega
          · have hsb : decide (d.since ≤ g.cs[j].since) = false := by simpa using hs
            have HN : Hid (bestStep (some d) g.cs[j] = some d) := by unfold Hid; rw [bestStep, if_neg fun h => hs h.2]
            clear hi
            unfold optP
            go_wp2_with fail
            go_quiet (fail)
            go_wp2_with fail
            go_roundw
            case rel => exact ⟨j + 1, by omega, by go_num, by rw [HT.out, HN.out], hr.drewN _⟩
            case measure => simp [intOf]; omega
        · have hib : (g.cs[j].cl == -1) = false := by simpa using hi
          have HN : Hid (bestStep (some d) g.cs[j] = some d) := by unfold Hid; rw [bestStep, if_neg fun h => hi h.1]
          clear hi
          unfold optP
          go_wp2_with fail
          go_quiet (fail)
          go_wp2_with fail
          go_roundw
          case rel => exact ⟨j + 1, by omega, by go_num, by rw [HT.out, HN.out], hr.drewN _⟩
          case measure => simp [intOf]; omega
    · obtain rfl : j = g.cs.length := by omega
      rw [List.take_length]
      go_wp2_with fail
      go_ret2
      exact ⟨rfl, group_close hr rfl rfl⟩

end Go.Proofs.Yticponkpgaofnaa
