/- Contracts of Split: of package lexer and of the document's lexer. -/
import Derived.Test.YtkjhfpjjcagecaaL4H
import Derived.Test.YtkjhfpjjcagecaaMA
namespace Go.Proofs.Ytkjhfpjjcagecaa
set_option linter.all false
open Go Go.RowKit

theorem TTs : SliceT Try.prog 54 22 (.slice none 0 0) 1 24 := ⟨Try.underlying54, by kernel_rfl, rfl, by decide⟩
/-- Statements' tokens: each a slice of its own. -/
structure Sp where
  a : Option Addr
  c : Nat
  l : List Tok
def Sp.v (p : Sp) : Value := .slice p.a p.l.length p.c
def spR (p : Sp) : Assn := Toks p.v p.l
def SpV (v : Value) (P : List Sp) : Assn := Own 22 1 v P.length (P.map Sp.v) * stars spR P
theorem sp_one (P : List Sp) : ∀ u ∈ P.map Sp.v, u.oneCell' = true := by
  intro u hu
  obtain ⟨p, _, rfl⟩ := List.mem_map.1 hu
  rfl
abbrev pq (b : Nat) : Value := .pointer (some ⟨b, 0, none⟩)
theorem splitL_end (now : List Tok) (out : List (List Tok)) : splitL [] now out = if now = [] then out else out ++ [now] := rfl

set_option maxRecDepth 100000 in
set_option maxHeartbeats 4000000 in
theorem flush_any (k : Env) (w : World) (R : Assn) (bn bo : Nat) (va : Option Addr) (vc : Nat) (n : List Tok) (vo : Value) (P : List Sp) (hP : P.length ≤ 100000000)
    (h : Sat k w (blk bn (.cells #[.slice va n.length vc] 22 (0, 0)) * (blk bo (.cells #[vo] 54 (0, 0)) * (Toks (.slice va n.length vc) n * (SpV vo P * R))))) :
    Calls Try.prog 66 #[pq bn, pq bo] w fun e w' => ∃ vo' P', e = .returned (.tuple #[]) ∧ (P'.map Sp.l = if n = [] then P.map Sp.l else P.map Sp.l ++ [n]) ∧ P'.length ≤ P.length + 1 ∧ Sat k w' (blk bn (.cells #[.slice none 0 0] 22 (0, 0)) * (blk bo (.cells #[vo'] 54 (0, 0)) * (SpV vo' P' * R))) := by
  obtain ⟨oa, oc, rfl⟩ := own_val (h.get4.of_eq (by unfold SpV; simp only [star_assoc]) : Sat k w (Own 22 1 vo P.length (P.map Sp.v) * (stars spR P * (blk bn (.cells #[.slice va n.length vc] 22 (0, 0)) * (blk bo (.cells #[vo] 54 (0, 0)) * (Toks (.slice va n.length vc) n * R))))))
  have c0 : w.cell? ⟨bn, 0, none⟩ = some (.slice va n.length vc) := h.cell 0
  have c1 : w.cell? ⟨bo, 0, none⟩ = some (.slice oa P.length oc) := h.swap.cell 0
  have rf := h.frozen
  by_cases hn : n = []
  · subst hn
    have h2 := h.set 0 (.slice none 0 0)
    have hz : ¬ (0 : Int) < (0 : Nat) := by omega
    simp only [List.length_nil] at c0
    go_enter Try.func66, Try.ntmps66
    go_wp2_with fail
    go_end0
    exact ⟨rfl, _, P, rfl, Nat.le_succ _, (h2.get3.drop.of_eq rfl)⟩
  · have hn0 : (0 : Int) < n.length := by have := List.length_pos_iff.2 hn; omega
    have h2 : Sat k w (Own 22 1 (.slice oa P.length oc) P.length (P.map Sp.v) * (stars spR P * (blk bo (.cells #[.slice oa P.length oc] 54 (0, 0)) * (blk bn (.cells #[.slice va n.length vc] 22 (0, 0)) * (Toks (.slice va n.length vc) n * R))))) := h.of_eq (by unfold SpV; ac_rfl)
    clear h
    go_enter Try.func66, Try.ntmps66
    go_upto_region 2 with (at_builtin; refine wpList_append_sat TTs (h2.alloc' _) (.tmp 5) (.tmp 7) _ 1 1 [.slice va n.length vc] rfl rfl rfl rfl rfl (fun _ => ⟨_, rfl, new_cells_at _ _ _ _ (by first | rfl | simp)⟩) (fun u hu => by simp at hu; subst hu; rfl) (by simp [maxLen]; omega) (by omega) ?_; intro a7 c7 w7 h7; have rf1 := h7.get3.frozen; have rc1 : w7.cell? ⟨bo, 0, none⟩ = some (.slice oa P.length oc) := h7.get3.cell 0)
    have h8 := h7.get3.set 0 (.slice a7 (P.length + 1) c7)
    generalize w7.setCell ⟨bo, 0, none⟩ (.slice a7 (P.length + 1) c7) = w8 at *
    have rf2 := h8.get4.frozen
    have rc2 : w8.cell? ⟨bn, 0, none⟩ = some (.slice va n.length vc) := h8.get4.cell 0
    have h9 := h8.get4.set 0 (.slice none 0 0)
    clear rc1 rf1 c0 c1 rf h7
    go_wp2_with fail
    go_end0
    refine ⟨rfl, .slice a7 (P.length + 1) c7, P ++ [⟨va, vc, n⟩], by simp, by simp, h9.of_eq ?_⟩
    unfold SpV
    rw [stars_snoc, List.length_append, List.map_append]
    show (blk bn (.cells #[.slice none 0 0] 22 (0, 0)) * (blk bo (.cells #[.slice a7 (P.length + 1) c7] 54 (0, 0)) * (Own 22 1 (.slice a7 (P.length + 1) c7) (P.length + 1) (P.map Sp.v ++ [.slice va n.length vc]) * (stars spR P * (Toks (.slice va n.length vc) n * R))))) = blk bn (.cells #[.slice none 0 0] 22 (0, 0)) * (blk bo (.cells #[.slice a7 (P.length + 1) c7] 54 (0, 0)) * (Own 22 1 (.slice a7 (P.length + 1) c7) (P.length + 1) (P.map Sp.v ++ [.slice va n.length vc]) * (Toks (.slice va n.length vc) n * stars spR P) * R))
    ac_rfl

end Go.Proofs.Ytkjhfpjjcagecaa
