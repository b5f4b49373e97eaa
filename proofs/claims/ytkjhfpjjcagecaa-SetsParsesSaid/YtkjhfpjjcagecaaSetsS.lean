/- The law SetsParses: its walk. -/
import Derived.Test.YtkjhfpjjcagecaaSetsV
namespace Go.Proofs.Ytkjhfpjjcagecaa
set_option linter.all false
open Go Go.RowKit

set_option maxRecDepth 100000 in
set_option maxHeartbeats 4000000 in
theorem walkSetsParses (W : World) (s : ByteArray) (_w : s.size ≤ 140737488351232) (a : Option Addr) (len cap : Nat) (xs : List (List Value)) (z : IsRecs W a len cap 1 okStr xs) (b : Option Addr) (len2 cap2 : Nat) (ys : List (List Value)) (z2 : IsRecs W b len2 cap2 1 okStr ys) :
    Calls Try.prog 4 #[.string s, .slice a len cap, .slice b len2 cap2] W fun e w' => e = .returned (.bool true) ∧ Below W.heap.size W w' := by
  obtain ⟨la, rfl, _, ha⟩ := strs_in z
  obtain ⟨lb, rfl, _, hb⟩ := strs_in z2
  have RA := rd_in ha (World.env W)
  have RB := rd_in hb (World.env W)
  clear z z2 ha hb
  have h := Sat.whole W
  have K := Lib.hid (fun w R h => known7_any (World.env W) w R h)
  by_cases c1 : 2100 < s.size
  · have c1' : (2100 : Int) < s.size := by omega
    go_enter Try.func4, Try.ntmps4
    go_wp2_with (go_at_call 9; (refine (K.out _ _ h).mono ?_); rintro e w1 ⟨rfl, h1⟩)
    go_ret
    exact ⟨rfl, h1.below⟩
  have c1' : ¬ (2100 : Int) < s.size := by omega
  by_cases c2 : 60 < la.length
  · have c2' : (60 : Int) < la.length := by omega
    go_enter Try.func4, Try.ntmps4
    go_wp2_with (go_at_call 9; (refine (K.out _ _ h).mono ?_); rintro e w1 ⟨rfl, h1⟩)
    go_ret
    exact ⟨rfl, h1.below⟩
  have c2' : ¬ (60 : Int) < la.length := by omega
  by_cases c3 : 60 < lb.length
  · have c3' : (60 : Int) < lb.length := by omega
    go_enter Try.func4, Try.ntmps4
    go_wp2_with (go_at_call 9; (refine (K.out _ _ h).mono ?_); rintro e w1 ⟨rfl, h1⟩)
    go_ret
    exact ⟨rfl, h1.below⟩
  have c3' : ¬ (60 : Int) < lb.length := by omega
  have D := fun w R h => sparse_any (World.env W) w R s (by omega) h
  have D' := fun w R h => rparse_any (World.env W) w R s (by omega) h
  have fw := few_par s
  generalize parS s = res at *
  obtain ⟨⟨cl, rs, ws, nm⟩, er⟩ := res
  have fw1 : rs.length ≤ 500000000 := fw.1
  have fw2 : ws.length ≤ 500000000 := fw.2
  have D1 : Hid (∀ w R, Sat (World.env W) w R → Calls Try.prog 19 #[.string s] w fun e w' => ∃ v, e = .returned (.tuple #[v, .int .i64 er]) ∧ Sat (World.env W) w' (StV v cl rs ws nm * R)) := D
  have D2 : Hid (∀ w R, Sat (World.env W) w R → Calls Try.prog 20 #[.string s] w fun e w' => ∃ v, e = .returned (.tuple #[v, .int .i64 er]) ∧ Sat (World.env W) w' (StV v cl rs ws nm * R)) := D'
  clear D D' fw
  go_enter Try.func4, Try.ntmps4
  go_upto_region 4 with (go_at_call 19; (refine (D1.out _ _ h).mono ?_); rintro e w1 ⟨v, rfl, h1⟩; obtain ⟨a1, i1, b1, j1, rfl, h2⟩ := stv_open h1)
  have h3 := h2.alloc (.cells #[.int .i64 cl, .slice a1 rs.length i1, .slice b1 ws.length j1, .string nm] 30)
  generalize (w1.alloc (.cells #[.int .i64 cl, .slice a1 rs.length i1, .slice b1 ws.length j1, .string nm] 30)) = w2 at *
  generalize w1.heap.size = o1 at *
  clear h1 h2 D1
  go_upto_region 5 with (go_at_call 20; (refine (D2.out _ _ h3).mono ?_); rintro e w3 ⟨v, rfl, h4⟩; obtain ⟨a2, i2, b2, j2, rfl, h5⟩ := stv_open h4)
  have h6 := h5.alloc (.cells #[.int .i64 cl, .slice a2 rs.length i2, .slice b2 ws.length j2, .string nm] 30)
  generalize (w3.alloc (.cells #[.int .i64 cl, .slice a2 rs.length i2, .slice b2 ws.length j2, .string nm] 30)) = w4 at *
  generalize w3.heap.size = o2 at *
  clear h3 h4 h5 D2 h
  obtain ⟨B, hB, h7⟩ : ∃ B, B = _ ∧ Sat (World.env W) w4 B := ⟨_, rfl, h6⟩
  have d0 : w4.cell? ⟨o1, 0, none⟩ = some (.int .i64 cl) := h6.get4.cell 0
  have d1 : w4.cell? ⟨o1, 1, none⟩ = some (.slice a1 rs.length i1) := h6.get4.cell 1
  have d2 : w4.cell? ⟨o1, 2, none⟩ = some (.slice b1 ws.length j1) := h6.get4.cell 2
  have d3 : w4.cell? ⟨o1, 3, none⟩ = some (.string nm) := h6.get4.cell 3
  have e0 : w4.cell? ⟨o2, 0, none⟩ = some (.int .i64 cl) := h6.cell 0
  have e1 : w4.cell? ⟨o2, 1, none⟩ = some (.slice a2 rs.length i2) := h6.cell 1
  have e2 : w4.cell? ⟨o2, 2, none⟩ = some (.slice b2 ws.length j2) := h6.cell 2
  have e3 : w4.cell? ⟨o2, 3, none⟩ = some (.string nm) := h6.cell 3
  have A2 : Rd (World.env W) B a2 rs := by rw [hB]; exact (rd_own h6.swap).mono fun _ q => q.swap
  have B2 : Rd (World.env W) B b2 ws := by rw [hB]; exact (rd_own h6.get3).mono fun _ q => q.get3
  have A1 : Rd (World.env W) B a1 rs := by rw [hB]; exact (rd_own h6.get5).mono fun _ q => q.get5
  have B1 : Rd (World.env W) B b1 ws := by rw [hB]; exact (rd_own h6.get6).mono fun _ q => q.get6
  have HW : Hid (∀ w', Sat (World.env W) w' B → Sat (World.env W) w' (whole W)) := by
    intro w' q
    rw [hB] at q
    exact q.drop.drop.drop.drop.drop.drop
  have RA2 : Rd (World.env W) B a la := RA.mono HW.out
  have RB2 : Rd (World.env W) B b lb := RB.mono HW.out
  have T := Lib.hid (fun w h => rsame7_any (World.env W) w B cl a1 b1 a2 b2 i1 j1 i2 j2 rs ws nm A1 B1 A2 B2 (by omega) (by omega) h)
  have M1 := fun w h => smeets_any (World.env W) w B a cap la b cap2 lb RA2 RB2 (by omega) (by omega) h
  have M2 := fun w h => rmeets7_any (World.env W) w B a cap la b cap2 lb RA2 RB2 (by omega) (by omega) h
  have M3 := fun w h => smeets_any (World.env W) w B b cap2 lb a cap la RB2 RA2 (by omega) (by omega) h
  rw [meetB_comm] at M3
  generalize meetB la lb = mb at *
  have N1 := Lib.hid M1
  have N2 := Lib.hid M2
  have N3 := Lib.hid M3
  have hmb : (mb == mb) = true := by cases mb <;> rfl
  have her : (er == er) = true := by simp
  clear h6 hB A1 A2 B1 B2 RA RB RA2 RB2 M1 M2 M3
  go_wp2_with (first
    | (go_at_call 15; (refine (T.out _ h7).mono ?_); rintro e x1 ⟨rfl, q1⟩)
    | (go_at_call 21; (first
      | ((with_reducible refine (N3.out _ q4).mono ?_); rintro e x5 ⟨rfl, q5⟩)
      | ((with_reducible refine (N1.out _ q3).mono ?_); rintro e x4 ⟨rfl, q4⟩)
      | ((with_reducible refine (N1.out _ q1).mono ?_); rintro e x2 ⟨rfl, q2⟩)))
    | (go_at_call 22; (with_reducible refine (N2.out _ q2).mono ?_); rintro e x3 ⟨rfl, q3⟩)
    | (go_at_call 9; (refine (K.out _ _ q5).mono ?_); rintro e x6 ⟨rfl, q6⟩))
  go_ret
  exact ⟨rfl, (HW.out _ q6).below⟩

end Go.Proofs.Ytkjhfpjjcagecaa
