/- The law SetsNorm: its walk. -/
import Derived.Test.YtkjhfpjjcagecaaSetsP
import Derived.Test.YtkjhfpjjcagecaaSetsY
import Derived.Below
namespace Go.Proofs.Ytkjhfpjjcagecaa
set_option linter.all false
open Go Go.RowKit

set_option maxRecDepth 100000 in
set_option maxHeartbeats 4000000 in
theorem walkSetsNorm (W : World) (s : ByteArray) (_w : s.size ≤ 140737488351232) :
    Calls Try.prog 6 #[.string s] W fun e w' => e = .returned (.bool true) ∧ Below W.heap.size W w' := by
  have h := Sat.whole W
  have K := Lib.hid (fun w R h => known7_any (World.env W) w R h)
  by_cases hbig : 900 < s.size
  · have hbig' : (900 : Int) < s.size := by omega
    go_enter Try.func6, Try.ntmps6
    go_wp2_with (go_at_call 9; (refine (K.out _ _ h).mono ?_); rintro e w1 ⟨rfl, h1⟩)
    go_ret
    exact ⟨rfl, h1.below⟩
  · have hbig' : ¬ (900 : Int) < s.size := by omega
    have D := sparse_any (World.env W) W _ s (by omega) h
    have hno := par_norm s
    have hpa := par_around s ((⟨#[32, 59, 32]⟩ ++ s) ++ ⟨#[10, 32, 59, 32]⟩)
    have fw := few_par s
    obtain ⟨res, hres⟩ : ∃ res, parS s = res := ⟨_, rfl⟩
    rw [hres] at D hno hpa fw
    obtain ⟨⟨cl, rs, ws, nm⟩, er⟩ := res
    have fw1 : rs.length ≤ 500000000 := fw.1
    have fw2 : ws.length ≤ 500000000 := fw.2
    have D1 : Hid (Calls Try.prog 19 #[.string s] W fun e w' => ∃ v, e = .returned (.tuple #[v, .int .i64 er]) ∧ Sat (World.env W) w' (StV v cl rs ws nm * whole W)) := D
    clear D fw hres
    go_enter Try.func6, Try.ntmps6
    go_upto_region 4 with (go_at_call 19; (refine (D1.out).mono ?_); rintro e w1 ⟨v, rfl, h1⟩; obtain ⟨a1, i1, b1, j1, rfl, h2⟩ := stv_open h1)
    have h3 := h2.alloc (.cells #[.int .i64 cl, .slice a1 rs.length i1, .slice b1 ws.length j1, .string nm] 30)
    generalize (w1.alloc (.cells #[.int .i64 cl, .slice a1 rs.length i1, .slice b1 ws.length j1, .string nm] 30)) = w2 at *
    generalize w1.heap.size = o1 at *
    clear h1 h2 D1 h
    by_cases he : er = 0
    · subst he
      have d3 : w2.cell? ⟨o1, 3, none⟩ = some (.string nm) := h3.cell 3
      by_cases hn : 2000 < nm.size
      · have hn' : (2000 : Int) < nm.size := by omega
        clear hno hpa
        go_wp2_with (go_at_call 9; (refine (K.out _ _ h3).mono ?_); rintro e w3 ⟨rfl, h4⟩)
        go_ret
        exact ⟨rfl, h4.drop.drop.drop.below⟩
      · have hn' : ¬ (2000 : Int) < nm.size := by omega
        have hp2 : parS nm = (⟨cl, rs, ws, nm⟩, 0) := hno rfl (by show nm.size ≤ 2000; omega)
        have hp3 := hpa rfl (by omega) (by simp [bl])
        have hs1 : ((⟨#[32, 59, 32]⟩ : ByteArray) ++ s).size = 3 + s.size := by rw [ByteArray.size_append]; rfl
        have hcap1 : ¬ (((⟨#[32, 59, 32]⟩ : ByteArray).size + s.size : Nat) : Int) > IntKind.i64.max := by
          have : (⟨#[32, 59, 32]⟩ : ByteArray).size = 3 := rfl
          rw [this]; simp [IntKind.i64]; omega
        have hcap2 : ¬ ((((⟨#[32, 59, 32]⟩ : ByteArray) ++ s).size + (⟨#[10, 32, 59, 32]⟩ : ByteArray).size : Nat) : Int) > IntKind.i64.max := by
          have : (⟨#[10, 32, 59, 32]⟩ : ByteArray).size = 4 := rfl
          rw [this, hs1]; simp [IntKind.i64]; omega
        have D2 := Lib.hid (fun w R h => sparse_of hp2 (World.env W) w R (by omega) h)
        have D3 := Lib.hid (fun w R h => sparse_of hp3 (World.env W) w R (by rw [ByteArray.size_append, hs1]; have : (⟨#[10, 32, 59, 32]⟩ : ByteArray).size = 4 := rfl; omega) h)
        clear hno hpa hp2 hp3 hs1
        go_upto_region 7 with (go_at_call 19; (refine (D2.out _ _ h3).mono ?_); rintro e w3 ⟨a2, i2, b2, j2, rfl, h4⟩)
        have h5 := h4.alloc (.cells #[.int .i64 cl, .slice a2 rs.length i2, .slice b2 ws.length j2, .string nm] 30)
        generalize (w3.alloc (.cells #[.int .i64 cl, .slice a2 rs.length i2, .slice b2 ws.length j2, .string nm] 30)) = w4 at *
        generalize w3.heap.size = o2 at *
        clear h3 h4 D2 d3
        go_upto_region 8 with (go_at_call 19; (refine (D3.out _ _ h5).mono ?_); rintro e w5 ⟨a3, i3, b3, j3, rfl, h6⟩)
        have h7 := h6.alloc (.cells #[.int .i64 cl, .slice a3 rs.length i3, .slice b3 ws.length j3, .string nm] 30)
        generalize (w5.alloc (.cells #[.int .i64 cl, .slice a3 rs.length i3, .slice b3 ws.length j3, .string nm] 30)) = w6 at *
        generalize w5.heap.size = o3 at *
        clear h5 h6 D3 hcap1 hcap2
        obtain ⟨B, hB, h8⟩ : ∃ B, B = _ ∧ Sat (World.env W) w6 B := ⟨_, rfl, h7⟩
        have HC : Hid (∀ w', Sat (World.env W) w' B → (w'.cell? ⟨o1, 0, none⟩ = some (.int .i64 cl) ∧ w'.cell? ⟨o1, 1, none⟩ = some (.slice a1 rs.length i1) ∧ w'.cell? ⟨o1, 2, none⟩ = some (.slice b1 ws.length j1) ∧ w'.cell? ⟨o1, 3, none⟩ = some (.string nm)) ∧
            (w'.cell? ⟨o2, 0, none⟩ = some (.int .i64 cl) ∧ w'.cell? ⟨o2, 1, none⟩ = some (.slice a2 rs.length i2) ∧ w'.cell? ⟨o2, 2, none⟩ = some (.slice b2 ws.length j2) ∧ w'.cell? ⟨o2, 3, none⟩ = some (.string nm)) ∧
            (w'.cell? ⟨o3, 0, none⟩ = some (.int .i64 cl) ∧ w'.cell? ⟨o3, 1, none⟩ = some (.slice a3 rs.length i3) ∧ w'.cell? ⟨o3, 2, none⟩ = some (.slice b3 ws.length j3) ∧ w'.cell? ⟨o3, 3, none⟩ = some (.string nm))) := by
          intro w' q
          rw [hB] at q
          exact ⟨⟨q.get7.cell 0, q.get7.cell 1, q.get7.cell 2, q.get7.cell 3⟩, ⟨q.get4.cell 0, q.get4.cell 1, q.get4.cell 2, q.get4.cell 3⟩, ⟨q.cell 0, q.cell 1, q.cell 2, q.cell 3⟩⟩
        have A3 : Rd (World.env W) B a3 rs := by rw [hB]; exact (rd_own h7.swap).mono fun _ q => q.swap
        have B3 : Rd (World.env W) B b3 ws := by rw [hB]; exact (rd_own h7.get3).mono fun _ q => q.get3
        have A2 : Rd (World.env W) B a2 rs := by rw [hB]; exact (rd_own h7.get5).mono fun _ q => q.get5
        have B2 : Rd (World.env W) B b2 ws := by rw [hB]; exact (rd_own h7.get6).mono fun _ q => q.get6
        have A1 : Rd (World.env W) B a1 rs := by rw [hB]; exact (rd_own h7.get8).mono fun _ q => q.get8
        have B1 : Rd (World.env W) B b1 ws := by rw [hB]; exact (rd_own h7.get9).mono fun _ q => q.get9
        have HW : Hid (∀ w', Sat (World.env W) w' B → Sat (World.env W) w' (whole W)) := by
          intro w' q
          rw [hB] at q
          exact q.drop.drop.drop.drop.drop.drop.drop.drop.drop
        have T1 := Lib.hid (fun w h => rsame7_any (World.env W) w B cl a1 b1 a2 b2 i1 j1 i2 j2 rs ws nm A1 B1 A2 B2 (by omega) (by omega) h)
        have T2 := Lib.hid (fun w h => rsame7_any (World.env W) w B cl a1 b1 a3 b3 i1 j1 i3 j3 rs ws nm A1 B1 A3 B3 (by omega) (by omega) h)
        obtain ⟨⟨c0, c1, c2, c3⟩, ⟨d0, d1, d2, d3⟩, _⟩ := HC.out _ h8
        clear h7 hB A1 A2 A3 B1 B2 B3
        go_wp2_with (first
          | (go_at_call 15; (first
            | ((refine (T2.out _ q1).mono ?_); rintro e x2 ⟨rfl, q2⟩)
            | ((refine (T1.out _ h8).mono ?_); rintro e x1 ⟨rfl, q1⟩; obtain ⟨⟨c0, c1, c2, c3⟩, _, ⟨e0, e1, e2, e3⟩⟩ := HC.out _ q1)))
          | (go_at_call 9; (refine (K.out _ _ q2).mono ?_); rintro e x3 ⟨rfl, q3⟩))
        go_ret
        exact ⟨rfl, (HW.out _ q3).below⟩
    · have he1 : (er == 0) = false := by simp [he]
      have he2 : (er != 0) = true := by rw [bne, he1]; rfl
      clear hno hpa he
      go_wp2_with (go_at_call 9; (refine (K.out _ _ h3).mono ?_); rintro e w3 ⟨rfl, h4⟩)
      go_ret
      exact ⟨rfl, h4.drop.drop.drop.below⟩

end Go.Proofs.Ytkjhfpjjcagecaa
