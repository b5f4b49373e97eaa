/- The law SetsQuoted: its walk. Printed by gen_setsq.py. -/
import Derived.Test.YtkjhfpjjcagecaaSetsP
import Derived.Below
import Derived.KernelRfl
namespace Go.Proofs.Ytkjhfpjjcagecaa
set_option linter.all false
open Go Go.RowKit

/-- A slice literal of tokens. -/
theorem toks_lit {k : Env} {w : World} {R : Assn} (l : List Tok) (hl : l.length ≤ 1000) (h : Sat k w R) (g : Nat) (hg : w.heap.size = g) :
    Sat k (w.alloc (.cells (ETok.recs l).toArray 40)) (Toks (.slice (some ⟨g, 0, none⟩) l.length l.length) l * R) := by
  subst hg
  have e : (ETok.recs l).length = l.length * 3 := by rw [ETok.recs_len]; rfl
  have e2 : l.length * ETok.n = l.length * 3 := rfl
  exact own_mk (h.alloc _) (Nat.le_refl _) (by unfold maxLen; omega) (by rw [List.size_toArray, e, e2]; exact Nat.le_refl _) (by rw [e, e2]) (List.take_of_length_le (by rw [List.toList_toArray, e, e2]; exact Nat.le_refl _))
theorem reads_lit (k : Env) (w : World) (R : Assn) (l : List Tok) (hl : l.length ≤ 1000) (hT : ∀ x ∈ l, x.t.size ≤ 1000000) (h : Sat k w R) (g : Nat) (hg : w.heap.size = g) :
    Calls Try.prog 11 #[.slice (some ⟨g, 0, none⟩) l.length l.length] (w.alloc (.cells (ETok.recs l).toArray 40)) fun e w' => ∃ v c, e = .returned (.slice v (readsL l).length c) ∧ Sat k w' (Strs (.slice v (readsL l).length c) (readsL l) * R) := by
  have h1 := toks_lit l hl h g hg
  refine (reads_any k _ _ _ _ l (rdt_own h1) (by omega) hT h1).mono ?_
  rintro e w1 ⟨v, c, rfl, h2⟩
  exact ⟨v, c, rfl, h2.swap.drop⟩
theorem writes_lit (k : Env) (w : World) (R : Assn) (l : List Tok) (hl : l.length ≤ 1000) (hT : ∀ x ∈ l, x.t.size ≤ 1000000) (h : Sat k w R) (g : Nat) (hg : w.heap.size = g) :
    Calls Try.prog 13 #[.slice (some ⟨g, 0, none⟩) l.length l.length] (w.alloc (.cells (ETok.recs l).toArray 40)) fun e w' => ∃ v c, e = .returned (.slice v (writesS l).length c) ∧ Sat k w' (Strs (.slice v (writesS l).length c) (writesS l) * R) := by
  have h1 := toks_lit l hl h g hg
  refine (swrites_any k _ _ _ _ l (rdt_own h1) (by omega) hT h1).mono ?_
  rintro e w1 ⟨v, c, rfl, h2⟩
  exact ⟨v, c, rfl, h2.swap.drop⟩
theorem quoA (s : ByteArray) : readsL [⟨1, ⟨#[102, 114, 111, 109]⟩, 0⟩, ⟨2, s, 0⟩] = [s] := by kernel_rfl
theorem quoB (s : ByteArray) : writesS [⟨1, ⟨#[105, 110, 116, 111]⟩, 0⟩, ⟨2, s, 0⟩] = [s] := by kernel_rfl
theorem quoC (s : ByteArray) : writesS [⟨1, ⟨#[100, 101, 108, 101, 116, 101]⟩, 0⟩, ⟨1, ⟨#[102, 114, 111, 109]⟩, 0⟩, ⟨2, s, 0⟩] = [s] := by kernel_rfl
theorem quoD (s : ByteArray) : readsL [⟨1, ⟨#[100, 101, 108, 101, 116, 101]⟩, 0⟩, ⟨1, ⟨#[102, 114, 111, 109]⟩, 0⟩, ⟨2, s, 0⟩] = [] := by kernel_rfl
theorem szA (s : ByteArray) (hs : s.size ≤ 300) : ∀ x ∈ ([⟨1, ⟨#[102, 114, 111, 109]⟩, 0⟩, ⟨2, s, 0⟩] : List Tok), x.t.size ≤ 1000000 := by
  intro x hx
  simp only [List.mem_cons, List.not_mem_nil, or_false] at hx
  rcases hx with rfl | rfl
  · decide
  · show s.size ≤ _; omega
theorem szB (s : ByteArray) (hs : s.size ≤ 300) : ∀ x ∈ ([⟨1, ⟨#[105, 110, 116, 111]⟩, 0⟩, ⟨2, s, 0⟩] : List Tok), x.t.size ≤ 1000000 := by
  intro x hx
  simp only [List.mem_cons, List.not_mem_nil, or_false] at hx
  rcases hx with rfl | rfl
  · decide
  · show s.size ≤ _; omega
theorem szC (s : ByteArray) (hs : s.size ≤ 300) : ∀ x ∈ ([⟨1, ⟨#[100, 101, 108, 101, 116, 101]⟩, 0⟩, ⟨1, ⟨#[102, 114, 111, 109]⟩, 0⟩, ⟨2, s, 0⟩] : List Tok), x.t.size ≤ 1000000 := by
  intro x hx
  simp only [List.mem_cons, List.not_mem_nil, or_false] at hx
  rcases hx with rfl | rfl | rfl
  · decide
  · decide
  · show s.size ≤ _; omega

set_option maxRecDepth 100000 in
set_option maxHeartbeats 4000000 in
theorem walkSetsQuoted (W : World) (s : ByteArray) (_w : s.size ≤ 140737488351232) :
    Calls Try.prog 7 #[.string s] W fun e w' => e = .returned (.bool true) ∧ Below W.heap.size W w' := by
  have h := Sat.whole W
  have K := Lib.hid (fun w R h => known7_any (World.env W) w R h)
  by_cases hbig : 300 < s.size
  · have hbig' : (300 : Int) < s.size := by omega
    go_enter Try.func7, Try.ntmps7
    go_wp2_with (go_at_call 9; (refine (K.out _ _ h).mono ?_); rintro e w1 ⟨rfl, h1⟩)
    go_ret
    exact ⟨rfl, h1.below⟩
  · have hbig' : ¬ (300 : Int) < s.size := by omega
    have hsz : s.size ≤ 300 := by omega
    have h0 := h.alloc (.cells #[.int .i64 2, .string s, .int .i64 0] 40)
    have C1 := reads_lit (World.env W) _ _ [⟨1, ⟨#[102, 114, 111, 109]⟩, 0⟩, ⟨2, s, 0⟩] (by simp) (szA s hsz) h0 (W.heap.size + 1) (by simp)
    rw [quoA] at C1
    have D1 := Lib.hid C1
    have D2 := Lib.hid (fun w R h => quoB s ▸ writes_lit (World.env W) w R [⟨1, ⟨#[105, 110, 116, 111]⟩, 0⟩, ⟨2, s, 0⟩] (by simp) (szB s hsz) h _ rfl)
    have D3 := Lib.hid (fun w R h => toks_lit (k := World.env W) (w := w) (R := R) [⟨1, ⟨#[100, 101, 108, 101, 116, 101]⟩, 0⟩, ⟨1, ⟨#[102, 114, 111, 109]⟩, 0⟩, ⟨2, s, 0⟩] (by simp) h _ rfl)
    clear C1 hbig
    go_enter Try.func7, Try.ntmps7
    go_upto_region 5 with (go_at_call 11; (refine (D1.out).mono ?_); rintro e w1 ⟨va, ca, rfl, h1⟩; have c0 : w1.cell? ⟨W.heap.size, 0, none⟩ = some (.int .i64 2) := h1.swap.cell 0; have c1 : w1.cell? ⟨W.heap.size, 1, none⟩ = some (.string s) := h1.swap.cell 1; have c2 : w1.cell? ⟨W.heap.size, 2, none⟩ = some (.int .i64 0) := h1.swap.cell 2)
    clear h h0 D1
    generalize W.heap.size = o at *
    go_upto_region 6 with (go_at_call 13; (refine (D2.out _ _ h1).mono ?_); rintro e w2 ⟨vb, cb, rfl, h2⟩; have e0 : w2.cell? ⟨o, 0, none⟩ = some (.int .i64 2) := h2.get3.cell 0; have e1 : w2.cell? ⟨o, 1, none⟩ = some (.string s) := h2.get3.cell 1; have e2 : w2.cell? ⟨o, 2, none⟩ = some (.int .i64 0) := h2.get3.cell 2)
    clear h1 c0 c1 c2 D2
    have h3 : Sat (World.env W) (w2.alloc (.cells #[.int .i64 1, .string ⟨#[100, 101, 108, 101, 116, 101]⟩, .int .i64 0, .int .i64 1, .string ⟨#[102, 114, 111, 109]⟩, .int .i64 0, .int .i64 2, .string s, .int .i64 0] 40)) (Toks (.slice (some ⟨w2.heap.size, 0, none⟩) 3 3) [⟨1, ⟨#[100, 101, 108, 101, 116, 101]⟩, 0⟩, ⟨1, ⟨#[102, 114, 111, 109]⟩, 0⟩, ⟨2, s, 0⟩] * (Strs (.slice vb 1 cb) [s] * (Strs (.slice va 1 ca) [s] * (blk o (.cells #[.int .i64 2, .string s, .int .i64 0] 40) * whole W)))) := D3.out _ _ h2
    go_upto_region 7 with fail
    generalize (w2.alloc (.cells #[.int .i64 1, .string ⟨#[100, 101, 108, 101, 116, 101]⟩, .int .i64 0, .int .i64 1, .string ⟨#[102, 114, 111, 109]⟩, .int .i64 0, .int .i64 2, .string s, .int .i64 0] 40)) = w3 at *
    generalize w2.heap.size = oc at *
    clear h2 e0 e1 e2 D3
    obtain ⟨B, hB, h4⟩ : ∃ B, B = _ ∧ Sat (World.env W) w3 B := ⟨_, rfl, h3⟩
    have RC : RdT (World.env W) B (some ⟨oc, 0, none⟩) [⟨1, ⟨#[100, 101, 108, 101, 116, 101]⟩, 0⟩, ⟨1, ⟨#[102, 114, 111, 109]⟩, 0⟩, ⟨2, s, 0⟩] := by rw [hB]; exact rdt_own h3
    have RB : Rd (World.env W) B vb [s] := by rw [hB]; exact (rd_own h3.swap).mono fun _ q => q.swap
    have RA : Rd (World.env W) B va [s] := by rw [hB]; exact (rd_own h3.get3).mono fun _ q => q.get3
    have HW : Hid (∀ w', Sat (World.env W) w' B → Sat (World.env W) w' (whole W)) := by
      intro w' q
      rw [hB] at q
      exact q.drop.drop.drop.drop
    have T1 := Lib.hid (fun w h => texts_lit (World.env W) w B va ca [s] RA (by simp) h)
    have T2 := Lib.hid (fun w h => rtexts_any (World.env W) w B vb cb va ca [s] RB RA (by simp) h)
    have C3 := fun w h => swrites_any (World.env W) w B (some ⟨oc, 0, none⟩) 3 [⟨1, ⟨#[100, 101, 108, 101, 116, 101]⟩, 0⟩, ⟨1, ⟨#[102, 114, 111, 109]⟩, 0⟩, ⟨2, s, 0⟩] RC (by simp) (szC s hsz) h
    have C4 := fun w h => reads_any (World.env W) w B (some ⟨oc, 0, none⟩) 3 [⟨1, ⟨#[100, 101, 108, 101, 116, 101]⟩, 0⟩, ⟨1, ⟨#[102, 114, 111, 109]⟩, 0⟩, ⟨2, s, 0⟩] RC (by simp) (szC s hsz) h
    rw [quoC] at C3
    rw [quoD] at C4
    have T3 := Lib.hid (fun w (v : Option Addr) (c : Nat) (h : Sat (World.env W) w (Strs (.slice v [s].length c) [s] * B)) => rtexts_any (World.env W) w _ v c va ca [s] (rd_own h) (RA.mono fun _ q => q.drop) (by simp) h)
    have D4 := Lib.hid C3
    have D5 := Lib.hid C4
    clear h3 hB RC RB RA C3 C4
    go_wp2_with (first
      | (go_at_call 10; (first
        | ((refine (T3.out _ _ _ q3).mono ?_); rintro e x4 ⟨rfl, q4⟩; replace q4 := q4.drop)
        | ((refine (T2.out _ q1).mono ?_); rintro e x2 ⟨rfl, q2⟩)
        | ((refine (T1.out _ h4).mono ?_); rintro e x1 ⟨rfl, q1⟩)))
      | (go_at_call 13; (refine (D4.out _ q2).mono ?_); rintro e x3 ⟨vw, cw, rfl, q3⟩)
      | (go_at_call 11; (refine (D5.out _ q4).mono ?_); rintro e x5 ⟨vr, cr, rfl, q5⟩; replace q5 := q5.drop)
      | (go_at_call 9; (refine (K.out _ _ q5).mono ?_); rintro e x6 ⟨rfl, q6⟩))
    go_ret
    exact ⟨rfl, (HW.out _ q6).below⟩

end Go.Proofs.Ytkjhfpjjcagecaa
