/- Contracts of pontoonlaw07: tokens, light, known. Printed by gen_setsp.py. -/
import Derived.Test.YtkjhfpjjcagecaaSetsO
namespace Go.Proofs.Ytkjhfpjjcagecaa
set_option linter.all false
open Go Go.RowKit

theorem tokens7_any (k : Env) (w : World) (R : Assn) (s : ByteArray) (hs : s.size ≤ 1000000000) (h : Sat k w R) :
    Calls Try.prog 24 #[.string s] w fun e w' => ∃ v, e = .returned v ∧ Sat k w' (Toks v (rL (scanB s)) * R) := by
  have D := Lib.hid (rscan_any k w R s hs h)
  go_enter Try.func24, Try.ntmps24
  go_wp2_with (go_at_call 39; (refine (D.out).mono ?_); rintro e w1 ⟨v, rfl, h1⟩)
  go_ret
  exact ⟨_, rfl, h1⟩

theorem par_eq {s : ByteArray} {cl : Int} {rs ws : List ByteArray} {nm : ByteArray} {e : Int} (h1 : (parS s).1.cl = cl) (h2 : (parS s).1.rs = rs) (h3 : (parS s).1.ws = ws) (h4 : (parS s).1.nm = nm) (h5 : (parS s).2 = e) : parS s = (⟨cl, rs, ws, nm⟩, e) := by
  subst h1 h2 h3 h4 h5; rfl
theorem sparse_of {s : ByteArray} {cl : Int} {rs ws : List ByteArray} {nm : ByteArray} {e : Int} (hp : parS s = (⟨cl, rs, ws, nm⟩, e)) (k : Env) (w : World) (R : Assn) (hs : s.size ≤ 1000000000) (h : Sat k w R) :
    Calls Try.prog 19 #[.string s] w fun o w' => ∃ a1 c1 a2 c2, o = .returned (.tuple #[.agg #[.int .i64 cl, .slice a1 rs.length c1, .slice a2 ws.length c2, .string nm], .int .i64 e]) ∧ Sat k w' (Strs (.slice a1 rs.length c1) rs * (Strs (.slice a2 ws.length c2) ws * R)) := by
  have D := sparse_any k w R s hs h
  rw [hp] at D
  refine D.mono ?_
  rintro o w1 ⟨v, rfl, h1⟩
  obtain ⟨a1, c1, a2, c2, rfl, h2⟩ := stv_open h1
  exact ⟨a1, c1, a2, c2, rfl, h2⟩
theorem pk1 : parS ⟨#[115, 101, 108, 101, 99, 116, 32, 42, 32, 102, 114, 111, 109, 32, 97, 44, 32, 98, 32, 120, 32, 106, 111, 105, 110, 32, 34, 67, 34, 32, 117, 115, 105, 110, 103, 32, 40, 107, 41, 59]⟩ = (⟨1, [⟨#[67]⟩, ⟨#[97]⟩, ⟨#[98]⟩], [], ⟨#[115, 101, 108, 101, 99, 116, 32, 42, 32, 102, 114, 111, 109, 32, 97, 32, 44, 32, 98, 32, 120, 32, 106, 111, 105, 110, 32, 34, 67, 34, 32, 117, 115, 105, 110, 103, 32, 40, 32, 107, 32, 41]⟩⟩, 0) :=
  par_eq (by decide +kernel) (by decide +kernel) (by decide +kernel) (by decide +kernel) (by decide +kernel)
theorem pk2 : parS ⟨#[105, 110, 115, 101, 114, 116, 32, 105, 110, 116, 111, 32, 115, 46, 116, 32, 115, 101, 108, 101, 99, 116, 32, 49, 32, 102, 114, 111, 109, 32, 117]⟩ = (⟨2, [⟨#[117]⟩], [⟨#[115, 46, 116]⟩], ⟨#[105, 110, 115, 101, 114, 116, 32, 105, 110, 116, 111, 32, 115, 32, 46, 32, 116, 32, 115, 101, 108, 101, 99, 116, 32, 49, 32, 102, 114, 111, 109, 32, 117]⟩⟩, 0) :=
  par_eq (by decide +kernel) (by decide +kernel) (by decide +kernel) (by decide +kernel) (by decide +kernel)
theorem pk3 : parS ⟨#[115, 101, 108, 101, 99, 116, 32, 49, 59, 32, 115, 101, 108, 101, 99, 116, 32, 50]⟩ = (⟨0, [], [], ⟨#[]⟩⟩, 4) :=
  par_eq (by decide +kernel) (by decide +kernel) (by decide +kernel) (by decide +kernel) (by decide +kernel)
theorem pk4 : parS ⟨#[39]⟩ = (⟨0, [], [], ⟨#[]⟩⟩, 6) :=
  par_eq (by decide +kernel) (by decide +kernel) (by decide +kernel) (by decide +kernel) (by decide +kernel)
theorem pk5 : parS ⟨#[98, 101, 103, 105, 110]⟩ = (⟨3, [], [], ⟨#[98, 101, 103, 105, 110]⟩⟩, 0) :=
  par_eq (by decide +kernel) (by decide +kernel) (by decide +kernel) (by decide +kernel) (by decide +kernel)
theorem pk6 : rL (scanB ⟨#[100, 101, 108, 101, 116, 101, 32, 102, 114, 111, 109, 32, 120]⟩) = [⟨1, ⟨#[100, 101, 108, 101, 116, 101]⟩, 0⟩, ⟨1, ⟨#[102, 114, 111, 109]⟩, 7⟩, ⟨1, ⟨#[120]⟩, 12⟩] := by
  have h : scanB ⟨#[100, 101, 108, 101, 116, 101, 32, 102, 114, 111, 109, 32, 120]⟩ = .ok [⟨1, ⟨#[100, 101, 108, 101, 116, 101]⟩, 0⟩, ⟨1, ⟨#[102, 114, 111, 109]⟩, 7⟩, ⟨1, ⟨#[120]⟩, 12⟩] := by rfl
  rw [h]; rfl
abbrev tkD : List Tok := [⟨1, ⟨#[100, 101, 108, 101, 116, 101]⟩, 0⟩, ⟨1, ⟨#[102, 114, 111, 109]⟩, 7⟩, ⟨1, ⟨#[120]⟩, 12⟩]
theorem pk7 : readsL tkD = [] := by decide +kernel
theorem pk8 : writesS tkD = [⟨#[120]⟩] := by decide +kernel

/-- Texts against a literal. -/
theorem texts_lit (k : Env) (w : World) (B : Assn) (a : Option Addr) (c : Nat) (X : List ByteArray) (ha : Rd k B a X) (hn : X.length ≤ 1000) (h : Sat k w B) :
    Calls Try.prog 10 #[.slice a X.length c, .slice (some ⟨w.heap.size, 0, none⟩) X.length X.length] (w.alloc (.cells (strs X).toArray 9)) fun e w' => e = .returned (.bool true) ∧ Sat k w' B := by
  have h1 := strs_lit X (by unfold maxLen; omega) h _ rfl
  refine (rtexts_any k _ _ a c _ _ X (ha.mono fun _ q => q.drop) (rd_own h1) (by omega) h1).mono ?_
  rintro e w1 ⟨rfl, h2⟩
  exact ⟨rfl, h2.drop⟩
theorem same_lit (k : Env) (w : World) (B : Assn) (cl : Int) (a d : Option Addr) (c e : Nat) (X : List ByteArray) (nm : ByteArray) (ha : Rd k B a X) (hn : X.length ≤ 1000) (h : Sat k w B) :
    Calls Try.prog 15 #[.agg #[.int .i64 cl, .slice a X.length c, .slice d 0 e, .string nm], .agg #[.int .i64 cl, .slice (some ⟨w.heap.size, 0, none⟩) X.length X.length, .slice none 0 0, .string nm]] (w.alloc (.cells (strs X).toArray 9)) fun e w' => e = .returned (.bool true) ∧ Sat k w' B := by
  have h1 := strs_lit X (by unfold maxLen; omega) h _ rfl
  refine (rsame7_any k _ _ cl a d _ none c e _ 0 X [] nm (ha.mono fun _ q => q.drop) (rd_nil _ _ _) (rd_own h1) (rd_nil _ _ _) (by omega) (by simp) h1).mono ?_
  rintro e w1 ⟨rfl, h2⟩
  exact ⟨rfl, h2.drop⟩
theorem meets_lit (k : Env) (w : World) (B : Assn) (X Y : List ByteArray) (hn : X.length ≤ 1000) (hm : Y.length ≤ 1000) (h : Sat k w B) :
    Calls Try.prog 21 #[.slice (some ⟨w.heap.size, 0, none⟩) X.length X.length, .slice (some ⟨w.heap.size + 1, 0, none⟩) Y.length Y.length] ((w.alloc (.cells (strs X).toArray 9)).alloc (.cells (strs Y).toArray 9)) fun e w' => e = .returned (.bool (meetB X Y)) ∧ Sat k w' B := by
  have h1 := strs_lit X (by unfold maxLen; omega) h _ rfl
  have h2 := strs_lit Y (by unfold maxLen; omega) h1 (w.heap.size + 1) (by simp)
  refine (smeets_any k _ _ _ _ X _ _ Y ((rd_own h2.swap).mono fun _ q => q.swap) (rd_own h2) (by omega) (by omega) h2).mono ?_
  rintro e w1 ⟨rfl, h3⟩
  exact ⟨rfl, h3.drop.drop⟩
theorem meets_no (k : Env) (w : World) (B : Assn) (Y : List ByteArray) (hm : Y.length ≤ 1000) (h : Sat k w B) :
    Calls Try.prog 21 #[.slice none 0 0, .slice (some ⟨w.heap.size, 0, none⟩) Y.length Y.length] (w.alloc (.cells (strs Y).toArray 9)) fun e w' => e = .returned (.bool false) ∧ Sat k w' B := by
  have h2 := strs_lit Y (by unfold maxLen; omega) h _ rfl
  refine (smeets_any k _ _ none 0 [] _ _ Y (rd_nil _ _ _) (rd_own h2) (by simp) (by omega) h2).mono ?_
  rintro e w1 ⟨rfl, h3⟩
  exact ⟨rfl, h3.drop⟩
theorem texts_no (k : Env) (w : World) (B : Assn) (a : Option Addr) (c : Nat) (h : Sat k w B) :
    Calls Try.prog 10 #[.slice a 0 c, .slice none 0 0] w fun e w' => e = .returned (.bool true) ∧ Sat k w' B :=
  rtexts_any k w B a c none 0 [] (rd_nil _ _ _) (rd_nil _ _ _) (by simp) h
theorem tok_d (k : Env) (w : World) (B : Assn) (h : Sat k w B) :
    Calls Try.prog 24 #[.string ⟨#[100, 101, 108, 101, 116, 101, 32, 102, 114, 111, 109, 32, 120]⟩] w fun e w' => ∃ a c, e = .returned (.slice a 3 c) ∧ Sat k w' (Toks (.slice a 3 c) tkD * B) := by
  have D := tokens7_any k w B ⟨#[100, 101, 108, 101, 116, 101, 32, 102, 114, 111, 109, 32, 120]⟩ (by decide) h
  rw [pk6] at D
  refine D.mono ?_
  rintro e w1 ⟨v, rfl, h1⟩
  obtain ⟨a, c, rfl⟩ := rec_val h1
  exact ⟨a, c, rfl, h1⟩
theorem tkD_size : ∀ x ∈ tkD, x.t.size ≤ 1000000 := by
  intro x hx
  simp only [List.mem_cons, List.not_mem_nil, or_false] at hx
  rcases hx with rfl | rfl | rfl <;> decide
theorem reads_d (k : Env) (w : World) (B : Assn) (a : Option Addr) (c : Nat) (h : Sat k w (Toks (.slice a 3 c) tkD * B)) :
    Calls Try.prog 11 #[.slice a 3 c] w fun e w' => ∃ v d, e = .returned (.slice v 0 d) ∧ Sat k w' B := by
  have D := reads_any k w _ a c tkD (rdt_own h) (by decide) tkD_size h
  rw [pk7] at D
  refine D.mono ?_
  rintro e w1 ⟨v, d, rfl, h1⟩
  exact ⟨v, d, rfl, h1.drop.drop⟩
theorem writes_d (k : Env) (w : World) (B : Assn) (a : Option Addr) (c : Nat) (h : Sat k w (Toks (.slice a 3 c) tkD * B)) :
    Calls Try.prog 13 #[.slice a 3 c] w fun e w' => ∃ v d, e = .returned (.slice v 1 d) ∧ Sat k w' (Strs (.slice v 1 d) [⟨#[120]⟩] * B) := by
  have D := swrites_any k w _ a c tkD (rdt_own h) (by decide) tkD_size h
  rw [pk8] at D
  refine D.mono ?_
  rintro e w1 ⟨v, d, rfl, h1⟩
  exact ⟨v, d, rfl, h1.swap.drop⟩

set_option maxRecDepth 100000 in
set_option maxHeartbeats 8000000 in
theorem known7_any (k : Env) (w : World) (R : Assn) (h : Sat k w R) :
    Calls Try.prog 9 #[] w fun e w' => e = .returned (.bool true) ∧ Sat k w' R := by
  have P1 := Lib.hid (fun w R h => sparse_of pk1 k w R (by decide) h)
  have P2 := Lib.hid (fun w R h => sparse_of pk2 k w R (by decide) h)
  have P3 := Lib.hid (fun w R h => sparse_of pk3 k w R (by decide) h)
  have P4 := Lib.hid (fun w R h => sparse_of pk4 k w R (by decide) h)
  have P5 := Lib.hid (fun w R h => sparse_of pk5 k w R (by decide) h)
  go_enter Try.func9, Try.ntmps9
  go_upto_region 2 with (go_at_call 19; (refine (P1.out _ _ h).mono ?_); rintro e v1 ⟨a1, c1, d1, e1, rfl, q1⟩)
  have h1 := (q1.swap.drop).alloc (.cells #[.int .i64 1, .slice a1 3 c1, .slice d1 0 e1, .string ⟨#[115, 101, 108, 101, 99, 116, 32, 42, 32, 102, 114, 111, 109, 32, 97, 32, 44, 32, 98, 32, 120, 32, 106, 111, 105, 110, 32, 34, 67, 34, 32, 117, 115, 105, 110, 103, 32, 40, 32, 107, 32, 41]⟩] 30)
  generalize (v1.alloc (.cells #[.int .i64 1, .slice a1 3 c1, .slice d1 0 e1, .string ⟨#[115, 101, 108, 101, 99, 116, 32, 42, 32, 102, 114, 111, 109, 32, 97, 32, 44, 32, 98, 32, 120, 32, 106, 111, 105, 110, 32, 34, 67, 34, 32, 117, 115, 105, 110, 103, 32, 40, 32, 107, 32, 41]⟩] 30)) = w1 at *
  generalize v1.heap.size = o1 at *
  clear h q1 P1
  go_upto_region 3 with (go_at_call 19; (refine (P2.out _ _ h1).mono ?_); rintro e v2 ⟨a2, c2, d2, e2, rfl, q2⟩)
  have h2 := (q2).alloc (.cells #[.int .i64 2, .slice a2 1 c2, .slice d2 1 e2, .string ⟨#[105, 110, 115, 101, 114, 116, 32, 105, 110, 116, 111, 32, 115, 32, 46, 32, 116, 32, 115, 101, 108, 101, 99, 116, 32, 49, 32, 102, 114, 111, 109, 32, 117]⟩] 30)
  generalize (v2.alloc (.cells #[.int .i64 2, .slice a2 1 c2, .slice d2 1 e2, .string ⟨#[105, 110, 115, 101, 114, 116, 32, 105, 110, 116, 111, 32, 115, 32, 46, 32, 116, 32, 115, 101, 108, 101, 99, 116, 32, 49, 32, 102, 114, 111, 109, 32, 117]⟩] 30)) = w2 at *
  generalize v2.heap.size = o2 at *
  clear h1 q2 P2
  go_upto_region 4 with (go_at_call 19; (refine (P3.out _ _ h2).mono ?_); rintro e v3 ⟨a3, c3, d3, e3, rfl, q3⟩)
  have h3 := (q3.drop.drop).alloc (.cells #[.int .i64 0, .slice a3 0 c3, .slice d3 0 e3, .string ⟨#[]⟩] 30)
  generalize (v3.alloc (.cells #[.int .i64 0, .slice a3 0 c3, .slice d3 0 e3, .string ⟨#[]⟩] 30)) = w3 at *
  generalize v3.heap.size = o3 at *
  clear h2 q3 P3
  replace h3 := h3.drop
  go_upto_region 5 with (go_at_call 19; (refine (P4.out _ _ h3).mono ?_); rintro e v4 ⟨a4, c4, d4, e4, rfl, q4⟩)
  have h4 := (q4.drop.drop).alloc (.cells #[.int .i64 0, .slice a4 0 c4, .slice d4 0 e4, .string ⟨#[]⟩] 30)
  generalize (v4.alloc (.cells #[.int .i64 0, .slice a4 0 c4, .slice d4 0 e4, .string ⟨#[]⟩] 30)) = w4 at *
  generalize v4.heap.size = o4 at *
  clear h3 q4 P4
  replace h4 := h4.drop
  go_upto_region 6 with (go_at_call 19; (refine (P5.out _ _ h4).mono ?_); rintro e v5 ⟨a5, c5, d5, e5, rfl, q5⟩)
  have h5 := (q5.drop.drop).alloc (.cells #[.int .i64 3, .slice a5 0 c5, .slice d5 0 e5, .string ⟨#[98, 101, 103, 105, 110]⟩] 30)
  generalize (v5.alloc (.cells #[.int .i64 3, .slice a5 0 c5, .slice d5 0 e5, .string ⟨#[98, 101, 103, 105, 110]⟩] 30)) = w5 at *
  generalize v5.heap.size = o5 at *
  clear h4 q5 P5
  obtain ⟨B, hB, h6⟩ : ∃ B, B = _ ∧ Sat k w5 B := ⟨_, rfl, h5⟩
  have A1 : Rd k B a1 [⟨#[67]⟩, ⟨#[97]⟩, ⟨#[98]⟩] := by rw [hB]; exact (rd_own (h5.get6)).mono fun _ q => q.get6
  have A2 : Rd k B a2 [⟨#[117]⟩] := by rw [hB]; exact (rd_own (h5.get3)).mono fun _ q => q.get3
  have A3 : Rd k B d2 [⟨#[115, 46, 116]⟩] := by rw [hB]; exact (rd_own (h5.get4)).mono fun _ q => q.get4
  have HC : Hid (∀ w', Sat k w' B → w'.cell? ⟨o1, 0, none⟩ = some (.int .i64 1) ∧ w'.cell? ⟨o1, 1, none⟩ = some (.slice a1 3 c1) ∧ w'.cell? ⟨o1, 2, none⟩ = some (.slice d1 0 e1) ∧ w'.cell? ⟨o1, 3, none⟩ = some (.string ⟨#[115, 101, 108, 101, 99, 116, 32, 42, 32, 102, 114, 111, 109, 32, 97, 32, 44, 32, 98, 32, 120, 32, 106, 111, 105, 110, 32, 34, 67, 34, 32, 117, 115, 105, 110, 103, 32, 40, 32, 107, 32, 41]⟩) ∧ w'.cell? ⟨o2, 1, none⟩ = some (.slice a2 1 c2) ∧ w'.cell? ⟨o2, 2, none⟩ = some (.slice d2 1 e2) ∧ w'.cell? ⟨o5, 0, none⟩ = some (.int .i64 3)) := by
    intro w' q
    rw [hB] at q
    exact ⟨q.get5.cell 0, q.get5.cell 1, q.get5.cell 2, q.get5.cell 3, q.swap.cell 1, q.swap.cell 2, q.cell 0⟩
  have HE : Hid (∀ w', Sat k w' B → Sat k w' R) := by
    intro w' q
    rw [hB] at q
    exact q.drop.drop.drop.drop.drop.drop
  have D1 := Lib.hid (fun w h => same_lit k w B 1 a1 d1 c1 e1 [⟨#[67]⟩, ⟨#[97]⟩, ⟨#[98]⟩] ⟨#[115, 101, 108, 101, 99, 116, 32, 42, 32, 102, 114, 111, 109, 32, 97, 32, 44, 32, 98, 32, 120, 32, 106, 111, 105, 110, 32, 34, 67, 34, 32, 117, 115, 105, 110, 103, 32, 40, 32, 107, 32, 41]⟩ A1 (by decide) h)
  have D2 := Lib.hid (fun w h => texts_lit k w B a2 c2 [⟨#[117]⟩] A2 (by decide) h)
  have D3 := Lib.hid (fun w h => texts_lit k w B d2 e2 [⟨#[115, 46, 116]⟩] A3 (by decide) h)
  have D4 := Lib.hid (fun w h => meets_lit k w B [⟨#[97]⟩] [⟨#[98]⟩, ⟨#[97]⟩] (by decide) (by decide) h)
  have D5 := Lib.hid (fun w h => meets_no k w B [⟨#[97]⟩] (by decide) h)
  have D6 := Lib.hid (fun w (a : Option Addr) (c : Nat) (h : Sat k w (Strs (.slice a [⟨#[120]⟩].length c) [⟨#[120]⟩] * B)) => texts_lit k w _ a c [⟨#[120]⟩] (rd_own h) (by decide) h)
  have hm : meetB [⟨#[97]⟩] [⟨#[98]⟩, ⟨#[97]⟩] = true := by decide +kernel
  rw [hm] at D4
  obtain ⟨z0, z1, z2, z3, _, _, _⟩ := HC.out _ h6
  clear h5 hB A1 A2 A3 hm
  go_wp2_with (first
    | (go_at_call 15; (refine (D1.out _ h6).mono ?_); rintro e x1 ⟨rfl, q1⟩; obtain ⟨_, _, _, _, z4, _, _⟩ := HC.out _ q1)
    | (go_at_call 10; (first
      | ((refine (D6.out _ _ _ q11).mono ?_); rintro e x12 ⟨rfl, q12⟩)
      | ((refine (texts_no k _ _ _ _ q7).mono ?_); rintro e x8 ⟨rfl, q8⟩)
      | ((refine (D3.out _ q2).mono ?_); rintro e x3 ⟨rfl, q3⟩; obtain ⟨_, _, _, _, _, _, z6⟩ := HC.out _ q3)
      | ((refine (D2.out _ q1).mono ?_); rintro e x2 ⟨rfl, q2⟩; obtain ⟨_, _, _, _, _, z5, _⟩ := HC.out _ q2)))
    | (go_at_call 21; (first
      | ((refine (D5.out _ q4).mono ?_); rintro e x5 ⟨rfl, q5⟩)
      | ((refine (D4.out _ q3).mono ?_); rintro e x4 ⟨rfl, q4⟩)))
    | (go_at_call 24; (first
      | ((refine (tok_d k _ _ q8).mono ?_); rintro e x9 ⟨ta2, tc2, rfl, q9⟩)
      | ((refine (tok_d k _ _ q5).mono ?_); rintro e x6 ⟨ta, tc, rfl, q6⟩)))
    | (go_at_call 11; (refine (reads_d k _ _ _ _ q6).mono ?_); rintro e x7 ⟨ra, rc, rfl, q7⟩)
    | (go_at_call 13; (refine (writes_d k _ _ _ _ q9).mono ?_); rintro e x10 ⟨ra2, rc2, rfl, q11⟩))
  go_ret
  exact ⟨rfl, HE.out _ q12.drop⟩

end Go.Proofs.Ytkjhfpjjcagecaa
