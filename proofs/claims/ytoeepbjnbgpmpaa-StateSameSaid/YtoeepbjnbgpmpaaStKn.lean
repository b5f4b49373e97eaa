/- Package state: known. -/
import Derived.Test.YtoeepbjnbgpmpaaSL
namespace Go.Proofs.Ytoeepbjnbgpmpaa
set_option linter.all false
open Go Go.RowKit

def eqC (x y : CmdM) : Bool := decide (x.kind = y.kind) && (decide (x.tb = y.tb) && (decide (x.kk = y.kk) && (decide (x.vv = y.vv) && decide (x.kd = y.kd))))
theorem eqC_iff (x y : CmdM) : eqC x y = true ↔ x = y := by
  obtain ⟨a, b, c, d, e⟩ := x
  obtain ⟨a', b', c', d', e'⟩ := y
  unfold eqC
  simp
theorem cm_eq (x y : CmdM) (w : World) : (Op.equalIn 10000 24 (.agg #[.int .i64 x.kind, .string x.tb, .int .i64 x.kk, .int .i64 x.vv, .bool x.kd]) (.agg #[.int .i64 y.kind, .string y.tb, .int .i64 y.kk, .int .i64 y.vv, .bool y.kd])).run Try.prog w = .ok (eqC x y) w := by
  obtain ⟨a, b, c, d, e⟩ := x
  obtain ⟨a', b', c', d', e'⟩ := y
  have h1 : Try.prog.underlying 3 = some (.int .i64) := Try.underlying3
  have h2 : Try.prog.underlying 9 = some .string := Try.underlying9
  have h3 : Try.prog.underlying 4 = some .bool := Try.underlying4
  have hs : Try.prog.underlying 24 = some (.struct (Try.prog.fieldsOf 24)) := by kernel_rfl
  rw [show (10000 : Nat) = 9999 + 1 from rfl, run_equalIn_agg w 9999 24 _ _ hs (by kernel_rfl)]
  have hb : (b.toList == b'.toList) = decide (b = b') := tl_beq _ _
  simp [Program.fieldsOf, Try.underlying24, Op.eqFields, go_sem, h1, h2, h3, eqC, hb]
  by_cases c0 : a = a' <;> by_cases c1 : b = b' <;> by_cases c2 : c = c' <;> by_cases c3 : d = d' <;> by_cases c4 : e = e' <;> simp [c0, c1, c2, c3, c4]

/-- A command on a state that is read: what it tells, in a frame that has grown. -/
theorem sdo_lit (k : Env) (w : World) (B : Assn) (a : Option Addr) (c : Nat) (P : List TbM) (x : CmdM) (n0 : Nat) (hn0 : P.length = n0) (hr : RdS k B a P) {S : List Tb} (hpS : pairs P = S) (hok : okT S) {S' : List Tb} {rs : List Rw2} {z : Int} (hd : doT x S = (S', rs, z)) (n m : Nat) (hn : S'.length = n) (hm : rs.length = m) (h : Sat k w B) :
    Calls Try.prog 20 #[.slice a n0 c, cmV x] w fun e w' => ∃ v d P' vr dr B', e = .returned (.tuple #[.slice v n d, .slice vr m dr, .int .i64 z]) ∧ pairs P' = S' ∧ P'.length = n ∧ RdS k B' v P' ∧ RdR k B' vr rs ∧ (∀ w', Sat k w' B' → Sat k w' B) ∧ Sat k w' B' := by
  subst hn0 hpS
  refine (sdo_any k w B a c P x hr hok h).mono ?_
  rintro e w' ⟨v, d, P', vr, dr, he, hp, h1⟩
  rw [hd] at he hp h1
  simp only at he hp h1
  refine ⟨v, d, P', vr, dr, _, ?_, hp, ?_, ?_, rdr_own h1, fun w' q => q.drop.drop, h1⟩
  · rw [he, hp, hn, hm]
  · rw [← pairs_length, hp, hn]
  · exact (rds_own h1.swap).mono fun _ q => q.swap
theorem rds_nil (k : Env) (R : Assn) (a : Option Addr) : RdS k R a [] := ⟨⟨0, 0, fun h => absurd rfl h, fun _ _ j hj => by cases hj⟩, fun p hp => by cases hp⟩
abbrev kt : ByteArray := ⟨#[116]⟩
abbrev ku : ByteArray := ⟨#[117]⟩
theorem ok1 : okT [(kt, [])] := ⟨by decide, by intro t ht; simp at ht; subst ht; exact ⟨by decide, by decide, List.Pairwise.nil, by simp⟩⟩
theorem ok2 (v : Int) (h : 0 ≤ v ∧ v ≤ 999999) : okT [(kt, [(3, v)])] := ⟨by simp, by intro t ht; simp at ht; subst ht; exact ⟨show 1 ≤ 30 by decide, by simp, List.pairwise_singleton _ _, by simp; exact h⟩⟩
theorem rt2 : RightP [(kt, [(3, 6)])] := ⟨by decide, List.pairwise_singleton _ _, by
  intro t ht; simp at ht; subst ht
  refine ⟨⟨by decide, by decide⟩, by simp, List.pairwise_singleton _ _, ?_⟩
  intro y hy; simp at hy; subst hy
  exact ⟨by decide, by decide⟩⟩
abbrev kTx : ByteArray := ⟨#[73, 78, 83, 69, 82, 84, 32, 73, 78, 84, 79, 32, 116, 32, 86, 65, 76, 85, 69, 83, 32, 40, 51, 44, 32, 53, 41]⟩
abbrev kTk : List Tok := [⟨1, ⟨#[105, 110, 115, 101, 114, 116]⟩, 0⟩, ⟨1, ⟨#[105, 110, 116, 111]⟩, 7⟩, ⟨1, kt, 12⟩, ⟨1, ⟨#[118, 97, 108, 117, 101, 115]⟩, 14⟩, ⟨5, ⟨#[40]⟩, 21⟩, ⟨4, ⟨#[51]⟩, 22⟩, ⟨5, ⟨#[44]⟩, 23⟩, ⟨4, ⟨#[53]⟩, 25⟩, ⟨5, ⟨#[41]⟩, 26⟩]
theorem scan_k : scanB kTx = .ok kTk := by rfl
abbrev kX : CmdM := ⟨2, kt, 3, 5, true⟩
theorem name_t : nameB kt = true := by decide +kernel
theorem cmd_k : cmdR kTk = some kX := by
  have h : (match cmdR kTk with | some c => eqC c kX | none => false) = true := by decide +kernel
  cases hc : cmdR kTk with
  | none => rw [hc] at h; cases h
  | some c =>
    rw [hc] at h
    rw [(eqC_iff c kX).1 h]
theorem text_k : textB kX = ⟨#[105, 110, 115, 101, 114, 116, 32, 105, 110, 116, 111, 32, 116, 32, 118, 97, 108, 117, 101, 115, 32, 40, 32, 51, 32, 44, 32, 53, 32, 41]⟩ := by decide +kernel
theorem do_1 : doT ⟨5, kt, 0, 0, false⟩ [] = ([(kt, [])], [], 0) := by decide +kernel
theorem do_2 : doT kX [(kt, [])] = ([(kt, [(3, 5)])], [], 0) := by decide +kernel
theorem do_3 : doT ⟨3, kt, 3, 0, true⟩ [(kt, [(3, 5)])] = ([(kt, [(3, 6)])], [], 0) := by decide +kernel
theorem do_4 : doT ⟨1, kt, 0, 0, false⟩ [(kt, [(3, 6)])] = ([(kt, [(3, 6)])], [(3, 6)], 0) := by decide +kernel
theorem do_5 : doT ⟨1, ku, 0, 0, false⟩ [(kt, [(3, 6)])] = ([(kt, [(3, 6)])], [], 8) := by decide +kernel


set_option maxRecDepth 100000 in
set_option maxHeartbeats 8000000 in
theorem known8_any (k : Env) (w : World) (R : Assn) (h : Sat k w R) :
    Calls Try.prog 9 #[] w fun e w' => e = .returned (.bool true) ∧ Sat k w' R := by
  have D1 := Lib.hid (sdo_lit k w R none 0 [] ⟨5, kt, 0, 0, false⟩ 0 rfl (rds_nil _ _ _) (S := []) rfl ⟨by decide, by intro t ht; cases ht⟩ do_1 1 0 rfl rfl h)
  go_enter Try.func9, Try.ntmps9
  go_upto_region 2 with (go_at_call 20; (with_reducible refine (D1.out).mono ?_); rintro e w1 ⟨v1, d1, P1, vr1, dr1, B1, rfl, hp1, hl1, hs1, hr1, hm1, h1⟩)
  have HM1 := Lib.hid hm1
  have HP1 := Lib.hid hp1
  have HS1 := Lib.hid hs1
  have HL1 := Lib.hid hl1
  have D2 := Lib.hid (sdo_lit k w1 B1 v1 d1 P1 kX 1 hl1 hs1 hp1 (ok1) do_2 1 0 rfl rfl h1)
  clear D1 h hm1 hp1 hs1 hr1 hl1 h1
  go_upto_region 3 with (go_at_call 20; (with_reducible refine (D2.out).mono ?_); rintro e w2 ⟨v2, d2, P2, vr2, dr2, B2, rfl, hp2, hl2, hs2, hr2, hm2, h2⟩)
  have HM2 := Lib.hid hm2
  have D3 := Lib.hid (sdo_lit k w2 B2 v2 d2 P2 ⟨3, kt, 3, 0, true⟩ 1 hl2 hs2 hp2 (ok2 5 (by decide)) do_3 1 0 rfl rfl h2)
  clear D2 hm2 hp2 hs2 hr2 hl2 h2
  go_upto_region 4 with (go_at_call 20; (with_reducible refine (D3.out).mono ?_); rintro e w3 ⟨v3, d3, P3, vr3, dr3, B3, rfl, hp3, hl3, hs3, hr3, hm3, h3⟩)
  have HM3 := Lib.hid hm3
  have HP3 := Lib.hid hp3
  have HS3 := Lib.hid hs3
  have HL3 := Lib.hid hl3
  have D4 := Lib.hid (sdo_lit k w3 B3 v3 d3 P3 ⟨1, kt, 0, 0, false⟩ 1 hl3 hs3 hp3 (ok2 6 (by decide)) do_4 1 1 rfl rfl h3)
  clear D3 hm3 hp3 hs3 hr3 hl3 h3
  go_upto_region 5 with (go_at_call 20; (with_reducible refine (D4.out).mono ?_); rintro e w4 ⟨v4, d4, P4, vr4, dr4, B4, rfl, hp4, hl4, hs4, hr4, hm4, h4⟩)
  have HM4 := Lib.hid hm4
  have HR4 := Lib.hid hr4
  have D5 := Lib.hid (sdo_lit k w4 B4 v3 d3 P3 ⟨1, ku, 0, 0, false⟩ 1 HL3.out (HS3.out.mono hm4) HP3.out (ok2 6 (by decide)) do_5 1 0 rfl rfl h4)
  clear D4 hm4 hp4 hs4 hr4 hl4 h4
  go_upto_region 6 with (go_at_call 20; (with_reducible refine (D5.out).mono ?_); rintro e w5 ⟨v5, d5, P5, vr5, dr5, B5, rfl, hp5, hl5, hs5, hr5, hm5, h5⟩)
  have HM5 := Lib.hid hm5
  have HP5 := Lib.hid hp5
  have HS5 := Lib.hid hs5
  have HL5 := Lib.hid hl5
  have D6 := Lib.hid (rscan_any k w5 B5 kTx (by decide) h5)
  clear D5 hm5 hp5 hs5 hr5 hl5 h5
  rw [scan_k] at D6
  go_upto_region 7 with (go_at_call 26; (with_reducible refine (D6.out).mono ?_); rintro e w6 ⟨vt, rfl, h6⟩)
  clear D6
  obtain ⟨ta, tc, hvt⟩ := rec_val h6
  have hvt2 : vt = .slice ta 9 tc := hvt
  clear hvt
  subst hvt2
  have h6b : Sat k w6 (Toks (.slice ta 9 tc) kTk * B5) := h6
  have D7 : Calls Try.prog 10 #[.slice ta 9 tc] w6 fun e w' => CmdQ k (some kX) (Toks (.slice ta 9 tc) kTk * B5) e w' := by
    have := scmd_any k w6 (Toks (.slice ta 9 tc) kTk * B5) ta tc kTk (rdt_own (l := kTk) h6b) (by simp) (by intro x hx; simp only [List.mem_cons, List.not_mem_nil, or_false] at hx; rcases hx with rfl | rfl | rfl | rfl | rfl | rfl | rfl | rfl | rfl <;> decide) h6b
    rw [cmd_k] at this
    exact this
  have D7' := Lib.hid D7
  clear D7 h6
  go_upto_region 8 with (go_at_call 10; (with_reducible refine (D7'.out).mono ?_); rintro e w7 ⟨rfl, h7⟩; have h8 := h7.alloc (cmO kX))
  clear D7' h6b h7
  generalize w7.alloc (cmO kX) = w8 at *
  generalize w7.heap.size = o9 at *
  obtain ⟨Bz, hBz, h9⟩ : ∃ Bz, Bz = _ ∧ Sat k w8 Bz := ⟨_, rfl, h8⟩
  have HZ5 : Hid (∀ {w' : World}, Sat k w' Bz → Sat k w' B5) := by unfold Hid; intro w' q; rw [hBz] at q; exact q.drop.drop
  have HCE : Hid (∀ {w' : World}, Sat k w' Bz → w'.cell? ⟨o9, 0, none⟩ = some (.int .i64 2) ∧ w'.cell? ⟨o9, 1, none⟩ = some (.string kt) ∧ w'.cell? ⟨o9, 2, none⟩ = some (.int .i64 3) ∧ w'.cell? ⟨o9, 3, none⟩ = some (.int .i64 5) ∧ w'.cell? ⟨o9, 4, none⟩ = some (.bool true)) := by
    unfold Hid
    intro w' q
    rw [hBz] at q
    exact ⟨q.cell 0, q.cell 1, q.cell 2, q.cell 3, q.cell 4⟩
  have RS3 : RdS k Bz v3 P3 := HS3.out.mono fun _ q => HM4.out _ (HM5.out _ (HZ5.out q))
  have RS1 : RdS k Bz v1 P1 := HS1.out.mono fun _ q => HM2.out _ (HM3.out _ (HM4.out _ (HM5.out _ (HZ5.out q))))
  have RS5 : RdS k Bz v5 P5 := HS5.out.mono fun _ q => HZ5.out q
  have RR4 : RdR k Bz vr4 [(3, 6)] := HR4.out.mono fun _ q => HM5.out _ (HZ5.out q)
  have sm : ∀ (P : List TbM) (S : List Tb), pairs P = S → (∀ t ∈ S, t.2.length ≤ 1000) → ∀ p ∈ P, p.rows.length ≤ 1000 := by
    intro P S hp hS p hpm
    exact hS p.p (by rw [← hp]; exact List.mem_map_of_mem hpm)
  have sm3 := sm P3 _ HP3.out (by intro t ht; simp at ht; subst ht; simp)
  have sm1 := sm P1 _ HP1.out (by intro t ht; simp at ht; subst ht; simp)
  have A1 : Hid (∀ w', Sat k w' Bz → Calls Try.prog 23 #[.slice vr4 1 dr4, .slice (some ⟨w'.heap.size, 0, none⟩) 1 1] (w'.alloc (.cells #[.int .i64 3, .int .i64 6] 45)) fun e w' => e = .returned (.bool true) ∧ Sat k w' Bz) := by
    intro w' q
    have q1 : Sat k (w'.alloc (.cells #[.int .i64 3, .int .i64 6] 45)) (Rws (.slice (some ⟨w'.heap.size, 0, none⟩) 1 1) [(3, 6)] * Bz) := own_mk (q.alloc _) (Nat.le_refl _) (by decide) (Nat.le_refl 2) rfl rfl
    refine (rrows_any k _ _ vr4 dr4 _ 1 [(3, 6)] [(3, 6)] (RR4.mono fun _ q => q.drop) (rdr_own (l := [(3, 6)]) q1) (by simp) q1).mono ?_
    rintro e w2 ⟨rfl, q2⟩
    exact ⟨by rw [decide_eq_true rfl], q2.drop⟩
  have A2 : Hid (∀ w', Sat k w' Bz → Calls Try.prog 22 #[.slice v3 1 d3, .slice v5 1 d5] w' fun e w' => e = .returned (.bool true) ∧ Sat k w' Bz) := by
    intro w' q
    have := rsame8_any k w' Bz v3 d3 v5 d5 P3 P5 RS3 RS5 (by rw [HL3.out]; decide) (fun p hp => by have := sm3 p hp; omega) q
    rw [HL3.out, HL5.out, HP3.out, HP5.out, decide_eq_true rfl] at this
    exact this
  have A3 : Hid (∀ w', Sat k w' Bz → Calls Try.prog 12 #[.agg #[.int .i64 2, .string kt, .int .i64 3, .int .i64 5, .bool true]] w' fun e w' => e = .returned (.string ⟨#[105, 110, 115, 101, 114, 116, 32, 105, 110, 116, 111, 32, 116, 32, 118, 97, 108, 117, 101, 115, 32, 40, 32, 51, 32, 44, 32, 53, 32, 41]⟩) ∧ Sat k w' Bz) := by
    intro w' q
    have := stext_any k w' Bz kX (by decide) q
    rw [text_k] at this
    exact this
  have A4 : Hid (∀ w', Sat k w' Bz → Calls Try.prog 15 #[.slice v3 1 d3] w' fun e w' => e = .returned (.bool true) ∧ Sat k w' Bz) := by
    intro w' q
    have := sright_any k w' Bz v3 d3 P3 RS3 (by rw [HL3.out]; decide) (fun p hp => by have := sm3 p hp; omega) q
    rw [HL3.out, HP3.out, rightB_true rt2] at this
    exact this
  have A5 : Hid (∀ w', Sat k w' Bz → Calls Try.prog 17 #[.slice v3 1 d3, .string kt] w' fun e w' => e = .returned (.int .i64 0) ∧ Sat k w' Bz) := by
    intro w' q
    have := sfind_any k w' Bz v3 d3 P3 kt RS3 (by rw [HL3.out]; decide) q
    have hf : findI P3 kt 0 = 0 := by rw [findI_fnd, HP3.out]; decide +kernel
    rw [HL3.out, hf] at this
    exact this
  have A6 : Hid (∀ w', Sat k w' Bz → Calls Try.prog 25 #[.slice v1 1 d1, .slice v3 1 d3] w' fun e w' => e = .returned (.bool false) ∧ Sat k w' Bz) := by
    intro w' q
    have := ssame8_any k w' Bz v1 d1 v3 d3 P1 P3 RS1 RS3 (by rw [HL1.out]; decide) (fun p hp => by have := sm1 p hp; omega) q
    rw [HL1.out, HL3.out, HP1.out, HP3.out, decide_eq_false (by decide +kernel)] at this
    exact this
  have A7 : Hid (∀ w', Sat k w' Bz → Calls Try.prog 24 #[.slice v3 1 d3] w' fun e w' => ∃ v d P, e = .returned (.slice v 1 d) ∧ pairs P = pairs P3 ∧ Sat k w' (StO (.slice v P.length d) P * Bz)) := by
    intro w' q
    have := scopy_any k w' Bz v3 d3 P3 RS3 (by rw [HL3.out]; decide) (fun p hp => by have := sm3 p hp; omega) q
    rw [HL3.out] at this
    refine this.mono ?_
    rintro e w2 ⟨v, d, P, rfl, hp, q2⟩
    exact ⟨v, d, P, by rw [pairs_len hp, HL3.out], hp, q2⟩
  have A8 : Hid (∀ w' v d P, pairs P = pairs P3 → Sat k w' (StO (.slice v P.length d) P * Bz) → Calls Try.prog 25 #[.slice v3 1 d3, .slice v 1 d] w' fun e w' => e = .returned (.bool true) ∧ Sat k w' Bz) := by
    intro w' v d P hp q
    have := ssame8_any k w' _ v3 d3 v d P3 P (RS3.mono fun _ q => q.drop) (rds_own q) (by rw [HL3.out]; decide) (fun p hp => by have := sm3 p hp; omega) q
    rw [pairs_len hp, HL3.out, hp, decide_eq_true rfl] at this
    refine this.mono ?_
    rintro e w2 ⟨rfl, q2⟩
    exact ⟨rfl, q2.drop⟩
  have HZ : Hid (∀ w', Sat k w' Bz → Sat k w' R) := by
    intro w' q
    exact HM1.out _ (HM2.out _ (HM3.out _ (HM4.out _ (HM5.out _ (HZ5.out q)))))
  have hce := fun (w : World) => cm_eq kX kX w
  have heq : eqC kX kX = true := (eqC_iff _ _).2 rfl
  rw [heq] at hce
  obtain ⟨c0, c1, c2, c3, c4⟩ := HCE.out h9
  clear sm sm3 sm1 RS3 RS1 RS5 RR4 hBz h8 heq
  go_wp2_with (first | (go_at_call 23; (with_reducible refine (A1.out _ h9).mono ?_); rintro e wa ⟨rfl, ha⟩; obtain ⟨c0, c1, c2, c3, c4⟩ := HCE.out ha) | (go_at_call 22; (with_reducible refine (A2.out _ ha).mono ?_); rintro e wb ⟨rfl, hb⟩; obtain ⟨c0, c1, c2, c3, c4⟩ := HCE.out hb) | (go_at_call 12; (with_reducible refine (A3.out _ hb).mono ?_); rintro e wd ⟨rfl, hd⟩) | (go_at_call 15; (with_reducible refine (A4.out _ hd).mono ?_); rintro e we ⟨rfl, he⟩) | (go_at_call 17; (with_reducible refine (A5.out _ he).mono ?_); rintro e wf ⟨rfl, hf⟩) | (go_at_call 25; (with_reducible refine (A8.out _ _ _ _ hp9 hq9).mono ?_); rintro e wi ⟨rfl, hi⟩) | (go_at_call 25; (with_reducible refine (A6.out _ hf).mono ?_); rintro e wg ⟨rfl, hg⟩) | (go_at_call 24; (with_reducible refine (A7.out _ hg).mono ?_); rintro e wh ⟨v9, d9, P9, rfl, hp9, hq9⟩))
  go_ret
  exact ⟨rfl, HZ.out _ hi⟩
end Go.Proofs.Ytoeepbjnbgpmpaa
