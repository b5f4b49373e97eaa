/- Several texts in one: StCm, StCd. -/
import Derived.Test.YtoeepbjnbgpmpaaStLk
namespace Go.Proofs.Ytoeepbjnbgpmpaa
set_option linter.all false
open Go Go.RowKit

def firstR (l : List Tok) : List (Int × Bool × List ByteArray) → Option CmdM
  | [] => none
  | f :: r => match matchR f.1 f.2.1 f.2.2 l with
    | some c => some c
    | none => firstR l r
def cmdR (l : List Tok) : Option CmdM := firstR l fmL
abbrev cmZ : CmdM := ⟨0, ⟨#[]⟩, 0, 0, false⟩
def CmdQ (k : Env) (r : Option CmdM) (R : Assn) (e : Ending) (w' : World) : Prop := e = .returned (.tuple #[cmV (r.getD cmZ), .bool r.isSome]) ∧ Sat k w' R
theorem forms_good : ∀ f ∈ fmL, f.2.2.length ≤ 12 ∧ ∀ s ∈ f.2.2, 0 < s.size := by decide +kernel


set_option maxRecDepth 100000 in
set_option maxHeartbeats 8000000 in
theorem scmd_any (k : Env) (w : World) (R : Assn) (a : Option Addr) (cap : Nat) (l : List Tok) (hr : RdT k R a l) (hl : l.length ≤ 1000000) (hT : ∀ x ∈ l, x.t.size ≤ 100000) (h : Sat k w R) :
    Calls Try.prog 10 #[.slice a l.length cap] w fun e w' => CmdQ k (cmdR l) R e w' := by
  obtain ⟨res, hres⟩ : ∃ res, cmdR l = res := ⟨_, rfl⟩
  rw [hres]
  have h0 := h.alloc (cmO cmZ)
  have HT := Lib.hid hr
  have HTS := Lib.hid hT
  have HRES := Lib.hid hres
  have D1 := Lib.hid (forms_any k _ _ h0)
  have HQ : Hid (∀ (c : CmdM) (w' : World) (b : Bool) (e : Ending), b = res.isSome → c = res.getD cmZ → Sat k w' R → e = .returned (.tuple #[cmV c, .bool b]) → CmdQ k res R e w') := by
    intro c w' b e hb hm hs he
    exact ⟨by rw [he, hb, hm], hs⟩
  clear hr hT hres h0
  go_enter Try.func10, Try.ntmps10
  go_upto_block 0 with (go_at_call 27; (refine (D1.out).mono ?_); rintro e w1 ⟨v, c, F, rfl, hF, h1⟩)
  clear D1 h
  generalize w.heap.size = o4 at *
  have hF7 : F.length ≤ 1000 := by have := congrArg List.length hF; rw [List.length_map] at this; have h7 : fmL.length = 7 := rfl; omega
  have HX : Hid (firstR l ((F.drop 0).map FrM.p) = res) := by unfold Hid; rw [List.drop_zero, hF]; exact HRES.out
  have HMEM : Hid (∀ f ∈ F, f.ws.length ≤ 12 ∧ ∀ s ∈ f.ws, 0 < s.size) := by
    intro f hf
    have hm : f.p ∈ fmL := by rw [← hF]; exact List.mem_map_of_mem hf
    exact forms_good _ hm
  obtain ⟨B, hB, h2⟩ : ∃ B, B = _ ∧ Sat k w1 B := ⟨_, rfl, h1⟩
  have HBB : Hid (∀ {w' : World}, Sat k w' B → Sat k w' (FrO (.slice v F.length c) F * (blk o4 (cmO cmZ) * R))) := by
    unfold Hid
    intro w' q
    rw [hB] at q
    exact q
  have HBE := Lib.hid hB
  clear hF hB h1 HRES
  go_wp2_with fail
  go_loopw [10] (fun s10 wr => ∃ i : Nat, i ≤ F.length ∧ s10 = .int .i64 i ∧ Hid (firstR l ((F.drop i).map FrM.p) = res) ∧ Sat k wr B) (fun s10 _ => F.length - (intOf s10).toNat)
  case atStart => exact ⟨0, Nat.zero_le _, rfl, HX, h2⟩
  case round =>
    clear h2 HX
    obtain ⟨i, hi, rfl, HS, hs⟩ := hrel
    by_cases hlt : i < F.length
    · have hlt' : (i : Int) < F.length := by omega
      have hs0 : Sat k wr (RecS EFr 54 (.slice v F.length c) F * (stars frR F * (blk o4 (cmO cmZ) * R))) := (HBB.out hs).of_eq (by unfold FrO; rw [star_assoc])
      obtain ⟨g, hg, _, hcl⟩ := rec_get hs0 (by decide) i hlt
      subst hg
      obtain ⟨f, hf⟩ : ∃ f, F[i] = f := ⟨_, rfl⟩
      have hmem := HMEM.out f (hf ▸ List.getElem_mem hlt)
      have RW : Hid (Rd k B f.a f.ws) := by
        unfold Hid
        obtain ⟨Fz, hFz⟩ := stars_mem frR F f (hf ▸ List.getElem_mem hlt)
        have e : ∀ w', Sat k w' B → Sat k w' (Strs (.slice f.a f.ws.length f.c) f.ws * (RecS EFr 54 (.slice (some ⟨g, 0, none⟩) F.length c) F * (Fz * (blk o4 (cmO cmZ) * R)))) := by
          intro w' q
          have q1 := HBB.out q
          refine q1.of_eq ?_
          unfold FrO
          rw [hFz]
          show RecS _ _ _ _ * (Strs f.v f.ws * Fz) * _ = _
          unfold FrM.v
          ac_rfl
        exact (rd_own (e wr hs)).mono e
      have HSN : Hid (firstR l ((F.drop i).map FrM.p) = match matchR f.kind f.kd f.ws l with | some c => some c | none => firstR l ((F.drop (i + 1)).map FrM.p)) := by
        unfold Hid
        rw [List.drop_eq_getElem_cons hlt, List.map_cons, firstR, hf]; rfl
      rw [hf] at hcl
      obtain ⟨fk, fd, fa, fc, fw⟩ := f
      simp only at hmem RW HSN
      have d0 : wr.cell? ⟨g, i * 3, none⟩ = some (.int .i64 fk) := hcl 0 (by decide)
      have d1 : wr.cell? ⟨g, i * 3 + 1, none⟩ = some (.bool fd) := hcl 1 (by decide)
      have d2 : wr.cell? ⟨g, i * 3 + 2, none⟩ = some (.slice fa fw.length fc) := hcl 2 (by decide)
      have h4 := hs.alloc (.cells #[.int .i64 fk, .bool fd, .slice fa fw.length fc] 54)
      clear hcl hs0 hf
      go_upto_region 4 with fail
      generalize wr.alloc (.cells #[.int .i64 fk, .bool fd, .slice fa fw.length fc] 54) = w4 at *
      generalize wr.heap.size = oo at *
      clear d0 d1 d2 hs
      have e0 : w4.cell? ⟨oo, 0, none⟩ = some (.int .i64 fk) := h4.cell 0
      have e1 : w4.cell? ⟨oo, 1, none⟩ = some (.bool fd) := h4.cell 1
      have e2 : w4.cell? ⟨oo, 2, none⟩ = some (.slice fa fw.length fc) := h4.cell 2
      have D0 := match_any k w4 _ fk fd fa fc fw a cap l (RW.out.mono fun _ q => q.drop) (HT.out.mono (R' := blk oo (.cells #[.int .i64 fk, .bool fd, .slice fa fw.length fc] 54 (0, 0)) * B) fun _ q => (HBB.out q.drop).drop.drop) (by omega) hmem.2 hl HTS.out h4
      obtain ⟨mr, hmr⟩ : ∃ mr, matchR fk fd fw l = mr := ⟨_, rfl⟩
      rw [hmr] at D0 HSN
      have D := Lib.hid D0
      clear hmr D0 hmem
      go_upto_region 5 with (go_at_call 28; (with_reducible refine (D.out).mono ?_); rintro e w5 ⟨cm, rfl, hm, h5⟩; have h6 := h5.alloc (cmO cm))
      obtain ⟨ck, ct, cc, cv, cd⟩ := cm
      have HM := Lib.hid hm
      clear D h4 e0 e1 e2 hm h5
      generalize w5.alloc (cmO ⟨ck, ct, cc, cv, cd⟩) = w6 at *
      generalize w5.heap.size = o6 at *
      cases mr with
      | none =>
        have HN : Hid (firstR l ((F.drop (i + 1)).map FrM.p) = res) := by unfold Hid; rw [← HS.out, HSN.out]
        clear HS HSN HM
        go_wp2_with fail
        go_roundw
        case rel => exact ⟨i + 1, by omega, by go_num, HN, h6.drop.drop⟩
        case measure => simp [intOf]; omega
      | some c9 =>
        have HN : Hid (res = some ⟨ck, ct, cc, cv, cd⟩) := by unfold Hid; rw [← HS.out, HSN.out, HM.out c9 rfl]
        clear HS HSN HM
        obtain ⟨wz, rfl⟩ : ∃ wz, wz = w6 := ⟨_, rfl⟩
        have hs : Sat k wz (blk o6 (cmO ⟨ck, ct, cc, cv, cd⟩) * (blk o4 (cmO ⟨0, ⟨#[]⟩, 0, 0, false⟩) * R)) := by
          have q : Sat k wz (blk o6 (cmO ⟨ck, ct, cc, cv, cd⟩) * (blk oo (.cells #[.int .i64 fk, .bool fd, .slice fa fw.length fc] 54 (0, 0)) * (FrO (.slice (some ⟨g, 0, none⟩) F.length c) F * (blk o4 (cmO cmZ) * R)))) := by rw [HBE.out] at h6; exact h6
          exact q.swap.drop.swap.drop
        clear h6
        (
          have m0 : wz.cell? ⟨o6, 0, none⟩ = some (.int .i64 ck) := hs.cell 0
          have m1 : wz.cell? ⟨o6, 1, none⟩ = some (.string ct) := hs.cell 1
          have m2 : wz.cell? ⟨o6, 2, none⟩ = some (.int .i64 cc) := hs.cell 2
          have m3 : wz.cell? ⟨o6, 3, none⟩ = some (.int .i64 cv) := hs.cell 3
          have m4 : wz.cell? ⟨o6, 4, none⟩ = some (.bool cd) := hs.cell 4
          have e0 : wz.cell? ⟨o4, 0, none⟩ = some (.int .i64 0) := hs.swap.cell 0
          have e1 : wz.cell? ⟨o4, 1, none⟩ = some (.string ⟨#[]⟩) := hs.swap.cell 1
          have e2 : wz.cell? ⟨o4, 2, none⟩ = some (.int .i64 0) := hs.swap.cell 2
          have e3 : wz.cell? ⟨o4, 3, none⟩ = some (.int .i64 0) := hs.swap.cell 3
          have e4 : wz.cell? ⟨o4, 4, none⟩ = some (.bool false) := hs.swap.cell 4
          have f0 := hs.swap.frozen 0
          have f1 := hs.swap.frozen 1
          have f2 := hs.swap.frozen 2
          have f3 := hs.swap.frozen 3
          have f4 := hs.swap.frozen 4
          go_wp2_with fail
          have hx := cmd_set ck ct cc cv cd hs.swap
          generalize ((((wz.setCell ⟨o4, 0, none⟩ (.int .i64 ck)).setCell ⟨o4, 1, none⟩ (.string ct)).setCell ⟨o4, 2, none⟩ (.int .i64 cc)).setCell ⟨o4, 3, none⟩ (.int .i64 cv)).setCell ⟨o4, 4, none⟩ (.bool cd) = w9 at *
          clear m0 m1 m2 m3 m4 e0 e1 e2 e3 e4 f0 f1 f2 f3 f4 hs
          have g0 : w9.cell? ⟨o4, 0, none⟩ = some (.int .i64 ck) := hx.cell 0
          have g1 : w9.cell? ⟨o4, 1, none⟩ = some (.string ct) := hx.cell 1
          have g2 : w9.cell? ⟨o4, 2, none⟩ = some (.int .i64 cc) := hx.cell 2
          have g3 : w9.cell? ⟨o4, 3, none⟩ = some (.int .i64 cv) := hx.cell 3
          have g4 : w9.cell? ⟨o4, 4, none⟩ = some (.bool cd) := hx.cell 4)
        refine bodyPost_ret (v := .tuple #[.agg #[.int .i64 ck, .string ct, .int .i64 cc, .int .i64 cv, .bool cd], .bool true]) (by simp [results, Try.results10, go_sem, g0, g1, g2, g3, g4]) rfl ?_
        exact HQ.out ⟨ck, ct, cc, cv, cd⟩ w9 true _ (by rw [HN.out]; rfl) (by rw [HN.out]; rfl) hx.drop.drop rfl
    · obtain rfl : i = F.length := by omega
      have HN : Hid (res = none) := by unfold Hid; rw [← HS.out, List.drop_eq_nil_of_le (Nat.le_refl _)]; rfl
      have h8 := (HBB.out hs).drop
      clear HS hs
      obtain ⟨wz, rfl⟩ : ∃ wz, wz = wr := ⟨_, rfl⟩
      have hs := h8
      clear h8
      (
        have e0 : wz.cell? ⟨o4, 0, none⟩ = some (.int .i64 0) := hs.cell 0
        have e1 : wz.cell? ⟨o4, 1, none⟩ = some (.string ⟨#[]⟩) := hs.cell 1
        have e2 : wz.cell? ⟨o4, 2, none⟩ = some (.int .i64 0) := hs.cell 2
        have e3 : wz.cell? ⟨o4, 3, none⟩ = some (.int .i64 0) := hs.cell 3
        have e4 : wz.cell? ⟨o4, 4, none⟩ = some (.bool false) := hs.cell 4
        have f0 := hs.frozen 0
        have f1 := hs.frozen 1
        have f2 := hs.frozen 2
        have f3 := hs.frozen 3
        have f4 := hs.frozen 4
        go_wp2_with fail
        have hx := cmd_set 0 ⟨#[]⟩ 0 0 false hs
        generalize ((((wz.setCell ⟨o4, 0, none⟩ (.int .i64 0)).setCell ⟨o4, 1, none⟩ (.string ⟨#[]⟩)).setCell ⟨o4, 2, none⟩ (.int .i64 0)).setCell ⟨o4, 3, none⟩ (.int .i64 0)).setCell ⟨o4, 4, none⟩ (.bool false) = w9 at *
        clear e0 e1 e2 e3 e4 f0 f1 f2 f3 f4 hs
        have g0 : w9.cell? ⟨o4, 0, none⟩ = some (.int .i64 0) := hx.cell 0
        have g1 : w9.cell? ⟨o4, 1, none⟩ = some (.string ⟨#[]⟩) := hx.cell 1
        have g2 : w9.cell? ⟨o4, 2, none⟩ = some (.int .i64 0) := hx.cell 2
        have g3 : w9.cell? ⟨o4, 3, none⟩ = some (.int .i64 0) := hx.cell 3
        have g4 : w9.cell? ⟨o4, 4, none⟩ = some (.bool false) := hx.cell 4)
      refine bodyPost_ret (v := .tuple #[.agg #[.int .i64 0, .string ⟨#[]⟩, .int .i64 0, .int .i64 0, .bool false], .bool false]) (by simp [results, Try.results10, go_sem, g0, g1, g2, g3, g4]; try rfl) rfl ?_
      exact HQ.out cmZ w9 false _ (by rw [HN.out]; rfl) (by rw [HN.out]; rfl) hx.drop rfl
end Go.Proofs.Ytoeepbjnbgpmpaa

namespace Go.Proofs.Ytoeepbjnbgpmpaa
set_option linter.all false
open Go Go.RowKit

theorem runM_runD : ∀ (ws : List ByteArray) (l : List Tok) (c : CmdM) (k : Int) (e : Bool), runM ws l ⟨k, c.tb, c.kk, c.vv, e⟩ = (runD ws l c).map fun d => ⟨k, d.tb, d.kk, d.vv, e⟩
  | [], _, _, _, _ => rfl
  | _ :: _, [], _, _, _ => rfl
  | w :: ws, x :: l, c, k, e => by
    rw [runM, runD]
    by_cases h : okW w x = true
    · rw [if_pos h, if_pos h, ← runM_runD ws l (setD w x c) k e]
      congr 1
      unfold setW setD
      split
      · rfl
      · split
        · rfl
        · split <;> rfl
    · rw [if_neg h, if_neg h]; rfl
theorem runD_kd : ∀ (ws : List ByteArray) (l : List Tok) (c d : CmdM), runD ws l c = some d → d.kd = (c.kd || memB cK ws)
  | [], _, c, d, h => by cases h; simp [memB]
  | _ :: _, [], _, _, h => by cases h
  | w :: ws, x :: l, c, d, h => by
    rw [runD] at h
    by_cases ho : okW w x = true
    · rw [if_pos ho] at h
      rw [runD_kd ws l _ d h]
      have hm : memB cK (w :: ws) = (decide (w = cK) || memB cK ws) := by simp [memB]
      rw [hm]
      unfold setD
      by_cases h1 : w = cT
      · rw [if_pos h1]
        have : decide (w = cK) = false := decide_eq_false (by rw [h1]; decide +kernel)
        rw [this]; rfl
      · rw [if_neg h1]
        by_cases h2 : w = cK
        · rw [if_pos h2, decide_eq_true h2]; simp
        · rw [if_neg h2, decide_eq_false h2]
          split <;> simp
    · rw [if_neg ho] at h; cases h
theorem like_match (l : List Tok) (f : Int × Bool × List ByteArray) (hf : f ∈ fmL) : matchR f.1 f.2.1 f.2.2 l = (likeR f.2.2 l).map fun d => ⟨f.1, d.tb, d.kk, d.vv, d.kd⟩ := by
  have hk : ∀ q ∈ fmL, q.2.1 = memB cK q.2.2 := by decide +kernel
  have hkf := hk f hf
  unfold matchR likeR
  by_cases h : l.length = f.2.2.length
  · rw [if_pos h, if_pos h]
    have h1 := runM_runD f.2.2 l ⟨0, ⟨#[]⟩, 0, 0, false⟩ f.1 f.2.1
    rw [h1]
    cases hr : runD f.2.2 l ⟨0, ⟨#[]⟩, 0, 0, false⟩ with
    | none => rfl
    | some d =>
      have := runD_kd _ _ _ _ hr
      simp only [Option.map_some]
      rw [this, hkf]; rfl
  · rw [if_neg h, if_neg h]; rfl
def firstB (s : ByteArray) : Bool := match bl s with
  | [] => false
  | c :: _ => decide (c.toNat ≤ 122)
theorem forms_first : ∀ f ∈ fmL, f.2.2.length ≤ 12 ∧ ∀ s ∈ f.2.2, FirstP s := by
  have h : ∀ f ∈ fmL, f.2.2.length ≤ 12 ∧ ∀ s ∈ f.2.2, firstB s = true := by decide +kernel
  intro f hf
  refine ⟨(h f hf).1, fun s hs => ?_⟩
  have := (h f hf).2 s hs
  unfold firstB at this
  cases hb : bl s with
  | nil => rw [hb] at this; cases this
  | cons c r =>
    rw [hb] at this
    exact ⟨c, r, hb, of_decide_eq_true this⟩


set_option maxRecDepth 100000 in
set_option maxHeartbeats 8000000 in
theorem rcmd_any (k : Env) (w : World) (R : Assn) (a : Option Addr) (cap : Nat) (l : List Tok) (hr : RdT k R a l) (hl : l.length ≤ 1000000) (hT : ∀ x ∈ l, x.t.size ≤ 100000) (h : Sat k w R) :
    Calls Try.prog 11 #[.slice a l.length cap] w fun e w' => CmdQ k (cmdR l) R e w' := by
  obtain ⟨res, hres⟩ : ∃ res, cmdR l = res := ⟨_, rfl⟩
  rw [hres]
  have h0 := h.alloc (cmO cmZ)
  have HT := Lib.hid hr
  have HTS := Lib.hid hT
  have HRES := Lib.hid hres
  have D1 := Lib.hid (rforms_any k _ _ h0)
  have HQ : Hid (∀ (c : CmdM) (w' : World) (b : Bool) (e : Ending), b = res.isSome → c = res.getD cmZ → Sat k w' R → e = .returned (.tuple #[cmV c, .bool b]) → CmdQ k res R e w') := by
    intro c w' b e hb hm hs he
    exact ⟨by rw [he, hb, hm], hs⟩
  clear hr hT hres h0
  go_enter Try.func11, Try.ntmps11
  go_upto_block 0 with (go_at_call 29; (refine (D1.out).mono ?_); rintro e w1 ⟨v, c, F, rfl, hF, h1⟩)
  clear D1 h
  generalize w.heap.size = o4 at *
  have hF7 : F.length ≤ 1000 := by have := congrArg List.length hF; rw [List.length_map] at this; have h7 : fmL.length = 7 := rfl; omega
  have HFM := Lib.hid hF
  have HX : Hid (firstR l ((F.drop 0).map FrM.p) = res) := by unfold Hid; rw [List.drop_zero, hF]; exact HRES.out
  have HMEM : Hid (∀ f ∈ F, f.ws.length ≤ 12 ∧ ∀ s ∈ f.ws, FirstP s) := by
    intro f hf
    have hm : f.p ∈ fmL := by rw [← hF]; exact List.mem_map_of_mem hf
    exact forms_first _ hm
  obtain ⟨B, hB, h2⟩ : ∃ B, B = _ ∧ Sat k w1 B := ⟨_, rfl, h1⟩
  have HBB : Hid (∀ {w' : World}, Sat k w' B → Sat k w' (WsO (.slice v F.length c) F * (blk o4 (cmO cmZ) * R))) := by
    unfold Hid
    intro w' q
    rw [hB] at q
    exact q
  have HBE := Lib.hid hB
  clear hF hB h1 HRES
  go_wp2_with fail
  go_loopw [5] (fun s5 wr => ∃ i : Nat, i ≤ F.length ∧ s5 = .int .i64 i ∧ Hid (firstR l ((F.drop i).map FrM.p) = res) ∧ Sat k wr B) (fun s5 _ => F.length - (intOf s5).toNat)
  case atStart => exact ⟨0, Nat.zero_le _, rfl, HX, h2⟩
  case round =>
    clear h2 HX
    obtain ⟨i, hi, rfl, HS, hs⟩ := hrel
    by_cases hlt : i < F.length
    · have hlt' : (i : Int) < F.length := by omega
      have hs0 : Sat k wr (RecS EWs 52 (.slice v F.length c) F * (stars frR F * (blk o4 (cmO cmZ) * R))) := (HBB.out hs).of_eq (by unfold WsO; rw [star_assoc])
      obtain ⟨g, hg, _, hcl⟩ := rec_get hs0 (by decide) i hlt
      subst hg
      obtain ⟨f, hf⟩ : ∃ f, F[i] = f := ⟨_, rfl⟩
      have hmem := HMEM.out f (hf ▸ List.getElem_mem hlt)
      have RW : Hid (Rd k B f.a f.ws) := by
        unfold Hid
        obtain ⟨Fz, hFz⟩ := stars_mem frR F f (hf ▸ List.getElem_mem hlt)
        have e : ∀ w', Sat k w' B → Sat k w' (Strs (.slice f.a f.ws.length f.c) f.ws * (RecS EWs 52 (.slice (some ⟨g, 0, none⟩) F.length c) F * (Fz * (blk o4 (cmO cmZ) * R)))) := by
          intro w' q
          have q1 := HBB.out q
          refine q1.of_eq ?_
          unfold WsO
          rw [hFz]
          show RecS _ _ _ _ * (Strs f.v f.ws * Fz) * _ = _
          unfold FrM.v
          ac_rfl
        exact (rd_own (e wr hs)).mono e
      have HSN : Hid (firstR l ((F.drop i).map FrM.p) = match matchR f.kind f.kd f.ws l with | some c => some c | none => firstR l ((F.drop (i + 1)).map FrM.p)) := by
        unfold Hid
        rw [List.drop_eq_getElem_cons hlt, List.map_cons, firstR, hf]; rfl
      rw [hf] at hcl
      obtain ⟨fk, fd, fa, fc, fw⟩ := f
      simp only at hmem RW HSN
      have d0 : wr.cell? ⟨g, i, none⟩ = some (.slice fa fw.length fc) := by
        have := hcl 0 (by decide)
        show wr.cell? ⟨g, i, none⟩ = _
        rw [show i = i * EWs.n + 0 by show i = i * 1 + 0; omega]
        exact this
      have HKI : Hid (fmL[i]? = some (fk, fd, fw)) := by
        unfold Hid
        rw [← HFM.out, List.getElem?_map, List.getElem?_eq_getElem hlt, hf]; rfl
      have D0 := like_any k wr _ fa fc fw a cap l RW.out (HT.out.mono (R' := B) fun _ q => (HBB.out q).drop.drop) (by omega) hmem.2 hl HTS.out hs
      obtain ⟨mr, hmr⟩ : ∃ mr, likeR fw l = mr := ⟨_, rfl⟩
      have hlm := like_match l (fk, fd, fw) (List.mem_of_getElem? HKI.out)
      simp only at hlm
      rw [hmr] at D0 hlm
      rw [hlm] at HSN
      have D := Lib.hid D0
      clear hmr D0 hmem hcl hs0 hf hlm
      go_upto_region 6 with (go_at_call 30; (with_reducible refine (D.out).mono ?_); rintro e w5 ⟨cm, rfl, hm, h5⟩; have h6 := h5.alloc (cmO cm))
      obtain ⟨ck, ct, cc, cv, cd⟩ := cm
      have HM := Lib.hid hm
      clear D hs d0 hm h5
      generalize w5.alloc (cmO ⟨ck, ct, cc, cv, cd⟩) = w6 at *
      generalize w5.heap.size = o6 at *
      cases mr with
      | none =>
        have HN : Hid (firstR l ((F.drop (i + 1)).map FrM.p) = res) := by unfold Hid; rw [← HS.out, HSN.out]; rfl
        clear HS HSN HM
        go_wp2_with fail
        go_roundw
        case rel => exact ⟨i + 1, by omega, by go_num, HN, h6.drop⟩
        case measure => simp [intOf]; omega
      | some c9 =>
        have HN : Hid (res = some ⟨fk, ct, cc, cv, cd⟩) := by
          unfold Hid
          have hc9 := HM.out c9 rfl
          rw [← HS.out, HSN.out, ← hc9]; rfl
        clear HS HSN HM
        have h7 := h6.alloc (.cells #[.int .i64 1, .int .i64 1, .int .i64 2, .int .i64 3, .int .i64 4, .int .i64 4, .int .i64 5] 3)
        have hi7 : i < 7 := by
          have := (List.getElem?_eq_some_iff.1 HKI.out).1
          exact this
        have hi7' : (i : Int) < 7 := by omega
        have hki : (w6.alloc (.cells #[.int .i64 1, .int .i64 1, .int .i64 2, .int .i64 3, .int .i64 4, .int .i64 4, .int .i64 5] 3)).cell? ⟨w6.heap.size, i, none⟩ = some (.int .i64 fk) := by
          rw [h7.cell i]
          have hk := HKI.out
          have h8 : i = 0 ∨ i = 1 ∨ i = 2 ∨ i = 3 ∨ i = 4 ∨ i = 5 ∨ i = 6 := by omega
          rcases h8 with rfl | rfl | rfl | rfl | rfl | rfl | rfl
          all_goals
            cases hk
            rfl
        have m0' : (w6.alloc (.cells #[.int .i64 1, .int .i64 1, .int .i64 2, .int .i64 3, .int .i64 4, .int .i64 4, .int .i64 5] 3)).cell? ⟨o6, 0, none⟩ = some (.int .i64 ck) := h7.swap.cell 0
        have f0' := h7.swap.frozen 0
        have hx0 := h7.swap.set 0 (.int .i64 fk)
        go_upto_region 8 with fail
        generalize w6.alloc (.cells #[.int .i64 1, .int .i64 1, .int .i64 2, .int .i64 3, .int .i64 4, .int .i64 4, .int .i64 5] 3) = w7 at *
        generalize w7.setCell ⟨o6, 0, none⟩ (.int .i64 fk) = wz at *
        obtain ⟨ck2, hck2⟩ : ∃ ck2, ck2 = fk := ⟨_, rfl⟩
        have hs : Sat k wz (blk o6 (cmO ⟨fk, ct, cc, cv, cd⟩) * (blk o4 (cmO ⟨0, ⟨#[]⟩, 0, 0, false⟩) * R)) := by
          have q : Sat k wz (blk o6 (cmO ⟨fk, ct, cc, cv, cd⟩) * (blk w6.heap.size (.cells #[.int .i64 1, .int .i64 1, .int .i64 2, .int .i64 3, .int .i64 4, .int .i64 4, .int .i64 5] 3 (0, 0)) * (WsO (.slice (some ⟨g, 0, none⟩) F.length c) F * (blk o4 (cmO cmZ) * R)))) := by rw [HBE.out] at hx0; exact hx0
          exact q.swap.drop.swap.drop
        clear h6 h7 hki m0' f0' hx0 hi7 hi7' hck2
        (
          have m0 : wz.cell? ⟨o6, 0, none⟩ = some (.int .i64 fk) := hs.cell 0
          have m1 : wz.cell? ⟨o6, 1, none⟩ = some (.string ct) := hs.cell 1
          have m2 : wz.cell? ⟨o6, 2, none⟩ = some (.int .i64 cc) := hs.cell 2
          have m3 : wz.cell? ⟨o6, 3, none⟩ = some (.int .i64 cv) := hs.cell 3
          have m4 : wz.cell? ⟨o6, 4, none⟩ = some (.bool cd) := hs.cell 4
          have e0 : wz.cell? ⟨o4, 0, none⟩ = some (.int .i64 0) := hs.swap.cell 0
          have e1 : wz.cell? ⟨o4, 1, none⟩ = some (.string ⟨#[]⟩) := hs.swap.cell 1
          have e2 : wz.cell? ⟨o4, 2, none⟩ = some (.int .i64 0) := hs.swap.cell 2
          have e3 : wz.cell? ⟨o4, 3, none⟩ = some (.int .i64 0) := hs.swap.cell 3
          have e4 : wz.cell? ⟨o4, 4, none⟩ = some (.bool false) := hs.swap.cell 4
          have f0 := hs.swap.frozen 0
          have f1 := hs.swap.frozen 1
          have f2 := hs.swap.frozen 2
          have f3 := hs.swap.frozen 3
          have f4 := hs.swap.frozen 4
          go_wp2_with fail
          have hx := cmd_set fk ct cc cv cd hs.swap
          generalize ((((wz.setCell ⟨o4, 0, none⟩ (.int .i64 fk)).setCell ⟨o4, 1, none⟩ (.string ct)).setCell ⟨o4, 2, none⟩ (.int .i64 cc)).setCell ⟨o4, 3, none⟩ (.int .i64 cv)).setCell ⟨o4, 4, none⟩ (.bool cd) = w9 at *
          clear m0 m1 m2 m3 m4 e0 e1 e2 e3 e4 f0 f1 f2 f3 f4 hs
          have g0 : w9.cell? ⟨o4, 0, none⟩ = some (.int .i64 fk) := hx.cell 0
          have g1 : w9.cell? ⟨o4, 1, none⟩ = some (.string ct) := hx.cell 1
          have g2 : w9.cell? ⟨o4, 2, none⟩ = some (.int .i64 cc) := hx.cell 2
          have g3 : w9.cell? ⟨o4, 3, none⟩ = some (.int .i64 cv) := hx.cell 3
          have g4 : w9.cell? ⟨o4, 4, none⟩ = some (.bool cd) := hx.cell 4)
        refine bodyPost_ret (v := .tuple #[.agg #[.int .i64 fk, .string ct, .int .i64 cc, .int .i64 cv, .bool cd], .bool true]) (by simp [results, Try.results11, go_sem, g0, g1, g2, g3, g4]) rfl ?_
        exact HQ.out ⟨fk, ct, cc, cv, cd⟩ w9 true _ (by rw [HN.out]; rfl) (by rw [HN.out]; rfl) hx.drop.drop rfl
    · obtain rfl : i = F.length := by omega
      have HN : Hid (res = none) := by unfold Hid; rw [← HS.out, List.drop_eq_nil_of_le (Nat.le_refl _)]; rfl
      have h8 := (HBB.out hs).drop
      clear HS hs
      obtain ⟨wz, rfl⟩ : ∃ wz, wz = wr := ⟨_, rfl⟩
      have hs := h8
      clear h8
      (
        have e0 : wz.cell? ⟨o4, 0, none⟩ = some (.int .i64 0) := hs.cell 0
        have e1 : wz.cell? ⟨o4, 1, none⟩ = some (.string ⟨#[]⟩) := hs.cell 1
        have e2 : wz.cell? ⟨o4, 2, none⟩ = some (.int .i64 0) := hs.cell 2
        have e3 : wz.cell? ⟨o4, 3, none⟩ = some (.int .i64 0) := hs.cell 3
        have e4 : wz.cell? ⟨o4, 4, none⟩ = some (.bool false) := hs.cell 4
        have f0 := hs.frozen 0
        have f1 := hs.frozen 1
        have f2 := hs.frozen 2
        have f3 := hs.frozen 3
        have f4 := hs.frozen 4
        go_wp2_with fail
        have hx := cmd_set 0 ⟨#[]⟩ 0 0 false hs
        generalize ((((wz.setCell ⟨o4, 0, none⟩ (.int .i64 0)).setCell ⟨o4, 1, none⟩ (.string ⟨#[]⟩)).setCell ⟨o4, 2, none⟩ (.int .i64 0)).setCell ⟨o4, 3, none⟩ (.int .i64 0)).setCell ⟨o4, 4, none⟩ (.bool false) = w9 at *
        clear e0 e1 e2 e3 e4 f0 f1 f2 f3 f4 hs
        have g0 : w9.cell? ⟨o4, 0, none⟩ = some (.int .i64 0) := hx.cell 0
        have g1 : w9.cell? ⟨o4, 1, none⟩ = some (.string ⟨#[]⟩) := hx.cell 1
        have g2 : w9.cell? ⟨o4, 2, none⟩ = some (.int .i64 0) := hx.cell 2
        have g3 : w9.cell? ⟨o4, 3, none⟩ = some (.int .i64 0) := hx.cell 3
        have g4 : w9.cell? ⟨o4, 4, none⟩ = some (.bool false) := hx.cell 4)
      refine bodyPost_ret (v := .tuple #[.agg #[.int .i64 0, .string ⟨#[]⟩, .int .i64 0, .int .i64 0, .bool false], .bool false]) (by simp [results, Try.results11, go_sem, g0, g1, g2, g3, g4]; try rfl) rfl ?_
      exact HQ.out cmZ w9 false _ (by rw [HN.out]; rfl) (by rw [HN.out]; rfl) hx.drop rfl
end Go.Proofs.Ytoeepbjnbgpmpaa
