/- The document's state: like. -/
import Derived.Test.YtoeepbjnbgpmpaaStMt
namespace Go.Proofs.Ytoeepbjnbgpmpaa
set_option linter.all false
open Go Go.RowKit

/-- As setW, but that a key makes it keyed. -/
def setD (w : ByteArray) (x : Tok) (c : CmdM) : CmdM :=
  if w = cT then { c with tb := x.t } else if w = cK then { c with kk := (numV (bl x.t) : Int), kd := true } else if w = cV then { c with vv := (numV (bl x.t) : Int) } else c
def runD : List ByteArray → List Tok → CmdM → Option CmdM
  | [], _, c => some c
  | _ :: _, [], _ => none
  | w :: ws, x :: l, c => if okW w x = true then runD ws l (setD w x c) else none
def likeR (ws : List ByteArray) (l : List Tok) : Option CmdM :=
  if l.length = ws.length then runD ws l ⟨0, ⟨#[]⟩, 0, 0, false⟩ else none
theorem runD_drop (ws : List ByteArray) (l : List Tok) (j : Nat) (c : CmdM) (hw : j < ws.length) (hl : j < l.length) : runD (ws.drop j) (l.drop j) c = if okW ws[j] l[j] = true then runD (ws.drop (j + 1)) (l.drop (j + 1)) (setD ws[j] l[j] c) else none := by
  rw [List.drop_eq_getElem_cons hw, List.drop_eq_getElem_cons hl, runD]
/-- A form's word begins with a sign, a great or a small letter. -/
def FirstP (s : ByteArray) : Prop := ∃ c r, bl s = c :: r ∧ c.toNat ≤ 122


set_option maxRecDepth 100000 in
set_option maxHeartbeats 8000000 in
theorem like_any (k : Env) (w : World) (R : Assn) (fa : Option Addr) (fc : Nat) (ws : List ByteArray) (a : Option Addr) (cap : Nat) (l : List Tok) (hw : Rd k R fa ws) (hr : RdT k R a l) (hwl : ws.length ≤ 1000) (hww : ∀ s ∈ ws, FirstP s) (hl : l.length ≤ 1000000) (hT : ∀ x ∈ l, x.t.size ≤ 100000) (h : Sat k w R) :
    Calls Try.prog 30 #[.slice a l.length cap, .slice fa ws.length fc] w fun e w' => MatQ k (likeR ws l) R e w' := by
  obtain ⟨res, hres⟩ : ∃ res, likeR ws l = res := ⟨_, rfl⟩
  rw [hres]
  unfold likeR at hres
  have h1 := h.alloc (cmO ⟨0, ⟨#[]⟩, 0, 0, false⟩)
  have h2 := h1.alloc (cmO ⟨0, ⟨#[]⟩, 0, 0, false⟩)
  have hz1 : (w.alloc (cmO ⟨0, ⟨#[]⟩, 0, 0, false⟩)).heap.size = w.heap.size + 1 := by simp
  rw [hz1] at h2
  have HQ : Hid (∀ (c : CmdM) (w' : World) (b : Bool) (e : Ending), b = res.isSome → MaP res c → Sat k w' R → e = .returned (.tuple #[cmV c, .bool b]) → MatQ k res R e w') := by
    intro c w' b e hb hm hs he
    exact ⟨c, by rw [he, hb], hm, hs⟩
  have HRES := Lib.hid hres
  have HW := Lib.hid hw
  have HT := Lib.hid hr
  have HTS := Lib.hid hT
  have HWW := Lib.hid hww
  clear h hres hw hr hT hww h1 hz1
  go_enter Try.func30, Try.ntmps30
  go_upto_region 2 with fail
  generalize (w.alloc (cmO ⟨0, ⟨#[]⟩, 0, 0, false⟩)).alloc (cmO ⟨0, ⟨#[]⟩, 0, 0, false⟩) = w3 at *
  generalize w.heap.size + 1 = o6 at *
  generalize w.heap.size = o4 at *
  by_cases hlen : l.length = ws.length
  · have hl1 : ((l.length : Int) == ws.length) = true := by simp [hlen]
    have hl2 : ((l.length : Int) != ws.length) = false := by simp [hlen]
    have HL := Lib.hid hlen
    have HX : Hid (runD (ws.drop 0) (l.drop 0) ⟨0, ⟨#[]⟩, 0, 0, false⟩ = res) := by
      unfold Hid
      rw [← HRES.out, if_pos hlen]; rfl
    clear hlen HRES
    go_wp2_with fail
    go_loopw [7] (fun s7 wr => ∃ (j : Nat) (c : CmdM), j ≤ l.length ∧ s7 = .int .i64 j ∧ Hid (runD (ws.drop j) (l.drop j) c = res) ∧ Sat k wr (blk o6 (cmO c) * (blk o4 (cmO ⟨0, ⟨#[]⟩, 0, 0, false⟩) * R))) (fun s7 _ => l.length - (intOf s7).toNat)
    case atStart => exact ⟨0, _, Nat.zero_le _, rfl, HX, h2⟩
    case round =>
      clear h2 HX
      obtain ⟨j, c, hj, rfl, HJ, hs⟩ := hrel
      by_cases hjm : j < l.length
      · have hjm' : (j : Int) < l.length := by omega
        have hjl : j < ws.length := by have := HL.out; omega
        have hjl' : (j : Int) < ws.length := by omega
        obtain ⟨gw, ow, rfl, d1⟩ := rd_get HW.out hs.drop.drop j hjl
        obtain ⟨gt, ot, rfl, hgt⟩ := rdt_at HT.out (by rintro rfl; cases hjm)
        have HGT : Hid (∀ {w' : World}, Sat k w' R → w'.cell? ⟨gt, ot + j * 3, none⟩ = some (.int .i64 l[j].k) ∧ w'.cell? ⟨gt, ot + j * 3 + 1, none⟩ = some (.string l[j].t) ∧ w'.cell? ⟨gt, ot + j * 3 + 2, none⟩ = some (.int .i64 l[j].at')) := fun {w'} q => hgt w' q j hjm
        have hxs := HTS.out l[j] (List.getElem_mem hjm)
        have HFI := Lib.hid (HWW.out ws[j] (List.getElem_mem hjl))
        have HST := Lib.hid (runD_drop ws l j c hjl hjm)
        clear hgt
        generalize l[j] = x at *
        generalize ws[j] = ww at *
        have q5 := tl_T ww
        have q6 := tl_K ww
        have q7 := tl_V ww
        have q8 := tl_1 ww
        obtain ⟨t0, t1, t2⟩ := HGT.out hs.drop.drop
        by_cases hT : ww = cT
        · rw [decide_eq_true hT] at q5
          have HSE : Hid (setD ww x c = { c with tb := x.t }) := if_pos hT
          have hokk : okW ww x = (decide (x.k = 1) && nameB x.t) := if_pos hT
          clear hT q6 q7 q8
          by_cases hk : x.k = 1
          · have hk1 : ((x.k : Int) == 1) = true := by simp [hk]
            have hk2 : ((x.k : Int) != 1) = false := by simp [hk]
            rw [decide_eq_true hk, Bool.true_and] at hokk
            obtain ⟨nb, hnb⟩ : ∃ nb, nameB x.t = nb := ⟨_, rfl⟩
            have D0 := name8_any k wr _ x.t hxs hs
            rw [hnb] at D0 hokk
            have D := Lib.hid D0
            have HOK := Lib.hid hokk
            clear hk hnb D0 hokk
            cases nb with
            | true =>
              (
                have HN : Hid (runD (ws.drop (j + 1)) (l.drop (j + 1)) (setD ww x c) = res) := by unfold Hid; rw [← HJ.out, HST.out, if_pos (by rw [HOK.out])])
              clear HJ HST HOK
              go_wp2_with (go_at_call 34; (with_reducible refine (D.out).mono ?_); rintro e w4 ⟨rfl, h4⟩; obtain ⟨t0', t1', t2'⟩ := HGT.out h4.drop.drop; have m1' : w4.cell? ⟨o6, 1, none⟩ = some (.string c.tb) := h4.cell 1; have f1' := h4.frozen 1)
              have hx := h4.set 1 (.string x.t)
              go_roundw
              case rel => exact ⟨j + 1, _, by omega, by go_num, HN, by rw [HSE.out]; exact hx⟩
              case measure => simp [intOf]; omega
            | false =>
              (
                have HN : Hid (res = none) := by unfold Hid; rw [← HJ.out, HST.out, if_neg (by rw [HOK.out]; decide)])
              clear HJ HST HOK
              go_upto_region 15 with (go_at_call 34; (with_reducible refine (D.out).mono ?_); rintro e w4 ⟨rfl, h4⟩)
              obtain ⟨wz, rfl⟩ : ∃ wz, wz = w4 := ⟨_, rfl⟩
              clear hs t0 t1 t2
              have hs := h4
              clear h4
              (
                have e0 : wz.cell? ⟨o4, 0, none⟩ = some (.int .i64 0) := hs.swap.cell 0
                have e1 : wz.cell? ⟨o4, 1, none⟩ = some (.string ⟨#[]⟩) := hs.swap.cell 1
                have e2 : wz.cell? ⟨o4, 2, none⟩ = some (.int .i64 0) := hs.swap.cell 2
                have e3 : wz.cell? ⟨o4, 3, none⟩ = some (.int .i64 0) := hs.swap.cell 3
                have e4 : wz.cell? ⟨o4, 4, none⟩ = some (.bool false) := hs.swap.cell 4
                have f0 := hs.swap.frozen 0
                have f1 := hs.swap.frozen 1
                have f2 := hs.swap.frozen 2
                have f3 := hs.swap.frozen 3
                have f4 := hs.swap.frozen 4
                go_wp2_with fail
                have hx := cmd_set 0 ⟨#[]⟩ 0 0 false hs.swap
                generalize ((((wz.setCell ⟨o4, 0, none⟩ (.int .i64 0)).setCell ⟨o4, 1, none⟩ (.string ⟨#[]⟩)).setCell ⟨o4, 2, none⟩ (.int .i64 0)).setCell ⟨o4, 3, none⟩ (.int .i64 0)).setCell ⟨o4, 4, none⟩ (.bool false) = w9 at *
                clear e0 e1 e2 e3 e4 f0 f1 f2 f3 f4 hs
                have g0 : w9.cell? ⟨o4, 0, none⟩ = some (.int .i64 0) := hx.cell 0
                have g1 : w9.cell? ⟨o4, 1, none⟩ = some (.string ⟨#[]⟩) := hx.cell 1
                have g2 : w9.cell? ⟨o4, 2, none⟩ = some (.int .i64 0) := hx.cell 2
                have g3 : w9.cell? ⟨o4, 3, none⟩ = some (.int .i64 0) := hx.cell 3
                have g4 : w9.cell? ⟨o4, 4, none⟩ = some (.bool false) := hx.cell 4
                refine bodyPost_ret (v := .tuple #[.agg #[.int .i64 0, .string ⟨#[]⟩, .int .i64 0, .int .i64 0, .bool false], .bool false]) (by simp [results, Try.results30, go_sem, g0, g1, g2, g3, g4]; try rfl) rfl ?_
                exact HQ.out ⟨0, ⟨#[]⟩, 0, 0, false⟩ w9 false _ (by rw [HN.out]; rfl) (by rw [HN.out]; exact maP_none _) hx.drop.drop rfl)
          · have hk1 : ((x.k : Int) == 1) = false := by simp [hk]
            have hk2 : ((x.k : Int) != 1) = true := by simp [hk]
            have HOK : Hid (okW ww x = false) := by unfold Hid; rw [hokk, decide_eq_false hk]; rfl
            (
              have HN : Hid (res = none) := by unfold Hid; rw [← HJ.out, HST.out, if_neg (by rw [HOK.out]; decide)])
            clear HJ HST HOK hk hokk
            obtain ⟨wz, rfl⟩ : ∃ wz, wz = wr := ⟨_, rfl⟩
            (
              have e0 : wz.cell? ⟨o4, 0, none⟩ = some (.int .i64 0) := hs.swap.cell 0
              have e1 : wz.cell? ⟨o4, 1, none⟩ = some (.string ⟨#[]⟩) := hs.swap.cell 1
              have e2 : wz.cell? ⟨o4, 2, none⟩ = some (.int .i64 0) := hs.swap.cell 2
              have e3 : wz.cell? ⟨o4, 3, none⟩ = some (.int .i64 0) := hs.swap.cell 3
              have e4 : wz.cell? ⟨o4, 4, none⟩ = some (.bool false) := hs.swap.cell 4
              have f0 := hs.swap.frozen 0
              have f1 := hs.swap.frozen 1
              have f2 := hs.swap.frozen 2
              have f3 := hs.swap.frozen 3
              have f4 := hs.swap.frozen 4
              go_wp2_with fail
              have hx := cmd_set 0 ⟨#[]⟩ 0 0 false hs.swap
              generalize ((((wz.setCell ⟨o4, 0, none⟩ (.int .i64 0)).setCell ⟨o4, 1, none⟩ (.string ⟨#[]⟩)).setCell ⟨o4, 2, none⟩ (.int .i64 0)).setCell ⟨o4, 3, none⟩ (.int .i64 0)).setCell ⟨o4, 4, none⟩ (.bool false) = w9 at *
              clear e0 e1 e2 e3 e4 f0 f1 f2 f3 f4 hs
              have g0 : w9.cell? ⟨o4, 0, none⟩ = some (.int .i64 0) := hx.cell 0
              have g1 : w9.cell? ⟨o4, 1, none⟩ = some (.string ⟨#[]⟩) := hx.cell 1
              have g2 : w9.cell? ⟨o4, 2, none⟩ = some (.int .i64 0) := hx.cell 2
              have g3 : w9.cell? ⟨o4, 3, none⟩ = some (.int .i64 0) := hx.cell 3
              have g4 : w9.cell? ⟨o4, 4, none⟩ = some (.bool false) := hx.cell 4
              refine bodyPost_ret (v := .tuple #[.agg #[.int .i64 0, .string ⟨#[]⟩, .int .i64 0, .int .i64 0, .bool false], .bool false]) (by simp [results, Try.results30, go_sem, g0, g1, g2, g3, g4]; try rfl) rfl ?_
              exact HQ.out ⟨0, ⟨#[]⟩, 0, 0, false⟩ w9 false _ (by rw [HN.out]; rfl) (by rw [HN.out]; exact maP_none _) hx.drop.drop rfl)
        · rw [decide_eq_false hT] at q5
          by_cases hK : ww = cK
          · rw [decide_eq_true hK] at q6
            have hokk : okW ww x = numB x := by unfold okW; rw [if_neg hT, if_pos hK]
            have HSE : Hid (setD ww x c = { c with kk := (numV (bl x.t) : Int), kd := true }) := by unfold Hid setD; rw [if_neg hT, if_pos hK]
            have D0 := digits_any k wr _ x (by omega) hs
            clear hT hK q7 q8
            cases hnb : numB x with
            | true =>
              have HOK : Hid (okW ww x = true) := by rw [hokk, hnb]; rfl
              have hdv : digV x = (numV (bl x.t) : Int) := by unfold digV; rw [if_pos hnb]
              (
                have HN : Hid (runD (ws.drop (j + 1)) (l.drop (j + 1)) (setD ww x c) = res) := by unfold Hid; rw [← HJ.out, HST.out, if_pos (by rw [HOK.out])])
              rw [HSE.out] at HN
              rw [hdv] at D0
              obtain ⟨nv, hnv⟩ : ∃ nv, numV (bl x.t) = nv := ⟨_, rfl⟩
              rw [hnv] at D0 HN
              have D := Lib.hid D0
              clear HJ HST HOK D0 hdv hnb hokk HSE hnv
              go_upto_region 20 with (go_at_call 51; (with_reducible refine (D.out).mono ?_); rintro e w4 ⟨rfl, h4⟩; have m2 : w4.cell? ⟨o6, 2, none⟩ = some (.int .i64 c.kk) := h4.cell 2; have f2 := h4.frozen 2; have hy := h4.set 2 (.int .i64 (nv : Int)); have m4 : (w4.setCell ⟨o6, 2, none⟩ (.int .i64 (nv : Int))).cell? ⟨o6, 4, none⟩ = some (.bool c.kd) := hy.cell 4; have f4 := hy.frozen 4)
              have hx := hy.set 4 (.bool true)
              generalize (w4.setCell ⟨o6, 2, none⟩ (.int .i64 (nv : Int))).setCell ⟨o6, 4, none⟩ (.bool true) = w7 at *
              have m5 : w7.cell? ⟨o6, 2, none⟩ = some (.int .i64 (nv : Int)) := hx.cell 2
              have n0 : ¬ (nv : Int) < 0 := by omega
              clear hy m2 m4 f2 f4 h4
              go_wp2_with fail
              go_roundw
              case rel => exact ⟨j + 1, _, by omega, by go_num, HN, hx⟩
              case measure => simp [intOf]; omega
            | false =>
              have HOK : Hid (okW ww x = false) := by rw [hokk, hnb]; rfl
              have hdv : digV x = -1 := by unfold digV; rw [if_neg (by rw [hnb]; decide)]
              (
                have HN : Hid (res = none) := by unfold Hid; rw [← HJ.out, HST.out, if_neg (by rw [HOK.out]; decide)])
              rw [hdv] at D0
              have D := Lib.hid D0
              clear HJ HST HOK D0 hdv hnb hokk HSE
              go_upto_region 20 with (go_at_call 51; (with_reducible refine (D.out).mono ?_); rintro e w4 ⟨rfl, h4⟩; have m2 : w4.cell? ⟨o6, 2, none⟩ = some (.int .i64 c.kk) := h4.cell 2; have f2 := h4.frozen 2; have hy := h4.set 2 (.int .i64 (-1)); have m4 : (w4.setCell ⟨o6, 2, none⟩ (.int .i64 (-1))).cell? ⟨o6, 4, none⟩ = some (.bool c.kd) := hy.cell 4; have f4 := hy.frozen 4)
              have hx0 := hy.set 4 (.bool true)
              generalize (w4.setCell ⟨o6, 2, none⟩ (.int .i64 (-1))).setCell ⟨o6, 4, none⟩ (.bool true) = wz at *
              have m5 : wz.cell? ⟨o6, 2, none⟩ = some (.int .i64 (-1)) := hx0.cell 2
              clear hy m2 m4 f2 f4 h4 hs t0 t1 t2
              have hs := hx0
              clear hx0
              (
                have e0 : wz.cell? ⟨o4, 0, none⟩ = some (.int .i64 0) := hs.swap.cell 0
                have e1 : wz.cell? ⟨o4, 1, none⟩ = some (.string ⟨#[]⟩) := hs.swap.cell 1
                have e2 : wz.cell? ⟨o4, 2, none⟩ = some (.int .i64 0) := hs.swap.cell 2
                have e3 : wz.cell? ⟨o4, 3, none⟩ = some (.int .i64 0) := hs.swap.cell 3
                have e4 : wz.cell? ⟨o4, 4, none⟩ = some (.bool false) := hs.swap.cell 4
                have f0 := hs.swap.frozen 0
                have f1 := hs.swap.frozen 1
                have f2 := hs.swap.frozen 2
                have f3 := hs.swap.frozen 3
                have f4 := hs.swap.frozen 4
                go_wp2_with fail
                have hx := cmd_set 0 ⟨#[]⟩ 0 0 false hs.swap
                generalize ((((wz.setCell ⟨o4, 0, none⟩ (.int .i64 0)).setCell ⟨o4, 1, none⟩ (.string ⟨#[]⟩)).setCell ⟨o4, 2, none⟩ (.int .i64 0)).setCell ⟨o4, 3, none⟩ (.int .i64 0)).setCell ⟨o4, 4, none⟩ (.bool false) = w9 at *
                clear e0 e1 e2 e3 e4 f0 f1 f2 f3 f4 hs
                have g0 : w9.cell? ⟨o4, 0, none⟩ = some (.int .i64 0) := hx.cell 0
                have g1 : w9.cell? ⟨o4, 1, none⟩ = some (.string ⟨#[]⟩) := hx.cell 1
                have g2 : w9.cell? ⟨o4, 2, none⟩ = some (.int .i64 0) := hx.cell 2
                have g3 : w9.cell? ⟨o4, 3, none⟩ = some (.int .i64 0) := hx.cell 3
                have g4 : w9.cell? ⟨o4, 4, none⟩ = some (.bool false) := hx.cell 4
                refine bodyPost_ret (v := .tuple #[.agg #[.int .i64 0, .string ⟨#[]⟩, .int .i64 0, .int .i64 0, .bool false], .bool false]) (by simp [results, Try.results30, go_sem, g0, g1, g2, g3, g4]; try rfl) rfl ?_
                exact HQ.out ⟨0, ⟨#[]⟩, 0, 0, false⟩ w9 false _ (by rw [HN.out]; rfl) (by rw [HN.out]; exact maP_none _) hx.drop.drop rfl)
          · rw [decide_eq_false hK] at q6
            by_cases hV : ww = cV
            · rw [decide_eq_true hV] at q7
              have hokk : okW ww x = numB x := by unfold okW; rw [if_neg hT, if_neg hK, if_pos hV]
              have HSE : Hid (setD ww x c = { c with vv := (numV (bl x.t) : Int) }) := by unfold Hid setD; rw [if_neg hT, if_neg hK, if_pos hV]
              have D0 := digits_any k wr _ x (by omega) hs
              clear hT hK hV q8
              cases hnb : numB x with
              | true =>
                have HOK : Hid (okW ww x = true) := by rw [hokk, hnb]; rfl
                have hdv : digV x = (numV (bl x.t) : Int) := by unfold digV; rw [if_pos hnb]
                (
                  have HN : Hid (runD (ws.drop (j + 1)) (l.drop (j + 1)) (setD ww x c) = res) := by unfold Hid; rw [← HJ.out, HST.out, if_pos (by rw [HOK.out])])
                rw [HSE.out] at HN
                rw [hdv] at D0
                obtain ⟨nv, hnv⟩ : ∃ nv, numV (bl x.t) = nv := ⟨_, rfl⟩
                rw [hnv] at D0 HN
                have D := Lib.hid D0
                clear HJ HST HOK D0 hdv hnb hokk HSE hnv
                go_upto_region 24 with (go_at_call 51; (with_reducible refine (D.out).mono ?_); rintro e w4 ⟨rfl, h4⟩; have m2 : w4.cell? ⟨o6, 3, none⟩ = some (.int .i64 c.vv) := h4.cell 3; have f2 := h4.frozen 3)
                have hx := h4.set 3 (.int .i64 (nv : Int))
                generalize w4.setCell ⟨o6, 3, none⟩ (.int .i64 (nv : Int)) = w7 at *
                have m5 : w7.cell? ⟨o6, 3, none⟩ = some (.int .i64 (nv : Int)) := hx.cell 3
                have n0 : ¬ (nv : Int) < 0 := by omega
                clear m2 f2 h4
                go_wp2_with fail
                go_roundw
                case rel => exact ⟨j + 1, _, by omega, by go_num, HN, hx⟩
                case measure => simp [intOf]; omega
              | false =>
                have HOK : Hid (okW ww x = false) := by rw [hokk, hnb]; rfl
                have hdv : digV x = -1 := by unfold digV; rw [if_neg (by rw [hnb]; decide)]
                (
                  have HN : Hid (res = none) := by unfold Hid; rw [← HJ.out, HST.out, if_neg (by rw [HOK.out]; decide)])
                rw [hdv] at D0
                have D := Lib.hid D0
                clear HJ HST HOK D0 hdv hnb hokk HSE
                go_upto_region 24 with (go_at_call 51; (with_reducible refine (D.out).mono ?_); rintro e w4 ⟨rfl, h4⟩; have m2 : w4.cell? ⟨o6, 3, none⟩ = some (.int .i64 c.vv) := h4.cell 3; have f2 := h4.frozen 3)
                have hx0 := h4.set 3 (.int .i64 (-1))
                generalize w4.setCell ⟨o6, 3, none⟩ (.int .i64 (-1)) = wz at *
                have m5 : wz.cell? ⟨o6, 3, none⟩ = some (.int .i64 (-1)) := hx0.cell 3
                clear m2 f2 h4 hs t0 t1 t2
                have hs := hx0
                clear hx0
                (
                  have e0 : wz.cell? ⟨o4, 0, none⟩ = some (.int .i64 0) := hs.swap.cell 0
                  have e1 : wz.cell? ⟨o4, 1, none⟩ = some (.string ⟨#[]⟩) := hs.swap.cell 1
                  have e2 : wz.cell? ⟨o4, 2, none⟩ = some (.int .i64 0) := hs.swap.cell 2
                  have e3 : wz.cell? ⟨o4, 3, none⟩ = some (.int .i64 0) := hs.swap.cell 3
                  have e4 : wz.cell? ⟨o4, 4, none⟩ = some (.bool false) := hs.swap.cell 4
                  have f0 := hs.swap.frozen 0
                  have f1 := hs.swap.frozen 1
                  have f2 := hs.swap.frozen 2
                  have f3 := hs.swap.frozen 3
                  have f4 := hs.swap.frozen 4
                  go_wp2_with fail
                  have hx := cmd_set 0 ⟨#[]⟩ 0 0 false hs.swap
                  generalize ((((wz.setCell ⟨o4, 0, none⟩ (.int .i64 0)).setCell ⟨o4, 1, none⟩ (.string ⟨#[]⟩)).setCell ⟨o4, 2, none⟩ (.int .i64 0)).setCell ⟨o4, 3, none⟩ (.int .i64 0)).setCell ⟨o4, 4, none⟩ (.bool false) = w9 at *
                  clear e0 e1 e2 e3 e4 f0 f1 f2 f3 f4 hs
                  have g0 : w9.cell? ⟨o4, 0, none⟩ = some (.int .i64 0) := hx.cell 0
                  have g1 : w9.cell? ⟨o4, 1, none⟩ = some (.string ⟨#[]⟩) := hx.cell 1
                  have g2 : w9.cell? ⟨o4, 2, none⟩ = some (.int .i64 0) := hx.cell 2
                  have g3 : w9.cell? ⟨o4, 3, none⟩ = some (.int .i64 0) := hx.cell 3
                  have g4 : w9.cell? ⟨o4, 4, none⟩ = some (.bool false) := hx.cell 4
                  refine bodyPost_ret (v := .tuple #[.agg #[.int .i64 0, .string ⟨#[]⟩, .int .i64 0, .int .i64 0, .bool false], .bool false]) (by simp [results, Try.results30, go_sem, g0, g1, g2, g3, g4]; try rfl) rfl ?_
                  exact HQ.out ⟨0, ⟨#[]⟩, 0, 0, false⟩ w9 false _ (by rw [HN.out]; rfl) (by rw [HN.out]; exact maP_none _) hx.drop.drop rfl)
            · rw [decide_eq_false hV] at q7
              have hokk : okW ww x = (decide (x.k = kindW ww) && decide (x.t = ww)) := by unfold okW; rw [if_neg hT, if_neg hK, if_neg hV]
              have hsee : setD ww x c = c := by unfold setD; rw [if_neg hT, if_neg hK, if_neg hV]
              have u2 : (x.t.toList == ww.toList) = decide (x.t = ww) := tl_beq _ _
              have u3 : (x.t.toList != ww.toList) = !decide (x.t = ww) := by rw [bne, u2]
              by_cases h1 : ww = c1W
              · rw [decide_eq_true h1] at q8
                have hkw : kindW ww = 4 := if_pos h1
                have v2 : (x.t.toList == [49]) = decide (x.t = ww) := by rw [tl_1, h1]
                have v3 : (x.t.toList != [49]) = !decide (x.t = ww) := by rw [bne, v2]
                rw [hkw] at hokk
                have k1 : ((x.k : Int) == 4) = decide (x.k = 4) := by rw [Bool.eq_iff_iff]; simp
                have k2 : ((x.k : Int) != 4) = !decide (x.k = 4) := by rw [bne, k1]
                have HSE := Lib.hid hsee
                generalize decide (x.k = 4) = b1 at *
                generalize decide (x.t = ww) = b2 at *
                have HOKB := Lib.hid hokk
                clear hT hK hV h1 hkw hokk hsee
                cases b1 with
                | true =>
                  cases b2 with
                  | true =>
                    have HOK : Hid (okW ww x = true) := HOKB.out
                    (
                      have HN : Hid (runD (ws.drop (j + 1)) (l.drop (j + 1)) (setD ww x c) = res) := by unfold Hid; rw [← HJ.out, HST.out, if_pos (by rw [HOK.out])])
                    rw [HSE.out] at HN
                    clear HJ HST HOK HOKB HSE
                    go_wp2_with fail
                    go_roundw
                    case rel => exact ⟨j + 1, c, by omega, by go_num, HN, hs⟩
                    case measure => simp [intOf]; omega
                  | false =>
                    have HOK : Hid (okW ww x = false) := HOKB.out
                    (
                      have HN : Hid (res = none) := by unfold Hid; rw [← HJ.out, HST.out, if_neg (by rw [HOK.out]; decide)])
                    clear HJ HST HOK HOKB HSE
                    obtain ⟨wz, rfl⟩ : ∃ wz, wz = wr := ⟨_, rfl⟩
                    (
                      have e0 : wz.cell? ⟨o4, 0, none⟩ = some (.int .i64 0) := hs.swap.cell 0
                      have e1 : wz.cell? ⟨o4, 1, none⟩ = some (.string ⟨#[]⟩) := hs.swap.cell 1
                      have e2 : wz.cell? ⟨o4, 2, none⟩ = some (.int .i64 0) := hs.swap.cell 2
                      have e3 : wz.cell? ⟨o4, 3, none⟩ = some (.int .i64 0) := hs.swap.cell 3
                      have e4 : wz.cell? ⟨o4, 4, none⟩ = some (.bool false) := hs.swap.cell 4
                      have f0 := hs.swap.frozen 0
                      have f1 := hs.swap.frozen 1
                      have f2 := hs.swap.frozen 2
                      have f3 := hs.swap.frozen 3
                      have f4 := hs.swap.frozen 4
                      go_wp2_with fail
                      have hx := cmd_set 0 ⟨#[]⟩ 0 0 false hs.swap
                      generalize ((((wz.setCell ⟨o4, 0, none⟩ (.int .i64 0)).setCell ⟨o4, 1, none⟩ (.string ⟨#[]⟩)).setCell ⟨o4, 2, none⟩ (.int .i64 0)).setCell ⟨o4, 3, none⟩ (.int .i64 0)).setCell ⟨o4, 4, none⟩ (.bool false) = w9 at *
                      clear e0 e1 e2 e3 e4 f0 f1 f2 f3 f4 hs
                      have g0 : w9.cell? ⟨o4, 0, none⟩ = some (.int .i64 0) := hx.cell 0
                      have g1 : w9.cell? ⟨o4, 1, none⟩ = some (.string ⟨#[]⟩) := hx.cell 1
                      have g2 : w9.cell? ⟨o4, 2, none⟩ = some (.int .i64 0) := hx.cell 2
                      have g3 : w9.cell? ⟨o4, 3, none⟩ = some (.int .i64 0) := hx.cell 3
                      have g4 : w9.cell? ⟨o4, 4, none⟩ = some (.bool false) := hx.cell 4
                      refine bodyPost_ret (v := .tuple #[.agg #[.int .i64 0, .string ⟨#[]⟩, .int .i64 0, .int .i64 0, .bool false], .bool false]) (by simp [results, Try.results30, go_sem, g0, g1, g2, g3, g4]; try rfl) rfl ?_
                      exact HQ.out ⟨0, ⟨#[]⟩, 0, 0, false⟩ w9 false _ (by rw [HN.out]; rfl) (by rw [HN.out]; exact maP_none _) hx.drop.drop rfl)
                | false =>
                  have HOK : Hid (okW ww x = false) := HOKB.out
                  (
                    have HN : Hid (res = none) := by unfold Hid; rw [← HJ.out, HST.out, if_neg (by rw [HOK.out]; decide)])
                  clear HJ HST HOK HOKB HSE
                  obtain ⟨wz, rfl⟩ : ∃ wz, wz = wr := ⟨_, rfl⟩
                  (
                    have e0 : wz.cell? ⟨o4, 0, none⟩ = some (.int .i64 0) := hs.swap.cell 0
                    have e1 : wz.cell? ⟨o4, 1, none⟩ = some (.string ⟨#[]⟩) := hs.swap.cell 1
                    have e2 : wz.cell? ⟨o4, 2, none⟩ = some (.int .i64 0) := hs.swap.cell 2
                    have e3 : wz.cell? ⟨o4, 3, none⟩ = some (.int .i64 0) := hs.swap.cell 3
                    have e4 : wz.cell? ⟨o4, 4, none⟩ = some (.bool false) := hs.swap.cell 4
                    have f0 := hs.swap.frozen 0
                    have f1 := hs.swap.frozen 1
                    have f2 := hs.swap.frozen 2
                    have f3 := hs.swap.frozen 3
                    have f4 := hs.swap.frozen 4
                    go_wp2_with fail
                    have hx := cmd_set 0 ⟨#[]⟩ 0 0 false hs.swap
                    generalize ((((wz.setCell ⟨o4, 0, none⟩ (.int .i64 0)).setCell ⟨o4, 1, none⟩ (.string ⟨#[]⟩)).setCell ⟨o4, 2, none⟩ (.int .i64 0)).setCell ⟨o4, 3, none⟩ (.int .i64 0)).setCell ⟨o4, 4, none⟩ (.bool false) = w9 at *
                    clear e0 e1 e2 e3 e4 f0 f1 f2 f3 f4 hs
                    have g0 : w9.cell? ⟨o4, 0, none⟩ = some (.int .i64 0) := hx.cell 0
                    have g1 : w9.cell? ⟨o4, 1, none⟩ = some (.string ⟨#[]⟩) := hx.cell 1
                    have g2 : w9.cell? ⟨o4, 2, none⟩ = some (.int .i64 0) := hx.cell 2
                    have g3 : w9.cell? ⟨o4, 3, none⟩ = some (.int .i64 0) := hx.cell 3
                    have g4 : w9.cell? ⟨o4, 4, none⟩ = some (.bool false) := hx.cell 4
                    refine bodyPost_ret (v := .tuple #[.agg #[.int .i64 0, .string ⟨#[]⟩, .int .i64 0, .int .i64 0, .bool false], .bool false]) (by simp [results, Try.results30, go_sem, g0, g1, g2, g3, g4]; try rfl) rfl ?_
                    exact HQ.out ⟨0, ⟨#[]⟩, 0, 0, false⟩ w9 false _ (by rw [HN.out]; rfl) (by rw [HN.out]; exact maP_none _) hx.drop.drop rfl)
              · rw [decide_eq_false h1] at q8
                obtain ⟨ch, rr, hbl, h122⟩ := HFI.out
                have hsz : 0 < ww.size := by rw [← bl_len, hbl]; simp
                have hsz' : (0 : Int) < ww.size := by omega
                have hc0 : ww[0] = ch := by
                  rw [← bl_get ww 0 hsz]
                  simp only [hbl]; rfl
                obtain ⟨kw, hkw⟩ : ∃ kw, kindW ww = kw := ⟨_, rfl⟩
                have hkv : (ch.toNat < 97 ∧ kw = 5) ∨ (¬ ch.toNat < 97 ∧ kw = 1) := by
                  unfold kindW at hkw
                  rw [if_neg h1, hbl] at hkw
                  simp only at hkw
                  by_cases h97 : 97 ≤ ch.toNat
                  · rw [if_pos ⟨h97, h122⟩] at hkw
                    exact .inr ⟨by omega, hkw.symm⟩
                  · rw [if_neg (fun q => h97 q.1)] at hkw
                    exact .inl ⟨by omega, hkw.symm⟩
                rw [hkw] at hokk
                have k1 : ((x.k : Int) == kw) = decide (x.k = kw) := by rw [Bool.eq_iff_iff]; simp
                have k2 : ((x.k : Int) != kw) = !decide (x.k = kw) := by rw [bne, k1]
                have HSE := Lib.hid hsee
                generalize decide (x.k = kw) = b1 at *
                generalize decide (x.t = ww) = b2 at *
                have HOKB := Lib.hid hokk
                clear hT hK hV h1 hkw hokk hsee hbl h122
                rcases hkv with ⟨h97, rfl⟩ | ⟨h97, rfl⟩
                · have e97 : (ch.toNat : Int) < 97 := by omega
                  cases b1 with
                  | true =>
                    cases b2 with
                    | true =>
                      have HOK : Hid (okW ww x = true) := HOKB.out
                      (
                        have HN : Hid (runD (ws.drop (j + 1)) (l.drop (j + 1)) (setD ww x c) = res) := by unfold Hid; rw [← HJ.out, HST.out, if_pos (by rw [HOK.out])])
                      rw [HSE.out] at HN
                      clear HJ HST HOK HOKB HSE
                      go_upto_region 11 with fail
                      go_quiet (fail)
                      replace hs := hs.drewN nq
                      generalize wr.drewN nq = w5 at *
                      go_wp2_with fail
                      go_roundw
                      case rel => exact ⟨j + 1, c, by omega, by go_num, HN, hs⟩
                      case measure => simp [intOf]; omega
                    | false =>
                      have HOK : Hid (okW ww x = false) := HOKB.out
                      (
                        have HN : Hid (res = none) := by unfold Hid; rw [← HJ.out, HST.out, if_neg (by rw [HOK.out]; decide)])
                      clear HJ HST HOK HOKB HSE
                      go_upto_region 11 with fail
                      go_quiet (fail)
                      replace hs := hs.drewN nq
                      generalize wr.drewN nq = wz at *
                      (
                        have e0 : wz.cell? ⟨o4, 0, none⟩ = some (.int .i64 0) := hs.swap.cell 0
                        have e1 : wz.cell? ⟨o4, 1, none⟩ = some (.string ⟨#[]⟩) := hs.swap.cell 1
                        have e2 : wz.cell? ⟨o4, 2, none⟩ = some (.int .i64 0) := hs.swap.cell 2
                        have e3 : wz.cell? ⟨o4, 3, none⟩ = some (.int .i64 0) := hs.swap.cell 3
                        have e4 : wz.cell? ⟨o4, 4, none⟩ = some (.bool false) := hs.swap.cell 4
                        have f0 := hs.swap.frozen 0
                        have f1 := hs.swap.frozen 1
                        have f2 := hs.swap.frozen 2
                        have f3 := hs.swap.frozen 3
                        have f4 := hs.swap.frozen 4
                        go_wp2_with fail
                        have hx := cmd_set 0 ⟨#[]⟩ 0 0 false hs.swap
                        generalize ((((wz.setCell ⟨o4, 0, none⟩ (.int .i64 0)).setCell ⟨o4, 1, none⟩ (.string ⟨#[]⟩)).setCell ⟨o4, 2, none⟩ (.int .i64 0)).setCell ⟨o4, 3, none⟩ (.int .i64 0)).setCell ⟨o4, 4, none⟩ (.bool false) = w9 at *
                        clear e0 e1 e2 e3 e4 f0 f1 f2 f3 f4 hs
                        have g0 : w9.cell? ⟨o4, 0, none⟩ = some (.int .i64 0) := hx.cell 0
                        have g1 : w9.cell? ⟨o4, 1, none⟩ = some (.string ⟨#[]⟩) := hx.cell 1
                        have g2 : w9.cell? ⟨o4, 2, none⟩ = some (.int .i64 0) := hx.cell 2
                        have g3 : w9.cell? ⟨o4, 3, none⟩ = some (.int .i64 0) := hx.cell 3
                        have g4 : w9.cell? ⟨o4, 4, none⟩ = some (.bool false) := hx.cell 4
                        refine bodyPost_ret (v := .tuple #[.agg #[.int .i64 0, .string ⟨#[]⟩, .int .i64 0, .int .i64 0, .bool false], .bool false]) (by simp [results, Try.results30, go_sem, g0, g1, g2, g3, g4]; try rfl) rfl ?_
                        exact HQ.out ⟨0, ⟨#[]⟩, 0, 0, false⟩ w9 false _ (by rw [HN.out]; rfl) (by rw [HN.out]; exact maP_none _) hx.drop.drop rfl)
                  | false =>
                    have HOK : Hid (okW ww x = false) := HOKB.out
                    (
                      have HN : Hid (res = none) := by unfold Hid; rw [← HJ.out, HST.out, if_neg (by rw [HOK.out]; decide)])
                    clear HJ HST HOK HOKB HSE
                    go_upto_region 11 with fail
                    go_quiet (fail)
                    replace hs := hs.drewN nq
                    generalize wr.drewN nq = wz at *
                    (
                      have e0 : wz.cell? ⟨o4, 0, none⟩ = some (.int .i64 0) := hs.swap.cell 0
                      have e1 : wz.cell? ⟨o4, 1, none⟩ = some (.string ⟨#[]⟩) := hs.swap.cell 1
                      have e2 : wz.cell? ⟨o4, 2, none⟩ = some (.int .i64 0) := hs.swap.cell 2
                      have e3 : wz.cell? ⟨o4, 3, none⟩ = some (.int .i64 0) := hs.swap.cell 3
                      have e4 : wz.cell? ⟨o4, 4, none⟩ = some (.bool false) := hs.swap.cell 4
                      have f0 := hs.swap.frozen 0
                      have f1 := hs.swap.frozen 1
                      have f2 := hs.swap.frozen 2
                      have f3 := hs.swap.frozen 3
                      have f4 := hs.swap.frozen 4
                      go_wp2_with fail
                      have hx := cmd_set 0 ⟨#[]⟩ 0 0 false hs.swap
                      generalize ((((wz.setCell ⟨o4, 0, none⟩ (.int .i64 0)).setCell ⟨o4, 1, none⟩ (.string ⟨#[]⟩)).setCell ⟨o4, 2, none⟩ (.int .i64 0)).setCell ⟨o4, 3, none⟩ (.int .i64 0)).setCell ⟨o4, 4, none⟩ (.bool false) = w9 at *
                      clear e0 e1 e2 e3 e4 f0 f1 f2 f3 f4 hs
                      have g0 : w9.cell? ⟨o4, 0, none⟩ = some (.int .i64 0) := hx.cell 0
                      have g1 : w9.cell? ⟨o4, 1, none⟩ = some (.string ⟨#[]⟩) := hx.cell 1
                      have g2 : w9.cell? ⟨o4, 2, none⟩ = some (.int .i64 0) := hx.cell 2
                      have g3 : w9.cell? ⟨o4, 3, none⟩ = some (.int .i64 0) := hx.cell 3
                      have g4 : w9.cell? ⟨o4, 4, none⟩ = some (.bool false) := hx.cell 4
                      refine bodyPost_ret (v := .tuple #[.agg #[.int .i64 0, .string ⟨#[]⟩, .int .i64 0, .int .i64 0, .bool false], .bool false]) (by simp [results, Try.results30, go_sem, g0, g1, g2, g3, g4]; try rfl) rfl ?_
                      exact HQ.out ⟨0, ⟨#[]⟩, 0, 0, false⟩ w9 false _ (by rw [HN.out]; rfl) (by rw [HN.out]; exact maP_none _) hx.drop.drop rfl)
                · have e97 : ¬ (ch.toNat : Int) < 97 := by omega
                  cases b1 with
                  | true =>
                    cases b2 with
                    | true =>
                      have HOK : Hid (okW ww x = true) := HOKB.out
                      (
                        have HN : Hid (runD (ws.drop (j + 1)) (l.drop (j + 1)) (setD ww x c) = res) := by unfold Hid; rw [← HJ.out, HST.out, if_pos (by rw [HOK.out])])
                      rw [HSE.out] at HN
                      clear HJ HST HOK HOKB HSE
                      go_upto_region 11 with fail
                      go_quiet (fail)
                      replace hs := hs.drewN nq
                      generalize wr.drewN nq = w5 at *
                      go_wp2_with fail
                      go_roundw
                      case rel => exact ⟨j + 1, c, by omega, by go_num, HN, hs⟩
                      case measure => simp [intOf]; omega
                    | false =>
                      have HOK : Hid (okW ww x = false) := HOKB.out
                      (
                        have HN : Hid (res = none) := by unfold Hid; rw [← HJ.out, HST.out, if_neg (by rw [HOK.out]; decide)])
                      clear HJ HST HOK HOKB HSE
                      go_upto_region 11 with fail
                      go_quiet (fail)
                      replace hs := hs.drewN nq
                      generalize wr.drewN nq = wz at *
                      (
                        have e0 : wz.cell? ⟨o4, 0, none⟩ = some (.int .i64 0) := hs.swap.cell 0
                        have e1 : wz.cell? ⟨o4, 1, none⟩ = some (.string ⟨#[]⟩) := hs.swap.cell 1
                        have e2 : wz.cell? ⟨o4, 2, none⟩ = some (.int .i64 0) := hs.swap.cell 2
                        have e3 : wz.cell? ⟨o4, 3, none⟩ = some (.int .i64 0) := hs.swap.cell 3
                        have e4 : wz.cell? ⟨o4, 4, none⟩ = some (.bool false) := hs.swap.cell 4
                        have f0 := hs.swap.frozen 0
                        have f1 := hs.swap.frozen 1
                        have f2 := hs.swap.frozen 2
                        have f3 := hs.swap.frozen 3
                        have f4 := hs.swap.frozen 4
                        go_wp2_with fail
                        have hx := cmd_set 0 ⟨#[]⟩ 0 0 false hs.swap
                        generalize ((((wz.setCell ⟨o4, 0, none⟩ (.int .i64 0)).setCell ⟨o4, 1, none⟩ (.string ⟨#[]⟩)).setCell ⟨o4, 2, none⟩ (.int .i64 0)).setCell ⟨o4, 3, none⟩ (.int .i64 0)).setCell ⟨o4, 4, none⟩ (.bool false) = w9 at *
                        clear e0 e1 e2 e3 e4 f0 f1 f2 f3 f4 hs
                        have g0 : w9.cell? ⟨o4, 0, none⟩ = some (.int .i64 0) := hx.cell 0
                        have g1 : w9.cell? ⟨o4, 1, none⟩ = some (.string ⟨#[]⟩) := hx.cell 1
                        have g2 : w9.cell? ⟨o4, 2, none⟩ = some (.int .i64 0) := hx.cell 2
                        have g3 : w9.cell? ⟨o4, 3, none⟩ = some (.int .i64 0) := hx.cell 3
                        have g4 : w9.cell? ⟨o4, 4, none⟩ = some (.bool false) := hx.cell 4
                        refine bodyPost_ret (v := .tuple #[.agg #[.int .i64 0, .string ⟨#[]⟩, .int .i64 0, .int .i64 0, .bool false], .bool false]) (by simp [results, Try.results30, go_sem, g0, g1, g2, g3, g4]; try rfl) rfl ?_
                        exact HQ.out ⟨0, ⟨#[]⟩, 0, 0, false⟩ w9 false _ (by rw [HN.out]; rfl) (by rw [HN.out]; exact maP_none _) hx.drop.drop rfl)
                  | false =>
                    have HOK : Hid (okW ww x = false) := HOKB.out
                    (
                      have HN : Hid (res = none) := by unfold Hid; rw [← HJ.out, HST.out, if_neg (by rw [HOK.out]; decide)])
                    clear HJ HST HOK HOKB HSE
                    go_upto_region 11 with fail
                    go_quiet (fail)
                    replace hs := hs.drewN nq
                    generalize wr.drewN nq = wz at *
                    (
                      have e0 : wz.cell? ⟨o4, 0, none⟩ = some (.int .i64 0) := hs.swap.cell 0
                      have e1 : wz.cell? ⟨o4, 1, none⟩ = some (.string ⟨#[]⟩) := hs.swap.cell 1
                      have e2 : wz.cell? ⟨o4, 2, none⟩ = some (.int .i64 0) := hs.swap.cell 2
                      have e3 : wz.cell? ⟨o4, 3, none⟩ = some (.int .i64 0) := hs.swap.cell 3
                      have e4 : wz.cell? ⟨o4, 4, none⟩ = some (.bool false) := hs.swap.cell 4
                      have f0 := hs.swap.frozen 0
                      have f1 := hs.swap.frozen 1
                      have f2 := hs.swap.frozen 2
                      have f3 := hs.swap.frozen 3
                      have f4 := hs.swap.frozen 4
                      go_wp2_with fail
                      have hx := cmd_set 0 ⟨#[]⟩ 0 0 false hs.swap
                      generalize ((((wz.setCell ⟨o4, 0, none⟩ (.int .i64 0)).setCell ⟨o4, 1, none⟩ (.string ⟨#[]⟩)).setCell ⟨o4, 2, none⟩ (.int .i64 0)).setCell ⟨o4, 3, none⟩ (.int .i64 0)).setCell ⟨o4, 4, none⟩ (.bool false) = w9 at *
                      clear e0 e1 e2 e3 e4 f0 f1 f2 f3 f4 hs
                      have g0 : w9.cell? ⟨o4, 0, none⟩ = some (.int .i64 0) := hx.cell 0
                      have g1 : w9.cell? ⟨o4, 1, none⟩ = some (.string ⟨#[]⟩) := hx.cell 1
                      have g2 : w9.cell? ⟨o4, 2, none⟩ = some (.int .i64 0) := hx.cell 2
                      have g3 : w9.cell? ⟨o4, 3, none⟩ = some (.int .i64 0) := hx.cell 3
                      have g4 : w9.cell? ⟨o4, 4, none⟩ = some (.bool false) := hx.cell 4
                      refine bodyPost_ret (v := .tuple #[.agg #[.int .i64 0, .string ⟨#[]⟩, .int .i64 0, .int .i64 0, .bool false], .bool false]) (by simp [results, Try.results30, go_sem, g0, g1, g2, g3, g4]; try rfl) rfl ?_
                      exact HQ.out ⟨0, ⟨#[]⟩, 0, 0, false⟩ w9 false _ (by rw [HN.out]; rfl) (by rw [HN.out]; exact maP_none _) hx.drop.drop rfl)
      · obtain rfl : j = l.length := by omega
        have HN : Hid (res = some c) := by
          unfold Hid
          rw [← HJ.out, List.drop_eq_nil_of_le (by rw [HL.out]; exact Nat.le_refl _)]; rfl
        clear HJ
        obtain ⟨ck, ct, cc, cv, cd⟩ := c
        obtain ⟨wz, rfl⟩ : ∃ wz, wz = wr := ⟨_, rfl⟩
        (
          have m0 : wz.cell? ⟨o6, 0, none⟩ = some (.int .i64 ck) := hs.cell 0
          have m1 : wz.cell? ⟨o6, 1, none⟩ = some (.string ct) := hs.cell 1
          have m2 : wz.cell? ⟨o6, 2, none⟩ = some (.int .i64 cc) := hs.cell 2
          have m3 : wz.cell? ⟨o6, 3, none⟩ = some (.int .i64 cv) := hs.cell 3
          have m4 : wz.cell? ⟨o6, 4, none⟩ = some (.bool cd) := hs.cell 4
          have e0 : wz.cell? ⟨o4, 0, none⟩ = some (.int .i64 0) := hs.swap.cell 0
          have e1 : wz.cell? ⟨o4, 1, none⟩ = some (.string ⟨#[]⟩) := hs.swap.cell 1
          have e2 : wz.cell? ⟨o4, 2, none⟩ = some (.int .i64 0) := hs.swap.cell 2
          have e3 : wz.cell? ⟨o4, 3, none⟩ = some (.int .i64 0) := hs.swap.cell 3
          have e4 : wz.cell? ⟨o4, 4, none⟩ = some (.bool false) := hs.swap.cell 4
          have f0 := hs.swap.frozen 0
          have f1 := hs.swap.frozen 1
          have f2 := hs.swap.frozen 2
          have f3 := hs.swap.frozen 3
          have f4 := hs.swap.frozen 4
          go_wp2_with fail
          have hx := cmd_set ck ct cc cv cd hs.swap
          generalize ((((wz.setCell ⟨o4, 0, none⟩ (.int .i64 ck)).setCell ⟨o4, 1, none⟩ (.string ct)).setCell ⟨o4, 2, none⟩ (.int .i64 cc)).setCell ⟨o4, 3, none⟩ (.int .i64 cv)).setCell ⟨o4, 4, none⟩ (.bool cd) = w9 at *
          clear m0 m1 m2 m3 m4 e0 e1 e2 e3 e4 f0 f1 f2 f3 f4 hs
          have g0 : w9.cell? ⟨o4, 0, none⟩ = some (.int .i64 ck) := hx.cell 0
          have g1 : w9.cell? ⟨o4, 1, none⟩ = some (.string ct) := hx.cell 1
          have g2 : w9.cell? ⟨o4, 2, none⟩ = some (.int .i64 cc) := hx.cell 2
          have g3 : w9.cell? ⟨o4, 3, none⟩ = some (.int .i64 cv) := hx.cell 3
          have g4 : w9.cell? ⟨o4, 4, none⟩ = some (.bool cd) := hx.cell 4)
        refine bodyPost_ret (v := .tuple #[.agg #[.int .i64 ck, .string ct, .int .i64 cc, .int .i64 cv, .bool cd], .bool true]) (by simp [results, Try.results30, go_sem, g0, g1, g2, g3, g4]) rfl ?_
        exact HQ.out ⟨ck, ct, cc, cv, cd⟩ w9 true _ (by rw [HN.out]; rfl) (by rw [HN.out]; exact maP_some _) hx.drop.drop rfl
  · have hl1 : ((l.length : Int) == ws.length) = false := by simp; omega
    have hl2 : ((l.length : Int) != ws.length) = true := by rw [bne, hl1]; rfl
    have HN : Hid (res = none) := by unfold Hid; rw [← HRES.out, if_neg hlen]
    clear hlen HRES
    obtain ⟨wz, rfl⟩ : ∃ wz, wz = w3 := ⟨_, rfl⟩
    have hs := h2
    have m0 : wz.cell? ⟨o6, 0, none⟩ = some (.int .i64 0) := hs.cell 0
    have m1 : wz.cell? ⟨o6, 1, none⟩ = some (.string ⟨#[]⟩) := hs.cell 1
    have m2 : wz.cell? ⟨o6, 2, none⟩ = some (.int .i64 0) := hs.cell 2
    have m3 : wz.cell? ⟨o6, 3, none⟩ = some (.int .i64 0) := hs.cell 3
    have m4 : wz.cell? ⟨o6, 4, none⟩ = some (.bool false) := hs.cell 4
    clear h2
    (
      have e0 : wz.cell? ⟨o4, 0, none⟩ = some (.int .i64 0) := hs.swap.cell 0
      have e1 : wz.cell? ⟨o4, 1, none⟩ = some (.string ⟨#[]⟩) := hs.swap.cell 1
      have e2 : wz.cell? ⟨o4, 2, none⟩ = some (.int .i64 0) := hs.swap.cell 2
      have e3 : wz.cell? ⟨o4, 3, none⟩ = some (.int .i64 0) := hs.swap.cell 3
      have e4 : wz.cell? ⟨o4, 4, none⟩ = some (.bool false) := hs.swap.cell 4
      have f0 := hs.swap.frozen 0
      have f1 := hs.swap.frozen 1
      have f2 := hs.swap.frozen 2
      have f3 := hs.swap.frozen 3
      have f4 := hs.swap.frozen 4
      go_wp2_with fail
      have hx := cmd_set 0 ⟨#[]⟩ 0 0 false hs.swap
      generalize ((((wz.setCell ⟨o4, 0, none⟩ (.int .i64 0)).setCell ⟨o4, 1, none⟩ (.string ⟨#[]⟩)).setCell ⟨o4, 2, none⟩ (.int .i64 0)).setCell ⟨o4, 3, none⟩ (.int .i64 0)).setCell ⟨o4, 4, none⟩ (.bool false) = w9 at *
      clear e0 e1 e2 e3 e4 f0 f1 f2 f3 f4 hs
      have g0 : w9.cell? ⟨o4, 0, none⟩ = some (.int .i64 0) := hx.cell 0
      have g1 : w9.cell? ⟨o4, 1, none⟩ = some (.string ⟨#[]⟩) := hx.cell 1
      have g2 : w9.cell? ⟨o4, 2, none⟩ = some (.int .i64 0) := hx.cell 2
      have g3 : w9.cell? ⟨o4, 3, none⟩ = some (.int .i64 0) := hx.cell 3
      have g4 : w9.cell? ⟨o4, 4, none⟩ = some (.bool false) := hx.cell 4
      refine bodyPost_ret (v := .tuple #[.agg #[.int .i64 0, .string ⟨#[]⟩, .int .i64 0, .int .i64 0, .bool false], .bool false]) (by simp [results, Try.results30, go_sem, g0, g1, g2, g3, g4]; try rfl) rfl ?_
      exact HQ.out ⟨0, ⟨#[]⟩, 0, 0, false⟩ w9 false _ (by rw [HN.out]; rfl) (by rw [HN.out]; exact maP_none _) hx.drop.drop rfl)
end Go.Proofs.Ytoeepbjnbgpmpaa
