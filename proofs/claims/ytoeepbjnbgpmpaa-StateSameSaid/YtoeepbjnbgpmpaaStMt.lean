/- Package state: match. -/
import Derived.Test.YtoeepbjnbgpmpaaSK
import Derived.BigQuiet
namespace Go.Proofs.Ytoeepbjnbgpmpaa
set_option linter.all false
open Go Go.RowKit

def okW (w : ByteArray) (x : Tok) : Bool :=
  if w = cT then decide (x.k = 1) && nameB x.t else if w = cK then numB x else if w = cV then numB x else decide (x.k = kindW w) && decide (x.t = w)
def setW (w : ByteArray) (x : Tok) (c : CmdM) : CmdM :=
  if w = cT then { c with tb := x.t } else if w = cK then { c with kk := (numV (bl x.t) : Int) } else if w = cV then { c with vv := (numV (bl x.t) : Int) } else c
/-- What of a command is read, word by word. -/
def runM : List ByteArray → List Tok → CmdM → Option CmdM
  | [], _, c => some c
  | _ :: _, [], _ => none
  | w :: ws, x :: l, c => if okW w x = true then runM ws l (setW w x c) else none
def matchR (kind : Int) (kd : Bool) (ws : List ByteArray) (l : List Tok) : Option CmdM :=
  if l.length = ws.length then runM ws l ⟨kind, ⟨#[]⟩, 0, 0, kd⟩ else none
theorem runM_drop (ws : List ByteArray) (l : List Tok) (j : Nat) (c : CmdM) (hw : j < ws.length) (hl : j < l.length) : runM (ws.drop j) (l.drop j) c = if okW ws[j] l[j] = true then runM (ws.drop (j + 1)) (l.drop (j + 1)) (setW ws[j] l[j] c) else none := by
  rw [List.drop_eq_getElem_cons hw, List.drop_eq_getElem_cons hl, runM]
/-- What a match tells: a command if there is one. -/
def MaP (r : Option CmdM) (c : CmdM) : Prop := ∀ c', r = some c' → c = c'
def AftP (w : ByteArray) (x : Tok) (c c2 : CmdM) : Prop := okW w x = true → c2 = setW w x c
abbrev cm0 (kind : Int) (kd : Bool) : CmdM := ⟨kind, ⟨#[]⟩, 0, 0, kd⟩
def MatQ (k : Env) (r : Option CmdM) (R : Assn) (e : Ending) (w' : World) : Prop := ∃ c : CmdM, e = .returned (.tuple #[cmV c, .bool r.isSome]) ∧ MaP r c ∧ Sat k w' R

theorem cmd_set {k : Env} {w : World} {R : Assn} {b : Nat} {c : CmdM} (ck : Int) (ct : ByteArray) (cc cv : Int) (cd : Bool) (h : Sat k w (blk b (cmO c) * R)) :
    Sat k (((((w.setCell ⟨b, 0, none⟩ (.int .i64 ck)).setCell ⟨b, 1, none⟩ (.string ct)).setCell ⟨b, 2, none⟩ (.int .i64 cc)).setCell ⟨b, 3, none⟩ (.int .i64 cv)).setCell ⟨b, 4, none⟩ (.bool cd)) (blk b (cmO ⟨ck, ct, cc, cv, cd⟩) * R) :=
  ((((h.set 0 (.int .i64 ck)).set 1 (.string ct)).set 2 (.int .i64 cc)).set 3 (.int .i64 cv)).set 4 (.bool cd)
theorem maP_none (c : CmdM) : MaP none c := fun c' h => by cases h
theorem maP_some (c : CmdM) : MaP (some c) c := fun c' h => by cases h; rfl


set_option maxRecDepth 100000 in
set_option maxHeartbeats 8000000 in
theorem match_any (k : Env) (w : World) (R : Assn) (kind : Int) (kd : Bool) (fa : Option Addr) (fc : Nat) (ws : List ByteArray) (a : Option Addr) (cap : Nat) (l : List Tok) (hw : Rd k R fa ws) (hr : RdT k R a l) (hwl : ws.length ≤ 1000) (hww : ∀ s ∈ ws, 0 < s.size) (hl : l.length ≤ 1000000) (hT : ∀ x ∈ l, x.t.size ≤ 100000) (h : Sat k w R) :
    Calls Try.prog 28 #[.agg #[.int .i64 kind, .bool kd, .slice fa ws.length fc], .slice a l.length cap] w fun e w' => MatQ k (matchR kind kd ws l) R e w' := by
  obtain ⟨res, hres⟩ : ∃ res, matchR kind kd ws l = res := ⟨_, rfl⟩
  rw [hres]
  unfold matchR at hres
  have h0 := h.alloc (.cells #[.int .i64 kind, .bool kd, .slice fa ws.length fc] 54)
  have h1 := h0.alloc (cmO ⟨0, ⟨#[]⟩, 0, 0, false⟩)
  have h2 := h1.alloc (cmO (cm0 kind kd))
  have hz1 : (w.alloc (.cells #[.int .i64 kind, .bool kd, .slice fa ws.length fc] 54)).heap.size = w.heap.size + 1 := by simp
  have hz2 : ((w.alloc (.cells #[.int .i64 kind, .bool kd, .slice fa ws.length fc] 54)).alloc (cmO ⟨0, ⟨#[]⟩, 0, 0, false⟩)).heap.size = w.heap.size + 1 + 1 := by simp
  rw [hz1, hz2] at h2
  have HQ : Hid (∀ (c : CmdM) (w' : World) (b : Bool) (e : Ending), b = res.isSome → MaP res c → Sat k w' R → e = .returned (.tuple #[cmV c, .bool b]) → MatQ k res R e w') := by
    intro c w' b e hb hm hs he
    exact ⟨c, by rw [he, hb], hm, hs⟩
  have HRES := Lib.hid hres
  have HW := Lib.hid hw
  have HT := Lib.hid hr
  have HTS := Lib.hid hT
  have HWW := Lib.hid hww
  clear h hres hw hr hT hww h0 h1 hz1 hz2
  go_enter Try.func28, Try.ntmps28
  go_upto_region 2 with fail
  generalize ((w.alloc (.cells #[.int .i64 kind, .bool kd, .slice fa ws.length fc] 54)).alloc (cmO ⟨0, ⟨#[]⟩, 0, 0, false⟩)).alloc (cmO (cm0 kind kd)) = w3 at *
  generalize w.heap.size + 1 + 1 = o6 at *
  generalize w.heap.size + 1 = o4 at *
  generalize w.heap.size = o at *
  have b2 : w3.cell? ⟨o, 2, none⟩ = some (.slice fa ws.length fc) := h2.get3.cell 2
  obtain ⟨ck, hck⟩ : ∃ ck, ck = kind := ⟨_, rfl⟩
  obtain ⟨cd, hcd⟩ : ∃ cd, cd = kd := ⟨_, rfl⟩
  replace h2 : Sat k w3 (blk o6 (cmO ⟨ck, ⟨#[]⟩, 0, 0, cd⟩) * (blk o4 (cmO ⟨0, ⟨#[]⟩, 0, 0, false⟩) * (blk o (.cells #[.int .i64 kind, .bool kd, .slice fa ws.length fc] 54 (0, 0)) * R))) := by rw [hck, hcd]; exact h2
  have HCK : Hid (ck = kind ∧ cd = kd) := ⟨hck, hcd⟩
  clear hck hcd
  by_cases hlen : l.length = ws.length
  · have hl1 : ((l.length : Int) == ws.length) = true := by simp [hlen]
    have hl2 : ((l.length : Int) != ws.length) = false := by simp [hlen]
    have HL := Lib.hid hlen
    have HX : Hid (runM (ws.drop 0) (l.drop 0) ⟨ck, ⟨#[]⟩, 0, 0, cd⟩ = res) := by
      unfold Hid
      rw [HCK.out.1, HCK.out.2, ← HRES.out, if_pos hlen]; rfl
    clear hlen HRES
    go_wp2_with fail
    go_loopw [25] (fun s25 wr => ∃ (j : Nat) (c : CmdM), j ≤ ws.length ∧ s25 = .int .i64 j ∧ Hid (runM (ws.drop j) (l.drop j) c = res) ∧ Sat k wr (blk o6 (cmO c) * (blk o4 (cmO ⟨0, ⟨#[]⟩, 0, 0, false⟩) * (blk o (.cells #[.int .i64 kind, .bool kd, .slice fa ws.length fc] 54 (0, 0)) * R)))) (fun s25 _ => ws.length - (intOf s25).toNat)
    case atStart => exact ⟨0, _, Nat.zero_le _, rfl, HX, h2⟩
    case round =>
      clear h2 HX b2
      obtain ⟨j, c, hj, rfl, HJ, hs⟩ := hrel
      by_cases hjl : j < ws.length
      · have hjl' : (j : Int) < ws.length := by omega
        have hjm : j < l.length := by have := HL.out; omega
        have hjm' : (j : Int) < l.length := by omega
        obtain ⟨gw, ow, rfl, d1⟩ := rd_get HW.out hs.drop.drop.drop j hjl
        obtain ⟨gt, ot, rfl, hgt⟩ := rdt_at HT.out (by rintro rfl; cases hjm)
        have HGT : Hid (∀ {w' : World}, Sat k w' R → w'.cell? ⟨gt, ot + j * 3, none⟩ = some (.int .i64 l[j].k) ∧ w'.cell? ⟨gt, ot + j * 3 + 1, none⟩ = some (.string l[j].t) ∧ w'.cell? ⟨gt, ot + j * 3 + 2, none⟩ = some (.int .i64 l[j].at')) := fun {w'} q => hgt w' q j hjm
        have hxs := HTS.out l[j] (List.getElem_mem hjm)
        have hws := HWW.out ws[j] (List.getElem_mem hjl)
        have HST := Lib.hid (runM_drop ws l j c hjl hjm)
        clear hgt
        generalize l[j] = x at *
        generalize ws[j] = ww at *
        have q5 := tl_T ww
        have q6 := tl_K ww
        have q7 := tl_V ww
        go_upto_block 2 with fail
        go_cut [9] (fun s9 wx => ∃ c2, s9 = .bool (okW ww x) ∧ Hid (AftP ww x c c2) ∧ Sat k wx (blk o6 (cmO c2) * (blk o4 (cmO ⟨0, ⟨#[]⟩, 0, 0, false⟩) * (blk o (.cells #[.int .i64 kind, .bool kd, .slice (some ⟨gw, ow, none⟩) ws.length fc] 54 (0, 0)) * R))))
        case first =>
          clear HJ HST
          have hok1 : ww = cT → okW ww x = (decide (x.k = 1) && nameB x.t) := fun q => if_pos q
          have hok2 : ww ≠ cT → (ww = cK ∨ ww = cV) → okW ww x = numB x := by
            intro q r
            unfold okW
            rw [if_neg q]
            by_cases r1 : ww = cK
            · rw [if_pos r1]
            · rw [if_neg r1, if_pos (by rcases r with r | r; exact absurd r r1; exact r)]
          have hok3 : ww ≠ cT → ww ≠ cK → ww ≠ cV → okW ww x = (decide (x.k = kindW ww) && decide (x.t = ww)) := by
            intro q r s
            unfold okW
            rw [if_neg q, if_neg r, if_neg s]
          have hst1 : ww = cT → setW ww x c = { c with tb := x.t } := fun q => if_pos q
          have hst2 : ww ≠ cT → ww = cK → setW ww x c = { c with kk := (numV (bl x.t) : Int) } := by
            intro q r; unfold setW; rw [if_neg q, if_pos r]
          have hst3 : ww ≠ cT → ww ≠ cK → ww = cV → setW ww x c = { c with vv := (numV (bl x.t) : Int) } := by
            intro q r s; unfold setW; rw [if_neg q, if_neg r, if_pos s]
          have hst4 : ww ≠ cT → ww ≠ cK → ww ≠ cV → setW ww x c = c := by
            intro q r s; unfold setW; rw [if_neg q, if_neg r, if_neg s]
          by_cases hT : ww = cT
          · rw [decide_eq_true hT] at q5
            have ho := hok1 hT
            have HS : Hid (AftP ww x c { c with tb := x.t }) := fun _ => (hst1 hT).symm
            clear hok1 hok2 hok3 hst1 hst2 hst3 hst4 hT q6 q7 d1
            have HOK := Lib.hid ho
            clear ho
            obtain ⟨t0, t1, t2⟩ := HGT.out hs.drop.drop.drop
            have m1 : wr.cell? ⟨o6, 1, none⟩ = some (.string c.tb) := hs.cell 1
            have f1 := hs.frozen 1
            by_cases hk : x.k = 1
            · have hk1 : ((x.k : Int) == 1) = true := by simp [hk]
              obtain ⟨nb, hnb⟩ : ∃ nb, nameB x.t = nb := ⟨_, rfl⟩
              have ho2 : okW ww x = nb := by rw [HOK.out, decide_eq_true hk, hnb]; rfl
              have HO2 := Lib.hid ho2
              have D0 := word8_any k wr.drew _ x.t hxs (Sat.drew hs)
              rw [hnb] at D0
              have D := Lib.hid D0
              clear hk ho2 HOK hnb D0
              go_upto_region 11 with fail
              go_region_held3 (fun w' => w'.cell? ⟨gt, ot + j * 3, none⟩ = some (.int .i64 x.k) ∧ w'.cell? ⟨gt, ot + j * 3 + 1, none⟩ = some (.string x.t)) (first | exact ⟨t0, t1⟩ | exact ⟨t0', t1'⟩ | exact ⟨s0, s1⟩ | fail) (first | (go_at_call 31; (with_reducible refine (D.out).mono ?_); rintro e w4 ⟨rfl, h4⟩; obtain ⟨t0', t1', t2'⟩ := HGT.out h4.drop.drop.drop; have m1' : w4.cell? ⟨o6, 1, none⟩ = some (.string c.tb) := h4.cell 1; have f1' := h4.frozen 1; have hx := (h4.set 1 (.string x.t)).drew; obtain ⟨s0, s1, _⟩ := HGT.out hx.drop.drop.drop) | fail)
              all_goals
                go_wp2_with fail
                go_meet
                case rel => exact ⟨_, by rw [HO2.out], HS, hx⟩
            · have hk1 : ((x.k : Int) == 1) = false := by simp [hk]
              have ho2 : okW ww x = false := by rw [HOK.out, decide_eq_false hk]; rfl
              have HO2 := Lib.hid ho2
              clear hk ho2 HOK
              have hx := (hs.set 1 (.string x.t)).drew
              go_upto_region 11 with fail
              go_big_region
              all_goals
                go_wp2_with fail
                go_meet
                case rel => exact ⟨_, by rw [HO2.out], HS, hx⟩
          · rw [decide_eq_false hT] at q5
            obtain ⟨t0, t1, t2⟩ := HGT.out hs.drop.drop.drop
            by_cases hK : ww = cK
            · rw [decide_eq_true hK] at q6
              obtain ⟨nb, hnb⟩ : ∃ nb, numB x = nb := ⟨_, rfl⟩
              have HB := Lib.hid hnb
              have HO := Lib.hid (hok2 hT (.inl hK) |>.trans hnb)
              have HS := Lib.hid (hst2 hT hK)
              have D0 := number_any k wr _ x (by omega) hs
              rw [hnb] at D0
              have D := Lib.hid D0
              clear hnb D0
              clear hok1 hok2 hok3 hst1 hst2 hst3 hst4 hT hK q7 d1
              go_wp2_with (go_at_call 49; (with_reducible refine (D.out).mono ?_); rintro e w4 ⟨n, rfl, hn, h4⟩; have HNU := Lib.hid hn; have m2 : w4.cell? ⟨o6, 2, none⟩ = some (.int .i64 c.kk) := h4.cell 2; have f2 := h4.frozen 2; clear hn)
              have hx := h4.set 2 (.int .i64 n)
              go_meet
              case rel => exact ⟨{ c with kk := n }, by rw [HO.out], fun q => by rw [HS.out, HNU.out (by rw [HB.out]; rw [HO.out] at q; exact q)], hx⟩
            · rw [decide_eq_false hK] at q6
              by_cases hV : ww = cV
              · rw [decide_eq_true hV] at q7
                obtain ⟨nb, hnb⟩ : ∃ nb, numB x = nb := ⟨_, rfl⟩
                have HB := Lib.hid hnb
                have HO := Lib.hid (hok2 hT (.inr hV) |>.trans hnb)
                have HS := Lib.hid (hst3 hT hK hV)
                have D0 := number_any k wr _ x (by omega) hs
                rw [hnb] at D0
                have D := Lib.hid D0
                clear hnb D0
                clear hok1 hok2 hok3 hst1 hst2 hst3 hst4 hT hK hV d1
                go_wp2_with (go_at_call 49; (with_reducible refine (D.out).mono ?_); rintro e w4 ⟨n, rfl, hn, h4⟩; have HNU := Lib.hid hn; have m2 : w4.cell? ⟨o6, 3, none⟩ = some (.int .i64 c.vv) := h4.cell 3; have f2 := h4.frozen 3; clear hn)
                have hx := h4.set 3 (.int .i64 n)
                go_meet
                case rel => exact ⟨{ c with vv := n }, by rw [HO.out], fun q => by rw [HS.out, HNU.out (by rw [HB.out]; rw [HO.out] at q; exact q)], hx⟩
              · rw [decide_eq_false hV] at q7
                have HO := Lib.hid (hok3 hT hK hV)
                have HS := Lib.hid (hst4 hT hK hV)
                have C := fun n => (kind_any (wr.drewN n) ww hws).mono fun _ _ z => And.intro z.1 z.2.symm
                have D := Lib.hid C
                clear hok1 hok2 hok3 hst1 hst2 hst3 hst4 hT hK hV d1 C
                generalize kindW ww = kw at *
                have u1 : ((x.k : Int) == kw) = decide (x.k = kw) := by rw [Bool.eq_iff_iff]; simp
                have u2 : (x.t.toList == ww.toList) = decide (x.t = ww) := tl_beq _ _
                generalize decide (x.k = kw) = b1 at *
                generalize decide (x.t = ww) = b2 at *
                go_upto_region 9 with fail
                cases b1 with
                | true =>
                  go_quiet ((go_at_call 50; (with_reducible exact Calls.quiet_of_same (D.out _))))
                  replace hs := hs.drewN nq
                  generalize wr.drewN nq = w5 at *
                  go_wp2_with fail
                  go_meet
                  case rel => exact ⟨c, by rw [HO.out]; rfl, fun q => HS.out.symm, hs⟩
                | false =>
                  go_quiet ((go_at_call 50; (with_reducible exact Calls.quiet_of_same (D.out _))))
                  replace hs := hs.drewN nq
                  generalize wr.drewN nq = w5 at *
                  go_wp2_with fail
                  go_meet
                  case rel => exact ⟨c, by rw [HO.out]; rfl, fun q => HS.out.symm, hs⟩
        case rest =>
          clear hs q5 q6 q7
          obtain ⟨c2, rfl, HA, hs⟩ := hcut
          cases hok : okW ww x with
          | true =>
            have HN : Hid (runM (ws.drop (j + 1)) (l.drop (j + 1)) c2 = res) := by
              unfold Hid
              rw [HA.out hok, ← HJ.out, HST.out, if_pos hok]
            clear HA HJ HST hok
            go_wp2_with fail
            go_roundw
            case rel => exact ⟨j + 1, c2, by omega, by go_num, HN, hs⟩
            case measure => simp [intOf]; omega
          | false =>
            have HN : Hid (res = none) := by unfold Hid; rw [← HJ.out, HST.out, if_neg (by rw [hok]; decide)]
            clear HA HJ HST hok
            obtain ⟨ck, ct, cc, cv, cd⟩ := c2
            obtain ⟨wz, rfl⟩ : ∃ wz, wz = wc := ⟨_, rfl⟩
            (
              have m0 : wz.cell? ⟨o6, 0, none⟩ = some (.int .i64 ck) := hs.cell 0
              have m1 : wz.cell? ⟨o6, 1, none⟩ = some (.string ct) := hs.cell 1
              have m2 : wz.cell? ⟨o6, 2, none⟩ = some (.int .i64 cc) := hs.cell 2
              have m3 : wz.cell? ⟨o6, 3, none⟩ = some (.int .i64 cv) := hs.cell 3
              have m4 : wz.cell? ⟨o6, 4, none⟩ = some (.bool cd) := hs.cell 4
              have e0 : wz.cell? ⟨o4, 0, none⟩ = some (.int .i64 0) := hs.swap.cell 0
              have e1 : wz.cell? ⟨o4, 1, none⟩ = some (.string ⟨#[]⟩) := hs.swap.cell 1
              have e2 : wz.cell? ⟨o4, 2, none⟩ = some (.int .i64 0) := hs.swap.cell 2
              have e3 : wz.cell? ⟨o4, 3, none⟩ = some (.int .i64 0) := hs.swap.cell 3
              have e4 : wz.cell? ⟨o4, 4, none⟩ = some (.bool false) := hs.swap.cell 4
              have f0 := hs.swap.frozen 0
              have f1 := hs.swap.frozen 1
              have f2 := hs.swap.frozen 2
              have f3 := hs.swap.frozen 3
              have f4 := hs.swap.frozen 4
              go_wp2_with fail
              have hx := cmd_set ck ct cc cv cd hs.swap
              generalize ((((wz.setCell ⟨o4, 0, none⟩ (.int .i64 ck)).setCell ⟨o4, 1, none⟩ (.string ct)).setCell ⟨o4, 2, none⟩ (.int .i64 cc)).setCell ⟨o4, 3, none⟩ (.int .i64 cv)).setCell ⟨o4, 4, none⟩ (.bool cd) = w9 at *
              clear m0 m1 m2 m3 m4 e0 e1 e2 e3 e4 f0 f1 f2 f3 f4 hs
              have g0 : w9.cell? ⟨o4, 0, none⟩ = some (.int .i64 ck) := hx.cell 0
              have g1 : w9.cell? ⟨o4, 1, none⟩ = some (.string ct) := hx.cell 1
              have g2 : w9.cell? ⟨o4, 2, none⟩ = some (.int .i64 cc) := hx.cell 2
              have g3 : w9.cell? ⟨o4, 3, none⟩ = some (.int .i64 cv) := hx.cell 3
              have g4 : w9.cell? ⟨o4, 4, none⟩ = some (.bool cd) := hx.cell 4)
            refine bodyPost_ret (v := .tuple #[.agg #[.int .i64 ck, .string ct, .int .i64 cc, .int .i64 cv, .bool cd], .bool false]) (by simp [results, Try.results28, go_sem, g0, g1, g2, g3, g4]) rfl ?_
            exact HQ.out ⟨ck, ct, cc, cv, cd⟩ w9 false _ (by rw [HN.out]; rfl) (by rw [HN.out]; exact maP_none _) hx.drop.drop.drop rfl
      · obtain rfl : j = ws.length := by omega
        have HN : Hid (res = some c) := by
          unfold Hid
          rw [← HJ.out, List.drop_eq_nil_of_le (Nat.le_refl _)]; rfl
        clear HJ
        obtain ⟨ck, ct, cc, cv, cd⟩ := c
        obtain ⟨wz, rfl⟩ : ∃ wz, wz = wr := ⟨_, rfl⟩
        (
          have m0 : wz.cell? ⟨o6, 0, none⟩ = some (.int .i64 ck) := hs.cell 0
          have m1 : wz.cell? ⟨o6, 1, none⟩ = some (.string ct) := hs.cell 1
          have m2 : wz.cell? ⟨o6, 2, none⟩ = some (.int .i64 cc) := hs.cell 2
          have m3 : wz.cell? ⟨o6, 3, none⟩ = some (.int .i64 cv) := hs.cell 3
          have m4 : wz.cell? ⟨o6, 4, none⟩ = some (.bool cd) := hs.cell 4
          have e0 : wz.cell? ⟨o4, 0, none⟩ = some (.int .i64 0) := hs.swap.cell 0
          have e1 : wz.cell? ⟨o4, 1, none⟩ = some (.string ⟨#[]⟩) := hs.swap.cell 1
          have e2 : wz.cell? ⟨o4, 2, none⟩ = some (.int .i64 0) := hs.swap.cell 2
          have e3 : wz.cell? ⟨o4, 3, none⟩ = some (.int .i64 0) := hs.swap.cell 3
          have e4 : wz.cell? ⟨o4, 4, none⟩ = some (.bool false) := hs.swap.cell 4
          have f0 := hs.swap.frozen 0
          have f1 := hs.swap.frozen 1
          have f2 := hs.swap.frozen 2
          have f3 := hs.swap.frozen 3
          have f4 := hs.swap.frozen 4
          go_wp2_with fail
          have hx := cmd_set ck ct cc cv cd hs.swap
          generalize ((((wz.setCell ⟨o4, 0, none⟩ (.int .i64 ck)).setCell ⟨o4, 1, none⟩ (.string ct)).setCell ⟨o4, 2, none⟩ (.int .i64 cc)).setCell ⟨o4, 3, none⟩ (.int .i64 cv)).setCell ⟨o4, 4, none⟩ (.bool cd) = w9 at *
          clear m0 m1 m2 m3 m4 e0 e1 e2 e3 e4 f0 f1 f2 f3 f4 hs
          have g0 : w9.cell? ⟨o4, 0, none⟩ = some (.int .i64 ck) := hx.cell 0
          have g1 : w9.cell? ⟨o4, 1, none⟩ = some (.string ct) := hx.cell 1
          have g2 : w9.cell? ⟨o4, 2, none⟩ = some (.int .i64 cc) := hx.cell 2
          have g3 : w9.cell? ⟨o4, 3, none⟩ = some (.int .i64 cv) := hx.cell 3
          have g4 : w9.cell? ⟨o4, 4, none⟩ = some (.bool cd) := hx.cell 4)
        refine bodyPost_ret (v := .tuple #[.agg #[.int .i64 ck, .string ct, .int .i64 cc, .int .i64 cv, .bool cd], .bool true]) (by simp [results, Try.results28, go_sem, g0, g1, g2, g3, g4]) rfl ?_
        exact HQ.out ⟨ck, ct, cc, cv, cd⟩ w9 true _ (by rw [HN.out]; rfl) (by rw [HN.out]; exact maP_some _) hx.drop.drop.drop rfl
  · have hl1 : ((l.length : Int) == ws.length) = false := by simp; omega
    have hl2 : ((l.length : Int) != ws.length) = true := by rw [bne, hl1]; rfl
    have hnone : res = none := by rw [← HRES.out, if_neg hlen]
    have HN := Lib.hid hnone
    obtain ⟨wz, rfl⟩ : ∃ wz, wz = w3 := ⟨_, rfl⟩
    obtain ⟨ct, hct⟩ : ∃ ct : ByteArray, ct = ⟨#[]⟩ := ⟨_, rfl⟩
    obtain ⟨cc, hcc⟩ : ∃ cc : Int, cc = 0 := ⟨_, rfl⟩
    obtain ⟨cv, hcv⟩ : ∃ cv : Int, cv = 0 := ⟨_, rfl⟩
    have hs : Sat k wz (blk o6 (cmO ⟨ck, ct, cc, cv, cd⟩) * (blk o4 (cmO ⟨0, ⟨#[]⟩, 0, 0, false⟩) * (blk o (.cells #[.int .i64 kind, .bool kd, .slice fa ws.length fc] 54 (0, 0)) * R))) := by rw [hct, hcc, hcv]; exact h2
    clear hlen hnone HRES hct hcc hcv h2
    (
      have m0 : wz.cell? ⟨o6, 0, none⟩ = some (.int .i64 ck) := hs.cell 0
      have m1 : wz.cell? ⟨o6, 1, none⟩ = some (.string ct) := hs.cell 1
      have m2 : wz.cell? ⟨o6, 2, none⟩ = some (.int .i64 cc) := hs.cell 2
      have m3 : wz.cell? ⟨o6, 3, none⟩ = some (.int .i64 cv) := hs.cell 3
      have m4 : wz.cell? ⟨o6, 4, none⟩ = some (.bool cd) := hs.cell 4
      have e0 : wz.cell? ⟨o4, 0, none⟩ = some (.int .i64 0) := hs.swap.cell 0
      have e1 : wz.cell? ⟨o4, 1, none⟩ = some (.string ⟨#[]⟩) := hs.swap.cell 1
      have e2 : wz.cell? ⟨o4, 2, none⟩ = some (.int .i64 0) := hs.swap.cell 2
      have e3 : wz.cell? ⟨o4, 3, none⟩ = some (.int .i64 0) := hs.swap.cell 3
      have e4 : wz.cell? ⟨o4, 4, none⟩ = some (.bool false) := hs.swap.cell 4
      have f0 := hs.swap.frozen 0
      have f1 := hs.swap.frozen 1
      have f2 := hs.swap.frozen 2
      have f3 := hs.swap.frozen 3
      have f4 := hs.swap.frozen 4
      go_wp2_with fail
      have hx := cmd_set ck ct cc cv cd hs.swap
      generalize ((((wz.setCell ⟨o4, 0, none⟩ (.int .i64 ck)).setCell ⟨o4, 1, none⟩ (.string ct)).setCell ⟨o4, 2, none⟩ (.int .i64 cc)).setCell ⟨o4, 3, none⟩ (.int .i64 cv)).setCell ⟨o4, 4, none⟩ (.bool cd) = w9 at *
      clear m0 m1 m2 m3 m4 e0 e1 e2 e3 e4 f0 f1 f2 f3 f4 hs
      have g0 : w9.cell? ⟨o4, 0, none⟩ = some (.int .i64 ck) := hx.cell 0
      have g1 : w9.cell? ⟨o4, 1, none⟩ = some (.string ct) := hx.cell 1
      have g2 : w9.cell? ⟨o4, 2, none⟩ = some (.int .i64 cc) := hx.cell 2
      have g3 : w9.cell? ⟨o4, 3, none⟩ = some (.int .i64 cv) := hx.cell 3
      have g4 : w9.cell? ⟨o4, 4, none⟩ = some (.bool cd) := hx.cell 4)
    refine bodyPost_ret (v := .tuple #[.agg #[.int .i64 ck, .string ct, .int .i64 cc, .int .i64 cv, .bool cd], .bool false]) (by simp [results, Try.results28, go_sem, g0, g1, g2, g3, g4]) rfl ?_
    exact HQ.out ⟨ck, ct, cc, cv, cd⟩ w9 false _ (by rw [HN.out]; rfl) (by rw [HN.out]; exact maP_none _) hx.drop.drop.drop rfl
end Go.Proofs.Ytoeepbjnbgpmpaa
