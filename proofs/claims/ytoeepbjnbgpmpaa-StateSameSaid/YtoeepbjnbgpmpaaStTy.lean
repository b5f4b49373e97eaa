/- The document's state: a command's text. -/
import Derived.Test.YtoeepbjnbgpmpaaSJ
namespace Go.Proofs.Ytoeepbjnbgpmpaa
set_option linter.all false
open Go Go.RowKit

theorem subW_T (c : CmdM) : subW c cT = c.tb := if_pos rfl
theorem subW_K (c : CmdM) : subW c cK = mk (decL c.kk.toNat) := by unfold subW; rw [if_neg (by decide +kernel), if_pos rfl]
theorem subW_V (c : CmdM) : subW c cV = mk (decL c.vv.toNat) := by unfold subW; rw [if_neg (by decide +kernel), if_neg (by decide +kernel), if_pos rfl]
theorem subW_c (c : CmdM) (w : ByteArray) (h : w ≠ cT ∧ w ≠ cK ∧ w ≠ cV) : subW c w = w := by unfold subW; rw [if_neg h.1, if_neg h.2.1, if_neg h.2.2]
theorem subW_0 (c : CmdM) : subW c ⟨#[40]⟩ = ⟨#[40]⟩ := subW_c c _ (by decide +kernel)
theorem subW_1 (c : CmdM) : subW c ⟨#[41]⟩ = ⟨#[41]⟩ := subW_c c _ (by decide +kernel)
theorem subW_2 (c : CmdM) : subW c ⟨#[42]⟩ = ⟨#[42]⟩ := subW_c c _ (by decide +kernel)
theorem subW_3 (c : CmdM) : subW c ⟨#[43]⟩ = ⟨#[43]⟩ := subW_c c _ (by decide +kernel)
theorem subW_4 (c : CmdM) : subW c ⟨#[44]⟩ = ⟨#[44]⟩ := subW_c c _ (by decide +kernel)
theorem subW_5 (c : CmdM) : subW c ⟨#[49]⟩ = ⟨#[49]⟩ := subW_c c _ (by decide +kernel)
theorem subW_6 (c : CmdM) : subW c ⟨#[61]⟩ = ⟨#[61]⟩ := subW_c c _ (by decide +kernel)
theorem subW_7 (c : CmdM) : subW c ⟨#[99, 114, 101, 97, 116, 101]⟩ = ⟨#[99, 114, 101, 97, 116, 101]⟩ := subW_c c _ (by decide +kernel)
theorem subW_8 (c : CmdM) : subW c ⟨#[100, 101, 108, 101, 116, 101]⟩ = ⟨#[100, 101, 108, 101, 116, 101]⟩ := subW_c c _ (by decide +kernel)
theorem subW_9 (c : CmdM) : subW c ⟨#[102, 114, 111, 109]⟩ = ⟨#[102, 114, 111, 109]⟩ := subW_c c _ (by decide +kernel)
theorem subW_10 (c : CmdM) : subW c ⟨#[105, 110, 115, 101, 114, 116]⟩ = ⟨#[105, 110, 115, 101, 114, 116]⟩ := subW_c c _ (by decide +kernel)
theorem subW_11 (c : CmdM) : subW c ⟨#[105, 110, 116, 111]⟩ = ⟨#[105, 110, 116, 111]⟩ := subW_c c _ (by decide +kernel)
theorem subW_12 (c : CmdM) : subW c ⟨#[107]⟩ = ⟨#[107]⟩ := subW_c c _ (by decide +kernel)
theorem subW_13 (c : CmdM) : subW c ⟨#[115, 101, 108, 101, 99, 116]⟩ = ⟨#[115, 101, 108, 101, 99, 116]⟩ := subW_c c _ (by decide +kernel)
theorem subW_14 (c : CmdM) : subW c ⟨#[115, 101, 116]⟩ = ⟨#[115, 101, 116]⟩ := subW_c c _ (by decide +kernel)
theorem subW_15 (c : CmdM) : subW c ⟨#[116, 97, 98, 108, 101]⟩ = ⟨#[116, 97, 98, 108, 101]⟩ := subW_c c _ (by decide +kernel)
theorem subW_16 (c : CmdM) : subW c ⟨#[117, 112, 100, 97, 116, 101]⟩ = ⟨#[117, 112, 100, 97, 116, 101]⟩ := subW_c c _ (by decide +kernel)
theorem subW_17 (c : CmdM) : subW c ⟨#[118]⟩ = ⟨#[118]⟩ := subW_c c _ (by decide +kernel)
theorem subW_18 (c : CmdM) : subW c ⟨#[118, 97, 108, 117, 101, 115]⟩ = ⟨#[118, 97, 108, 117, 101, 115]⟩ := subW_c c _ (by decide +kernel)
theorem subW_19 (c : CmdM) : subW c ⟨#[119, 104, 101, 114, 101]⟩ = ⟨#[119, 104, 101, 114, 101]⟩ := subW_c c _ (by decide +kernel)
theorem tx_0 (tb : ByteArray) (kk vv : Int) (hg : guardB ⟨1, tb, kk, vv, false⟩ = true) : textB ⟨1, tb, kk, vv, false⟩ = ⟨#[115, 101, 108, 101, 99, 116, 32, 42, 32, 102, 114, 111, 109, 32]⟩ ++ tb ++ ⟨#[]⟩ := by
  unfold textB
  rw [if_pos hg]
  have hf : formOf 1 false fmL = some [⟨#[115, 101, 108, 101, 99, 116]⟩, ⟨#[42]⟩, ⟨#[102, 114, 111, 109]⟩, ⟨#[84]⟩] := by rfl
  simp only [hf, List.map_cons, List.map_nil, subW_T, subW_K, subW_V, subW_0, subW_1, subW_2, subW_3, subW_4, subW_5, subW_6, subW_7, subW_8, subW_9, subW_10, subW_11, subW_12, subW_13, subW_14, subW_15, subW_16, subW_17, subW_18, subW_19]
  apply ByteArray.ext
  simp [mk, joinL, bl]
theorem tx_1 (tb : ByteArray) (kk vv : Int) (hg : guardB ⟨1, tb, kk, vv, true⟩ = true) : textB ⟨1, tb, kk, vv, true⟩ = ⟨#[115, 101, 108, 101, 99, 116, 32, 42, 32, 102, 114, 111, 109, 32]⟩ ++ tb ++ (⟨#[32, 119, 104, 101, 114, 101, 32, 107, 32, 61, 32]⟩ ++ mk (decL kk.toNat)) := by
  unfold textB
  rw [if_pos hg]
  have hf : formOf 1 true fmL = some [⟨#[115, 101, 108, 101, 99, 116]⟩, ⟨#[42]⟩, ⟨#[102, 114, 111, 109]⟩, ⟨#[84]⟩, ⟨#[119, 104, 101, 114, 101]⟩, ⟨#[107]⟩, ⟨#[61]⟩, ⟨#[75]⟩] := by rfl
  simp only [hf, List.map_cons, List.map_nil, subW_T, subW_K, subW_V, subW_0, subW_1, subW_2, subW_3, subW_4, subW_5, subW_6, subW_7, subW_8, subW_9, subW_10, subW_11, subW_12, subW_13, subW_14, subW_15, subW_16, subW_17, subW_18, subW_19]
  apply ByteArray.ext
  simp [mk, joinL, bl]
theorem tx_2 (tb : ByteArray) (kk vv : Int) (hg : guardB ⟨2, tb, kk, vv, true⟩ = true) : textB ⟨2, tb, kk, vv, true⟩ = ⟨#[105, 110, 115, 101, 114, 116, 32, 105, 110, 116, 111, 32]⟩ ++ tb ++ ⟨#[32, 118, 97, 108, 117, 101, 115, 32, 40, 32]⟩ ++ mk (decL kk.toNat) ++ ⟨#[32, 44, 32]⟩ ++ mk (decL vv.toNat) ++ ⟨#[32, 41]⟩ := by
  unfold textB
  rw [if_pos hg]
  have hf : formOf 2 true fmL = some [⟨#[105, 110, 115, 101, 114, 116]⟩, ⟨#[105, 110, 116, 111]⟩, ⟨#[84]⟩, ⟨#[118, 97, 108, 117, 101, 115]⟩, ⟨#[40]⟩, ⟨#[75]⟩, ⟨#[44]⟩, ⟨#[86]⟩, ⟨#[41]⟩] := by rfl
  simp only [hf, List.map_cons, List.map_nil, subW_T, subW_K, subW_V, subW_0, subW_1, subW_2, subW_3, subW_4, subW_5, subW_6, subW_7, subW_8, subW_9, subW_10, subW_11, subW_12, subW_13, subW_14, subW_15, subW_16, subW_17, subW_18, subW_19]
  apply ByteArray.ext
  simp [mk, joinL, bl]
theorem tx_3 (tb : ByteArray) (kk vv : Int) (hg : guardB ⟨3, tb, kk, vv, true⟩ = true) : textB ⟨3, tb, kk, vv, true⟩ = ⟨#[117, 112, 100, 97, 116, 101, 32]⟩ ++ tb ++ ⟨#[32, 115, 101, 116, 32, 118, 32, 61, 32, 118, 32, 43, 32, 49]⟩ ++ (⟨#[32, 119, 104, 101, 114, 101, 32, 107, 32, 61, 32]⟩ ++ mk (decL kk.toNat)) := by
  unfold textB
  rw [if_pos hg]
  have hf : formOf 3 true fmL = some [⟨#[117, 112, 100, 97, 116, 101]⟩, ⟨#[84]⟩, ⟨#[115, 101, 116]⟩, ⟨#[118]⟩, ⟨#[61]⟩, ⟨#[118]⟩, ⟨#[43]⟩, ⟨#[49]⟩, ⟨#[119, 104, 101, 114, 101]⟩, ⟨#[107]⟩, ⟨#[61]⟩, ⟨#[75]⟩] := by rfl
  simp only [hf, List.map_cons, List.map_nil, subW_T, subW_K, subW_V, subW_0, subW_1, subW_2, subW_3, subW_4, subW_5, subW_6, subW_7, subW_8, subW_9, subW_10, subW_11, subW_12, subW_13, subW_14, subW_15, subW_16, subW_17, subW_18, subW_19]
  apply ByteArray.ext
  simp [mk, joinL, bl]
theorem tx_4 (tb : ByteArray) (kk vv : Int) (hg : guardB ⟨4, tb, kk, vv, false⟩ = true) : textB ⟨4, tb, kk, vv, false⟩ = ⟨#[100, 101, 108, 101, 116, 101, 32, 102, 114, 111, 109, 32]⟩ ++ tb ++ ⟨#[]⟩ := by
  unfold textB
  rw [if_pos hg]
  have hf : formOf 4 false fmL = some [⟨#[100, 101, 108, 101, 116, 101]⟩, ⟨#[102, 114, 111, 109]⟩, ⟨#[84]⟩] := by rfl
  simp only [hf, List.map_cons, List.map_nil, subW_T, subW_K, subW_V, subW_0, subW_1, subW_2, subW_3, subW_4, subW_5, subW_6, subW_7, subW_8, subW_9, subW_10, subW_11, subW_12, subW_13, subW_14, subW_15, subW_16, subW_17, subW_18, subW_19]
  apply ByteArray.ext
  simp [mk, joinL, bl]
theorem tx_5 (tb : ByteArray) (kk vv : Int) (hg : guardB ⟨4, tb, kk, vv, true⟩ = true) : textB ⟨4, tb, kk, vv, true⟩ = ⟨#[100, 101, 108, 101, 116, 101, 32, 102, 114, 111, 109, 32]⟩ ++ tb ++ (⟨#[32, 119, 104, 101, 114, 101, 32, 107, 32, 61, 32]⟩ ++ mk (decL kk.toNat)) := by
  unfold textB
  rw [if_pos hg]
  have hf : formOf 4 true fmL = some [⟨#[100, 101, 108, 101, 116, 101]⟩, ⟨#[102, 114, 111, 109]⟩, ⟨#[84]⟩, ⟨#[119, 104, 101, 114, 101]⟩, ⟨#[107]⟩, ⟨#[61]⟩, ⟨#[75]⟩] := by rfl
  simp only [hf, List.map_cons, List.map_nil, subW_T, subW_K, subW_V, subW_0, subW_1, subW_2, subW_3, subW_4, subW_5, subW_6, subW_7, subW_8, subW_9, subW_10, subW_11, subW_12, subW_13, subW_14, subW_15, subW_16, subW_17, subW_18, subW_19]
  apply ByteArray.ext
  simp [mk, joinL, bl]
theorem tx_6 (tb : ByteArray) (kk vv : Int) (hg : guardB ⟨5, tb, kk, vv, false⟩ = true) : textB ⟨5, tb, kk, vv, false⟩ = ⟨#[99, 114, 101, 97, 116, 101, 32, 116, 97, 98, 108, 101, 32]⟩ ++ tb := by
  unfold textB
  rw [if_pos hg]
  have hf : formOf 5 false fmL = some [⟨#[99, 114, 101, 97, 116, 101]⟩, ⟨#[116, 97, 98, 108, 101]⟩, ⟨#[84]⟩] := by rfl
  simp only [hf, List.map_cons, List.map_nil, subW_T, subW_K, subW_V, subW_0, subW_1, subW_2, subW_3, subW_4, subW_5, subW_6, subW_7, subW_8, subW_9, subW_10, subW_11, subW_12, subW_13, subW_14, subW_15, subW_16, subW_17, subW_18, subW_19]
  apply ByteArray.ext
  simp [mk, joinL, bl]
theorem tx_no (x : CmdM) (h : formOf x.kind x.kd fmL = none) : textB x = ⟨#[]⟩ := by
  unfold textB
  rw [h]
  split <;> rfl
theorem form_other (kind : Int) (kd : Bool) (h : kind ≠ 1 ∧ kind ≠ 2 ∧ kind ≠ 3 ∧ kind ≠ 4 ∧ kind ≠ 5) : formOf kind kd fmL = none := by
  obtain ⟨h1, h2, h3, h4, h5⟩ := h
  simp [formOf, h1, h2, h3, h4, h5, Ne.symm h1, Ne.symm h2, Ne.symm h3, Ne.symm h4, Ne.symm h5]


set_option maxRecDepth 100000 in
set_option maxHeartbeats 8000000 in
theorem rtext_any (k : Env) (w : World) (R : Assn) (x : CmdM) (hs : x.tb.size ≤ 100000) (h : Sat k w R) :
    Calls Try.prog 13 #[cmV x] w fun e w' => e = .returned (.string (textB x)) ∧ Sat k w' R := by
  obtain ⟨res, hres⟩ : ∃ res, textB x = res := ⟨_, rfl⟩
  rw [hres]
  have h0 := h.alloc (.cells #[.int .i64 x.kind, .string x.tb, .int .i64 x.kk, .int .i64 x.vv, .bool x.kd] 24)
  obtain ⟨kind, tb, kk, vv, kd⟩ := x
  simp only at h0 hs
  have HRES := Lib.hid hres
  have HS := Lib.hid hs
  clear h hres hs
  go_enter Try.func13, Try.ntmps13
  go_upto_region 1 with fail
  generalize w.alloc (.cells #[.int .i64 kind, .string tb, .int .i64 kk, .int .i64 vv, .bool kd] 24) = w0 at *
  generalize w.heap.size = o at *
  go_cut [39] (fun s39 wx => ∃ t, s39 = .bool t ∧ Hid (GdP t ⟨kind, tb, kk, vv, kd⟩) ∧ Sat k wx (blk o (cmO ⟨kind, tb, kk, vv, kd⟩) * R))
  case first =>
    have c1 : w0.cell? ⟨o, 1, none⟩ = some (.string tb) := h0.cell 1
    have HCE : Hid (∀ {w' : World} {R' : Assn}, Sat k w' (blk o (cmO ⟨kind, tb, kk, vv, kd⟩) * R') → w'.cell? ⟨o, 0, none⟩ = some (.int .i64 kind) ∧ w'.cell? ⟨o, 2, none⟩ = some (.int .i64 kk) ∧ w'.cell? ⟨o, 3, none⟩ = some (.int .i64 vv) ∧ w'.cell? ⟨o, 4, none⟩ = some (.bool kd)) := fun q => ⟨q.cell 0, q.cell 2, q.cell 3, q.cell 4⟩
    have C1 := name8_any k w0 _ tb HS.out h0
    have C2 := fun w => rin8_any w kk
    have C3 := fun w => rin8_any w vv
    have hg : guardB ⟨kind, tb, kk, vv, kd⟩ = (nameB tb && (inB kk && (inB vv && ((kd || decide (kk = 0)) && (decide (kind = 2) || decide (vv = 0)))))) := rfl
    have hi2 := inB_iff kk
    have hi3 := inB_iff vv
    generalize nameB tb = b1 at *
    generalize inB kk = b2 at *
    generalize inB vv = b3 at *
    have D1 := Lib.hid C1
    have C2' := Lib.hid C2
    have C3' := Lib.hid C3
    have hgd : ∀ t, t = !(b1 && (b2 && (b3 && ((kd || decide (kk = 0)) && (decide (kind = 2) || decide (vv = 0)))))) → Hid (GdP t ⟨kind, tb, kk, vv, kd⟩) := by
      intro t ht
      unfold Hid GdP
      rw [hg, ht]
    have HGD := Lib.hid hgd
    clear C1 C2 C3 hg hgd h0
    have C2 := C2'
    have C3 := C3'
    clear C2' C3'
    cases b1 with
    | false =>
      have HG := HGD.out true rfl
      clear hi2 hi3
      go_wp2_with (
        (first | (go_at_call 34; (with_reducible refine (D1.out).mono ?_); rintro e w1 ⟨rfl, h1⟩; obtain ⟨c0, c2, c3, c4⟩ := HCE.out h1) | (go_at_call 35; (first | (with_reducible refine (C2.out _).mono ?_) | (with_reducible refine (C3.out _).mono ?_)); rintro e w5 ⟨rfl, rfl⟩)))
      (
        go_meet
        case rel => first | exact ⟨_, rfl, HG, h1⟩ | exact ⟨_, rfl, by rw [hvd]; exact HG, h1⟩)
    | true =>
      cases b2 with
      | false =>
        have HG := HGD.out true rfl
        clear hi2 hi3
        go_wp2_with (
          (first | (go_at_call 34; (with_reducible refine (D1.out).mono ?_); rintro e w1 ⟨rfl, h1⟩; obtain ⟨c0, c2, c3, c4⟩ := HCE.out h1) | (go_at_call 35; (first | (with_reducible refine (C2.out _).mono ?_) | (with_reducible refine (C3.out _).mono ?_)); rintro e w5 ⟨rfl, rfl⟩)))
        (
          go_meet
          case rel => first | exact ⟨_, rfl, HG, h1⟩ | exact ⟨_, rfl, by rw [hvd]; exact HG, h1⟩)
      | true =>
        cases b3 with
        | false =>
          have HG := HGD.out true rfl
          clear hi2 hi3
          go_wp2_with (
            (first | (go_at_call 34; (with_reducible refine (D1.out).mono ?_); rintro e w1 ⟨rfl, h1⟩; obtain ⟨c0, c2, c3, c4⟩ := HCE.out h1) | (go_at_call 35; (first | (with_reducible refine (C2.out _).mono ?_) | (with_reducible refine (C3.out _).mono ?_)); rintro e w5 ⟨rfl, rfl⟩)))
          (
            go_meet
            case rel => first | exact ⟨_, rfl, HG, h1⟩ | exact ⟨_, rfl, by rw [hvd]; exact HG, h1⟩)
        | true =>
          have hkk := (hi2.1 rfl).1
          have hvv := (hi3.1 rfl).1
          clear hi2 hi3
          cases kd with
          | true =>
            by_cases hk2 : kind = 2
            · have e1 : ((kind : Int) == 2) = true := by simp [hk2]
              have e2 : ((kind : Int) != 2) = false := by simp [hk2]
              have HG := HGD.out false (by rw [decide_eq_true hk2]; rfl)
              clear hk2
              go_wp2_with (
                (first | (go_at_call 34; (with_reducible refine (D1.out).mono ?_); rintro e w1 ⟨rfl, h1⟩; obtain ⟨c0, c2, c3, c4⟩ := HCE.out h1) | (go_at_call 35; (first | (with_reducible refine (C2.out _).mono ?_) | (with_reducible refine (C3.out _).mono ?_)); rintro e w5 ⟨rfl, rfl⟩)))
              (
                go_meet
                case rel => first | exact ⟨_, rfl, HG, h1⟩ | exact ⟨_, rfl, by rw [hvd]; exact HG, h1⟩)
            · have e1 : ((kind : Int) == 2) = false := by simp [hk2]
              have e2 : ((kind : Int) != 2) = true := by simp [hk2]
              by_cases hv : vv ≠ 0
              · have v1 : ((vv : Int) == 0) = false := by simp [hv]
                have v2 : ((vv : Int) != 0) = true := by simp [hv]
                have HG := HGD.out true (by rw [decide_eq_false hk2, decide_eq_false hv]; rfl)
                clear hk2
                go_wp2_with (
                  (first | (go_at_call 34; (with_reducible refine (D1.out).mono ?_); rintro e w1 ⟨rfl, h1⟩; obtain ⟨c0, c2, c3, c4⟩ := HCE.out h1) | (go_at_call 35; (first | (with_reducible refine (C2.out _).mono ?_) | (with_reducible refine (C3.out _).mono ?_)); rintro e w5 ⟨rfl, rfl⟩)))
                (
                  go_meet
                  case rel => first | exact ⟨_, rfl, HG, h1⟩ | exact ⟨_, rfl, by rw [hvd]; exact HG, h1⟩)
              · have hv0 : vv = 0 := by omega
                have v1 : ((vv : Int) == 0) = true := by simp [hv0]
                have v2 : ((vv : Int) != 0) = false := by simp [hv0]
                have hvd : True := trivial
                have HG := HGD.out false (by rw [decide_eq_false hk2, decide_eq_true hv0]; rfl)
                clear hk2 hv0 hv
                go_wp2_with (
                  (first | (go_at_call 34; (with_reducible refine (D1.out).mono ?_); rintro e w1 ⟨rfl, h1⟩; obtain ⟨c0, c2, c3, c4⟩ := HCE.out h1) | (go_at_call 35; (first | (with_reducible refine (C2.out _).mono ?_) | (with_reducible refine (C3.out _).mono ?_)); rintro e w5 ⟨rfl, rfl⟩)))
                (
                  go_meet
                  case rel => first | exact ⟨_, rfl, HG, h1⟩ | exact ⟨_, rfl, by rw [hvd]; exact HG, h1⟩)
          | false =>
            by_cases hk : kk ≠ 0
            · have u1 : ((kk : Int) == 0) = false := by simp [hk]
              have u2 : ((kk : Int) != 0) = true := by simp [hk]
              have HG := HGD.out true (by rw [decide_eq_false hk]; rfl)
              go_wp2_with (
                (first | (go_at_call 34; (with_reducible refine (D1.out).mono ?_); rintro e w1 ⟨rfl, h1⟩; obtain ⟨c0, c2, c3, c4⟩ := HCE.out h1) | (go_at_call 35; (first | (with_reducible refine (C2.out _).mono ?_) | (with_reducible refine (C3.out _).mono ?_)); rintro e w5 ⟨rfl, rfl⟩)))
              (
                go_meet
                case rel => first | exact ⟨_, rfl, HG, h1⟩ | exact ⟨_, rfl, by rw [hvd]; exact HG, h1⟩)
            · have hk0 : decide (kk = 0) = true := decide_eq_true (by omega)
              have hz : kk = 0 := by omega
              have u1 : ((kk : Int) == 0) = true := by simp [hz]
              have u2 : ((kk : Int) != 0) = false := by rw [bne, u1]; rfl
              clear hz
              by_cases hk2 : kind = 2
              · have e1 : ((kind : Int) == 2) = true := by simp [hk2]
                have e2 : ((kind : Int) != 2) = false := by simp [hk2]
                have HG := HGD.out false (by rw [decide_eq_true hk2]; rw [hk0]; rfl)
                clear hk2
                go_wp2_with (
                  (first | (go_at_call 34; (with_reducible refine (D1.out).mono ?_); rintro e w1 ⟨rfl, h1⟩; obtain ⟨c0, c2, c3, c4⟩ := HCE.out h1) | (go_at_call 35; (first | (with_reducible refine (C2.out _).mono ?_) | (with_reducible refine (C3.out _).mono ?_)); rintro e w5 ⟨rfl, rfl⟩)))
                (
                  go_meet
                  case rel => first | exact ⟨_, rfl, HG, h1⟩ | exact ⟨_, rfl, by rw [hvd]; exact HG, h1⟩)
              · have e1 : ((kind : Int) == 2) = false := by simp [hk2]
                have e2 : ((kind : Int) != 2) = true := by simp [hk2]
                by_cases hv : vv ≠ 0
                · have v1 : ((vv : Int) == 0) = false := by simp [hv]
                  have v2 : ((vv : Int) != 0) = true := by simp [hv]
                  have HG := HGD.out true (by rw [decide_eq_false hk2, decide_eq_false hv]; rw [hk0]; rfl)
                  clear hk2
                  go_wp2_with (
                    (first | (go_at_call 34; (with_reducible refine (D1.out).mono ?_); rintro e w1 ⟨rfl, h1⟩; obtain ⟨c0, c2, c3, c4⟩ := HCE.out h1) | (go_at_call 35; (first | (with_reducible refine (C2.out _).mono ?_) | (with_reducible refine (C3.out _).mono ?_)); rintro e w5 ⟨rfl, rfl⟩)))
                  (
                    go_meet
                    case rel => first | exact ⟨_, rfl, HG, h1⟩ | exact ⟨_, rfl, by rw [hvd]; exact HG, h1⟩)
                · have hv0 : vv = 0 := by omega
                  have v1 : ((vv : Int) == 0) = true := by simp [hv0]
                  have v2 : ((vv : Int) != 0) = false := by simp [hv0]
                  have hvd : True := trivial
                  have HG := HGD.out false (by rw [decide_eq_false hk2, decide_eq_true hv0]; rw [hk0]; rfl)
                  clear hk2 hv0 hv
                  go_wp2_with (
                    (first | (go_at_call 34; (with_reducible refine (D1.out).mono ?_); rintro e w1 ⟨rfl, h1⟩; obtain ⟨c0, c2, c3, c4⟩ := HCE.out h1) | (go_at_call 35; (first | (with_reducible refine (C2.out _).mono ?_) | (with_reducible refine (C3.out _).mono ?_)); rintro e w5 ⟨rfl, rfl⟩)))
                  (
                    go_meet
                    case rel => first | exact ⟨_, rfl, HG, h1⟩ | exact ⟨_, rfl, by rw [hvd]; exact HG, h1⟩)
  case rest =>
    clear h0
    obtain ⟨t, rfl, HG, h0⟩ := hcut
    cases t with
    | true =>
      obtain rfl : res = ⟨#[]⟩ := by
        have hg := HG.out
        unfold GdP at hg
        rw [← HRES.out]
        unfold textB
        rw [if_neg (by intro q; rw [q] at hg; cases hg)]
      clear HG
      go_wp2_with fail
      go_ret
      exact ⟨rfl, h0.drop⟩
    | false =>
      have hgd : guardB ⟨kind, tb, kk, vv, kd⟩ = true := by
        have hg := HG.out
        unfold GdP at hg
        cases q : guardB ⟨kind, tb, kk, vv, kd⟩ with
        | true => rfl
        | false => rw [q] at hg; cases hg
      have HGD := Lib.hid hgd
      have HTB : Hid (tb.size ≤ 30 ∧ (0 ≤ kk ∧ kk ≤ 999999) ∧ 0 ≤ vv ∧ vv ≤ 999999) := by
        have hg := hgd
        unfold guardB nameB at hg
        simp only [Bool.and_eq_true, decide_eq_true_eq] at hg
        exact ⟨hg.1.2.1, (inB_iff kk).1 hg.2.1, (inB_iff vv).1 hg.2.2.1⟩
      clear HG hgd
      have b2 : wc.cell? ⟨o, 2, none⟩ = some (.int .i64 kk) := h0.cell 2
      have hkk : ((kk.toNat : Nat) : Int) = kk := Int.toNat_of_nonneg HTB.out.2.1.1
      have D := rdig_any k 5 kk.toNat wc _ (by have := HTB.out.2.1.2; omega) (by decide) h0
      rw [hkk] at D
      have D9 := Lib.hid D
      have hds : (mk (decL kk.toNat)).size ≤ 6 := by rw [mk_size]; exact decF_len 5 _
      have hde : (mk (decF 5 kk.toNat)) = mk (decL kk.toNat) := rfl
      rw [hde] at D9
      have T0 := fun hg => tx_0 tb kk vv hg
      have T1 := fun hg => tx_1 tb kk vv hg
      have T2 := fun hg => tx_2 tb kk vv hg
      have T3 := fun hg => tx_3 tb kk vv hg
      have T4 := fun hg => tx_4 tb kk vv hg
      have T5 := fun hg => tx_5 tb kk vv hg
      have T6 := fun hg => tx_6 tb kk vv hg
      have HVD : Hid (∀ w' R', Sat k w' R' → Calls Try.prog 36 #[.int .i64 vv] w' fun e w' => e = .returned (.string (mk (decL vv.toNat))) ∧ Sat k w' R') := by
        intro w' R' q
        have hvv : ((vv.toNat : Nat) : Int) = vv := Int.toNat_of_nonneg HTB.out.2.2.1
        have D := rdig_any k 5 vv.toNat w' R' (by have := HTB.out.2.2.2; omega) (by decide) q
        rw [hvv] at D
        exact D
      have HKD : Hid (∀ w' R', Sat k w' R' → Calls Try.prog 36 #[.int .i64 kk] w' fun e w' => e = .returned (.string (mk (decL kk.toNat))) ∧ Sat k w' R') := by
        intro w' R' q
        have D := rdig_any k 5 kk.toNat w' R' (by have := HTB.out.2.1.2; omega) (by decide) q
        rw [hkk] at D
        exact D
      have hvs : (mk (decL vv.toNat)).size ≤ 6 := by rw [mk_size]; exact decF_len 5 _
      generalize mk (decL kk.toNat) = dk at *
      generalize mk (decL vv.toNat) = dv at *
      have T0 := Lib.hid T0
      have T1 := Lib.hid T1
      have T2 := Lib.hid T2
      have T3 := Lib.hid T3
      have T4 := Lib.hid T4
      have T5 := Lib.hid T5
      have T6 := Lib.hid T6
      have htb := HTB.out.1
      have z0 : ¬ 9223372036854775807 < 11 + dk.size := by omega
      clear D hkk hde
      go_upto_region 4 with (go_at_call 36; (with_reducible refine (D9.out).mono ?_); rintro e w1 ⟨rfl, h1⟩)
      clear D9 b2 h0
      have c0 : w1.cell? ⟨o, 0, none⟩ = some (.int .i64 kind) := h1.cell 0
      have c1 : w1.cell? ⟨o, 1, none⟩ = some (.string tb) := h1.cell 1
      have c4 : w1.cell? ⟨o, 4, none⟩ = some (.bool kd) := h1.cell 4
      have HG2 := Lib.hid HGD.out
      have HO : Hid (∀ {w' : World}, Sat k w' (blk o (cmO ⟨kind, tb, kk, vv, kd⟩) * R) → w'.cell? ⟨o, 1, none⟩ = some (.string tb) ∧ w'.cell? ⟨o, 2, none⟩ = some (.int .i64 kk) ∧ w'.cell? ⟨o, 3, none⟩ = some (.int .i64 vv)) := fun q => ⟨q.cell 1, q.cell 2, q.cell 3⟩
      have HOR : Hid (∀ {w' : World}, Sat k w' (blk o (cmO ⟨kind, tb, kk, vv, kd⟩) * R) → Sat k w' R) := fun q => q.drop
      obtain ⟨Pz, hP, h2⟩ : ∃ Pz, Pz = blk o (cmO ⟨kind, tb, kk, vv, kd⟩) * R ∧ Sat k w1 Pz := ⟨_, rfl, h1⟩
      rw [← hP] at HO HOR
      have HFE : Hid (formOf kind kd fmL = none → textB ⟨kind, tb, kk, vv, kd⟩ = ⟨#[]⟩) := fun q => tx_no ⟨kind, tb, kk, vv, kd⟩ q
      clear h1 hP
      by_cases hk1 : kind = 1
      · subst hk1
        cases kd with
        | false =>
          · obtain rfl := HRES.out.symm.trans (T0.out HG2.out)
            have y0 : ¬ 9223372036854775807 < 14 + tb.size := by omega
            have y1 : ¬ 9223372036854775807 < 14 + tb.size + 0 := by omega
            clear HRES T0 T1 T2 T3 T4 T5 T6 HFE HGD HG2
            go_wp2_with fail
            go_ret
            exact ⟨rfl, HOR.out h2⟩
        | true =>
          · obtain rfl := HRES.out.symm.trans (T1.out HG2.out)
            have y0 : ¬ 9223372036854775807 < 14 + tb.size := by omega
            have y1 : ¬ 9223372036854775807 < 14 + tb.size + (11 + dk.size) := by omega
            clear HRES T0 T1 T2 T3 T4 T5 T6 HFE HGD HG2
            go_wp2_with fail
            go_ret
            exact ⟨rfl, HOR.out h2⟩
      · by_cases hk2 : kind = 2
        · subst hk2
          cases kd with
          | false =>
            · obtain rfl := HRES.out.symm.trans (HFE.out (by rfl))
              clear HRES T0 T1 T2 T3 T4 T5 T6 HFE HGD HG2
              go_wp2_with fail
              go_ret
              exact ⟨rfl, HOR.out h2⟩
          | true =>
            · obtain rfl := HRES.out.symm.trans (T2.out HG2.out)
              have y0 : ¬ 9223372036854775807 < 12 + tb.size := by omega
              have y1 : ¬ 9223372036854775807 < 12 + tb.size + 10 := by omega
              have y2 : ¬ 9223372036854775807 < 12 + tb.size + 10 + dk.size := by omega
              have y3 : ¬ 9223372036854775807 < 12 + tb.size + 10 + dk.size + 3 := by omega
              have y4 : ¬ 9223372036854775807 < 12 + tb.size + 10 + dk.size + 3 + dv.size := by omega
              have y5 : ¬ 9223372036854775807 < 12 + tb.size + 10 + dk.size + 3 + dv.size + 2 := by omega
              clear HRES T0 T1 T2 T3 T4 T5 T6 HFE HGD HG2 c1
              go_upto_region 12 with fail
              go_region_held3 (fun w' => w'.cell? ⟨o, 1, none⟩ = some (.string tb) ∧ w'.cell? ⟨o, 2, none⟩ = some (.int .i64 kk) ∧ w'.cell? ⟨o, 3, none⟩ = some (.int .i64 vv)) (first | exact HO.out (by assumption) | fail) (first | (go_at_call 36; (first | (with_reducible refine (HKD.out _ _ (by first | assumption | exact Sat.drew (by assumption))).mono ?_) | (with_reducible refine (HVD.out _ _ (by first | assumption | exact Sat.drew (by assumption))).mono ?_)); rintro e w5 ⟨rfl, h5⟩) | fail)
              all_goals
                go_wp2_with fail
                go_ret
                exact ⟨rfl, HOR.out (by assumption)⟩
        · by_cases hk3 : kind = 3
          · subst hk3
            cases kd with
            | false =>
              · obtain rfl := HRES.out.symm.trans (HFE.out (by rfl))
                clear HRES T0 T1 T2 T3 T4 T5 T6 HFE HGD HG2
                go_wp2_with fail
                go_ret
                exact ⟨rfl, HOR.out h2⟩
            | true =>
              · obtain rfl := HRES.out.symm.trans (T3.out HG2.out)
                have y0 : ¬ 9223372036854775807 < 7 + tb.size := by omega
                have y1 : ¬ 9223372036854775807 < 7 + tb.size + 14 := by omega
                have y2 : ¬ 9223372036854775807 < 7 + tb.size + 14 + (11 + dk.size) := by omega
                clear HRES T0 T1 T2 T3 T4 T5 T6 HFE HGD HG2
                go_wp2_with fail
                go_ret
                exact ⟨rfl, HOR.out h2⟩
          · by_cases hk4 : kind = 4
            · subst hk4
              cases kd with
              | false =>
                · obtain rfl := HRES.out.symm.trans (T4.out HG2.out)
                  have y0 : ¬ 9223372036854775807 < 12 + tb.size := by omega
                  have y1 : ¬ 9223372036854775807 < 12 + tb.size + 0 := by omega
                  clear HRES T0 T1 T2 T3 T4 T5 T6 HFE HGD HG2
                  go_wp2_with fail
                  go_ret
                  exact ⟨rfl, HOR.out h2⟩
              | true =>
                · obtain rfl := HRES.out.symm.trans (T5.out HG2.out)
                  have y0 : ¬ 9223372036854775807 < 12 + tb.size := by omega
                  have y1 : ¬ 9223372036854775807 < 12 + tb.size + (11 + dk.size) := by omega
                  clear HRES T0 T1 T2 T3 T4 T5 T6 HFE HGD HG2
                  go_wp2_with fail
                  go_ret
                  exact ⟨rfl, HOR.out h2⟩
            · by_cases hk5 : kind = 5
              · subst hk5
                cases kd with
                | false =>
                  · obtain rfl := HRES.out.symm.trans (T6.out HG2.out)
                    have y0 : ¬ 9223372036854775807 < 13 + tb.size := by omega
                    clear HRES T0 T1 T2 T3 T4 T5 T6 HFE HGD HG2
                    go_wp2_with fail
                    go_ret
                    exact ⟨rfl, HOR.out h2⟩
                | true =>
                  · obtain rfl := HRES.out.symm.trans (HFE.out (by rfl))
                    clear HRES T0 T1 T2 T3 T4 T5 T6 HFE HGD HG2
                    go_wp2_with fail
                    go_ret
                    exact ⟨rfl, HOR.out h2⟩
              · obtain rfl := HRES.out.symm.trans (HFE.out (form_other _ _ ⟨hk1, hk2, hk3, hk4, hk5⟩))
                have k1 : ((kind : Int) == 1) = false := by simp [hk1]
                have k2 : ((kind : Int) == 2) = false := by simp [hk2]
                have k3 : ((kind : Int) == 3) = false := by simp [hk3]
                have k4 : ((kind : Int) == 4) = false := by simp [hk4]
                have k5 : ((kind : Int) == 5) = false := by simp [hk5]
                clear HRES T0 T1 T2 T3 T4 T5 T6 HFE HGD HG2 hk1 hk2 hk3 hk4 hk5
                go_wp2_with fail
                go_ret
                exact ⟨rfl, HOR.out h2⟩

end Go.Proofs.Ytoeepbjnbgpmpaa
