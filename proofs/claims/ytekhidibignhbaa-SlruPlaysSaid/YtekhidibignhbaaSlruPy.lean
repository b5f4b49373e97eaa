/- The law SlruPlays, walked. -/
import Derived.Test.YtekhidibignhbaaSlruR4
import Derived.Test.YtekhidibignhbaaRw
import Derived.Deep.DeepCutAuto
import Derived.Deep.CutBlock
import Derived.Deep.RegionHeld3
namespace Go.Proofs.Ytekhidibignhbaa
set_option linter.unusedSimpArgs false
set_option linter.unusedVariables false
open Go Go.RowKit

/-- What a program's store and the document's hold: the same. -/
def BothV (b c : Nat) (al kp mo : Int) (R : Assn) (k : Env) (w : World) : Prop := ∃ T K : List KV, Sat k w (StoreV b al kp mo T K * (RefV c al kp mo T K * R))
def FactsV (al kp : Int) (T K : List KV) : Prop := NdV T K ∧ posV T ∧ posV K ∧ sumV T + sumV K ≤ al ∧ sumV K ≤ kp ∧ al ≤ 1073741824 ∧ (T.length : Int) + K.length ≤ 1073741824
theorem sv_factsV {k : Env} {w : World} {b : Nat} {al kp mo : Int} {t kk : List KV} {R : Assn} (h : Sat k w (StoreV b al kp mo t kk * R)) : FactsV al kp t kk := by
  obtain ⟨f1, f2, f3, f4, f5, f6, f7, _, _⟩ := sv_facts h
  exact ⟨f3, f6, f7, f1, f2, f5, by omega⟩

section
variable (k : Env) (w : World) (R : Assn) (b : Nat) (al kp mo : Int) (t kk : List KV) (h : Sat k w (StoreV b al kp mo t kk * R))
include h
theorem keysF : Calls Try.prog 10 #[.pointer (some ⟨b, 0, none⟩), .bool false] w fun e w' => ∃ v, e = .returned v ∧ Sat k w' (Strs v (t.map (·.1)) * (StoreV b al kp mo t kk * R)) := by
  refine (keys_any k w R b al kp mo t kk false h).mono ?_
  rintro e w' ⟨v, rfl, h1⟩
  exact ⟨v, rfl, h1⟩
theorem keysT : Calls Try.prog 10 #[.pointer (some ⟨b, 0, none⟩), .bool true] w fun e w' => ∃ v, e = .returned v ∧ Sat k w' (Strs v (kk.map (·.1)) * (StoreV b al kp mo t kk * R)) := by
  refine (keys_any k w R b al kp mo t kk true h).mono ?_
  rintro e w' ⟨v, rfl, h1⟩
  exact ⟨v, rfl, h1⟩
end

set_option maxRecDepth 100000 in
set_option maxHeartbeats 16000000 in
theorem walkSlruPlays (W : World) (hs : List Int) (hl : hs.length = 3) (hw : ∀ z ∈ hs, (Lit.int .i64 z).wf = true) (a : Option Addr) (len cap : Nat) (xs : List (List Value)) (z : IsRecs W a len cap 3 okOp xs) :
    Calls Try.prog 6 #[.agg (hs.map (Value.int .i64)).toArray, .slice a len cap] W fun e w' => e = .returned (.bool true) ∧ Below W.heap.size W w' := by
  obtain ⟨al, kp, mo, rfl⟩ : ∃ p q r, hs = [p, q, r] := by
    match hs, hl with
    | [p, q, r], _ => exact ⟨p, q, r, rfl⟩
  clear hl hw
  have hz := (Sat.whole W).alloc (.cells #[.int .i64 al, .int .i64 kp, .int .i64 mo] 47)
  by_cases hbad : badNew al kp mo
  · go_enter Try.func6, Try.ntmps6
    go_wp2_with fail
    refine (new_bad _ al kp mo hbad).mono ?_
    rintro e w1 ⟨rfl, rfl⟩
    go_wp2_with fail
    refine (rnew_bad _ _ _ al kp mo hbad hz.drop).mono ?_
    rintro e w1 ⟨c, rfl, h1⟩
    go_wp2_with fail
    go_loopw [5, 9] (fun s i wr => s = .pointer none ∧ i = .int .i64 0 ∧ Sat (World.env W) wr (whole W)) (fun s i _ => 0)
    case atStart => exact ⟨rfl, rfl, h1⟩
    case round =>
      obtain ⟨rfl, rfl, hr⟩ := hrel
      go_wp2_with fail
      all_goals
        refine (known_any _ _ _ hr).mono ?_
        rintro e w6 ⟨rfl, h6⟩
        go_wp2_with fail
        go_ret
        exact ⟨rfl, h6.below⟩
  · unfold badNew at hbad
    have p1 : 1 ≤ al := by omega
    have p2 : al ≤ 1073741824 := by omega
    have p3 : 0 ≤ kp := by omega
    have p4 : kp ≤ al := by omega
    have p5 : 1 ≤ mo := by omega
    have p6 : mo ≤ al := by omega
    clear hbad
    go_enter Try.func6, Try.ntmps6
    go_wp2_with fail
    refine (new_any _ _ _ al kp mo p1 p2 p3 p4 p5 p6 hz).mono ?_
    rintro e w1 ⟨b, rfl, h1⟩
    have q0 : w1.cell? ⟨W.heap.size, 0, none⟩ = some (.int .i64 al) := h1.swap.cell 0
    have q1 : w1.cell? ⟨W.heap.size, 1, none⟩ = some (.int .i64 kp) := h1.swap.cell 1
    have q2 : w1.cell? ⟨W.heap.size, 2, none⟩ = some (.int .i64 mo) := h1.swap.cell 2
    go_wp2_with fail
    refine (rnew_any _ _ _ al kp mo p1 p2 p3 p4 p5 p6 h1).mono ?_
    rintro e w2 ⟨c, rfl, h2⟩
    clear q0 q1 q2 h1 hz
    have h3 := h2.swap.drop3
    go_wp2_with fail
    clear h2
    go_loopw [5, 9] (fun s5 i wr => ∃ b' j : Nat, j ≤ len ∧ j ≤ 60 ∧ i = .int .i64 j ∧ s5 = .pointer (some ⟨b', 0, none⟩) ∧ BothV b' c al kp mo (whole W) (World.env W) wr) (fun _ i _ => 60 - (intOf i).toNat)
    case atStart => exact ⟨b, 0, Nat.zero_le _, Nat.zero_le _, rfl, rfl, _, _, h3⟩
    case round =>
      clear h3
      obtain ⟨b, j, hj, hj2, rfl, rfl, T, K, hr⟩ := hrel
      by_cases hlt : j < len ∧ j < 60
      · obtain ⟨hlt, hlt2⟩ := hlt
        obtain ⟨g, o, cs, rfl, _, _, ⟨kd, key, sz, rfl, _, _, _⟩, hcs⟩ := rec_at z (by decide) j hlt
        obtain ⟨hg, q0⟩ := whole_at hr.drop.drop (hcs 0 (by decide))
        obtain ⟨_, q1⟩ := whole_at hr.drop.drop (hcs 1 (by decide))
        obtain ⟨_, q2⟩ := whole_at hr.drop.drop (hcs 2 (by decide))
        simp only [Nat.add_zero] at q0
        clear hcs
        by_cases hkl : 100 < key.size
        · go_wp2_with fail
          go_roundw
          case rel => exact ⟨b, j + 1, by omega, by omega, by go_num, rfl, T, K, hr.alloc' _⟩
          case measure => simp [intOf]; omega
        have hkl' : ¬ (100 : Int) < (key.size : Int) := by omega
        clear hkl
        go_upto_block 2 with fail
        have h3 := hr.alloc (.cells #[.int .i64 kd, .string key, .int .i64 sz] 29)
        generalize wr.alloc (Obj.cells #[Value.int IntKind.i64 kd, Value.string key, Value.int IntKind.i64 sz] 29) = w0 at *
        generalize wr.heap.size = og at *
        replace h3 := h3.put3
        have hF := sv_factsV h3
        have a0 : w0.cell? ⟨og, 0, none⟩ = some (.int .i64 kd) := h3.drop.drop.cell 0
        have a1 : w0.cell? ⟨og, 1, none⟩ = some (.string key) := h3.drop.drop.cell 1
        have a2 : w0.cell? ⟨og, 2, none⟩ = some (.int .i64 sz) := h3.drop.drop.cell 2
        clear hr hg q0 q1 q2
        go_cut [5] (fun s5 wx => ∃ b' : Nat, s5 = .pointer (some ⟨b', 0, none⟩) ∧ BothV b' c al kp mo (blk og (.cells #[.int .i64 kd, .string key, .int .i64 sz] 29) * whole W) (World.env W) wx)
        case first =>
          obtain ⟨f1, f2, f3, f4, f5, f6, f7⟩ := hF
          have HF := Lib.hid (And.intro f1 (And.intro f2 f3))
          clear f1 f2 f3
          by_cases k0 : kd = 0
          · subst k0
            by_cases ho : 1 ≤ sz ∧ sz ≤ mo
            · as_aux_lemma =>
                obtain ⟨ho1, ho2⟩ := ho
                go_wp2_with fail
                refine (put_ok _ _ _ b al kp mo T K key sz ho1 ho2 h3).mono ?_
                rintro e w3 ⟨v3, rfl, h4⟩
                obtain ⟨la, lc, rfl⟩ := own_val h4
                have a1 : w3.cell? ⟨og, 1, none⟩ = some (.string key) := h4.drop.drop.drop.cell 1
                have a2 : w3.cell? ⟨og, 2, none⟩ = some (.int .i64 sz) := h4.drop.drop.drop.cell 2
                go_wp2_with fail
                obtain ⟨f1, f2, f3⟩ := HF.out
                refine (rput_ok _ _ _ c al kp mo T K key sz ho1 ho2 p6 p2 f1 f2 f3 f4 h4.get3).mono ?_
                clear f1 f2 f3
                rintro e w4 ⟨v4, rfl, h5⟩
                obtain ⟨lb, ld, rfl⟩ := own_val h5
                generalize (roomR al key sz T K).2.2 = G at *
                go_wp2_with fail
                refine (texts_eq _ _ _ _ _ G G h5.get3).mono ?_
                rintro e w5 ⟨rfl, h6⟩
                rw [decide_eq_true (rfl : G = G)]
                go_wp2_with fail
                go_meet
                case rel => exact ⟨b, rfl, _, _, h6.drop.drop.swap⟩
            · as_aux_lemma =>
                have hz' : sz < 1 ∨ mo < sz := by omega
                go_wp2_with fail
                refine (put_bad _ _ _ b al kp mo T K key sz hz' h3).mono ?_
                rintro e w3 ⟨rfl, h4⟩
                have a1 : w3.cell? ⟨og, 1, none⟩ = some (.string key) := h4.drop.drop.cell 1
                have a2 : w3.cell? ⟨og, 2, none⟩ = some (.int .i64 sz) := h4.drop.drop.cell 2
                go_wp2_with fail
                refine (rput_bad _ _ _ c al kp mo T K key sz hz' h4.swap).mono ?_
                rintro e w4 ⟨rfl, rfl⟩
                go_wp2_with fail
                refine (texts_eq _ _ _ _ _ [] [] (own_nil (own_nil h4))).mono ?_
                rintro e w5 ⟨rfl, h6⟩
                rw [decide_eq_true (rfl : ([] : List ByteArray) = [])]
                generalize putE mo sz = pe at *
                go_wp2_with fail
                go_meet
                case rel => exact ⟨b, rfl, _, _, h6.drop.drop⟩
          · have b0 : (kd == 0) = false := by simpa using k0
            by_cases k1 : kd = 1
            · subst k1
              cases hms : mget key (T ++ K) with
              | none => as_aux_lemma =>
                  have HM := Lib.hid hms
                  clear hms
                  go_wp2_with fail
                  refine (touch_none _ _ _ b al kp mo T K key HM.out h3).mono ?_
                  rintro e w3 ⟨rfl, h4⟩
                  have a1 : w3.cell? ⟨og, 1, none⟩ = some (.string key) := h4.drop.drop.cell 1
                  go_wp2_with fail
                  refine (rtouch_none _ _ _ c al kp mo T K key HM.out h4.swap).mono ?_
                  rintro e w4 ⟨rfl, rfl⟩
                  go_wp2_with fail
                  refine (texts_eq _ _ _ _ _ [] [] (own_nil (own_nil h4))).mono ?_
                  rintro e w5 ⟨rfl, h6⟩
                  rw [decide_eq_true (rfl : ([] : List ByteArray) = [])]
                  go_wp2_with fail
                  go_meet
                  case rel => exact ⟨b, rfl, _, _, h6.drop.drop⟩
              | some s => as_aux_lemma =>
                  have htouch : ∀ w0 R, Sat (World.env W) w0 (StoreV b al kp mo T K * R) → Calls Try.prog 12 #[.pointer (some ⟨b, 0, none⟩), .string key] w0 fun e w' => ∃ v, e = .returned (.tuple #[v, .bool true]) ∧ Sat (World.env W) w' (Strs v (touchR kp key s T K).2.2 * (StoreV b al kp mo (touchR kp key s T K).1 (touchR kp key s T K).2.1 * R)) := by
                    intro w0 R h
                    by_cases hks : kp < s
                    · exact touch_t _ _ _ b al kp mo T K key s hms hks h
                    · exact touch_k _ _ _ b al kp mo T K key s hms hks h
                  have hrtouch : ∀ w0 R, Sat (World.env W) w0 (RefV c al kp mo T K * R) → Calls Try.prog 19 #[.pointer (some ⟨c, 0, none⟩), .string key] w0 fun e w' => ∃ v, e = .returned (.tuple #[v, .bool true]) ∧ Sat (World.env W) w' (Strs v (touchR kp key s T K).2.2 * (RefV c al kp mo (touchR kp key s T K).1 (touchR kp key s T K).2.1 * R)) := by
                    intro w0 R h
                    obtain ⟨f1, f2, f3⟩ := HF.out
                    by_cases hks : kp < s
                    · exact rtouch_t _ _ _ c al kp mo T K key s p2 f2 f3 f4 f5 hms hks h
                    · refine rtouch_k _ _ _ c al kp mo T K key s p2 p3 p4 ?_ f1 f2 f3 f4 f5 hms hks h
                      have hm := (mget_mem f1).1 hms
                      rcases List.mem_append.1 hm with hm | hm
                      · exact f2 _ hm
                      · exact f3 _ hm
                  have HTO := Lib.hid htouch
                  have HRO := Lib.hid hrtouch
                  clear htouch hrtouch hms
                  generalize (touchR kp key s T K).1 = T2 at *
                  generalize (touchR kp key s T K).2.1 = K2 at *
                  generalize (touchR kp key s T K).2.2 = G at *
                  go_wp2_with fail
                  refine (HTO.out _ _ h3).mono ?_
                  rintro e w3 ⟨v3, rfl, h4⟩
                  obtain ⟨la, lc, rfl⟩ := own_val h4
                  have a1 : w3.cell? ⟨og, 1, none⟩ = some (.string key) := h4.drop.drop.drop.cell 1
                  go_wp2_with fail
                  refine (HRO.out _ _ h4.get3).mono ?_
                  rintro e w4 ⟨v4, rfl, h5⟩
                  obtain ⟨lb, ld, rfl⟩ := own_val h5
                  go_wp2_with fail
                  refine (texts_eq _ _ _ _ _ G G h5.get3).mono ?_
                  rintro e w5 ⟨rfl, h6⟩
                  rw [decide_eq_true (rfl : G = G)]
                  go_wp2_with fail
                  go_meet
                  case rel => exact ⟨b, rfl, _, _, h6.drop.drop.swap⟩
            · have b1 : (kd == 1) = false := by simpa using k1
              by_cases k2 : kd = 2
              · as_aux_lemma =>
                  subst k2
                  go_wp2_with fail
                  go_region_held3 (fun w' => w'.cell? ⟨og, 1, none⟩ = some (.string key)) (first | exact a1 | exact (h4.drop.drop.cell 1).trans rfl | exact (h5.drop.drop.cell 1).trans rfl | fail) (first | (go_at_call 16; refine (drop_any _ _ _ b al kp mo T K key h3.drew).mono ?_; rintro e w3 ⟨rfl, h4⟩) | (go_at_call 20; refine (rdrop_any _ _ _ c al kp mo T K key f7 h4.swap).mono ?_; rintro e w4 ⟨rfl, h5⟩) | fail)
                  go_wp2_with fail
                  go_meet
                  case rel => exact ⟨b, rfl, _, _, h5.swap⟩
              · as_aux_lemma =>
                  have b2 : (kd == 2) = false := by simpa using k2
                  go_wp2_with fail
                  refine (copy_any _ _ _ b al kp mo T K h3).mono ?_
                  rintro e w3 ⟨d, rfl, h4⟩
                  go_wp2_with fail
                  refine (put_ok _ _ _ b al kp mo T K ⟨#[115, 112, 111, 105, 108, 116]⟩ 1 (by omega) p5 h4.swap).mono ?_
                  rintro e w4 ⟨v4, rfl, h5⟩
                  have a1 : w4.cell? ⟨og, 1, none⟩ = some (.string key) := h5.drop.drop.drop.drop.cell 1
                  go_wp2_with fail
                  refine (drop_any _ _ _ b al kp mo _ _ key h5.drop).mono ?_
                  rintro e w5 ⟨rfl, h6⟩
                  go_wp2_with fail
                  go_meet
                  case rel => exact ⟨d, rfl, _, _, h6.drop⟩
        case rest => as_aux_lemma =>
            clear h3 hF a0 a1 a2 T K
            obtain ⟨b, rfl, T, K, h3⟩ := hcut
            obtain ⟨f1, f2, f3, f4, f5, f6, f7⟩ := sv_factsV h3
            have a1 : wc.cell? ⟨og, 1, none⟩ = some (.string key) := h3.drop.drop.cell 1
            go_wp2_with fail
            refine (has_any _ _ _ b al kp mo T K key h3).mono ?_
            rintro e y1 ⟨rfl, k1⟩
            have a1 : y1.cell? ⟨og, 1, none⟩ = some (.string key) := k1.drop.drop.cell 1
            go_wp2_with fail
            refine (rhas_any _ _ _ c al kp mo T K key k1.swap).mono ?_
            rintro e y2 ⟨rfl, rfl⟩
            generalize (mget key (T ++ K)).getD 0 = m1
            generalize (mget key (T ++ K)).isSome = m2
            clear h3 a1
            obtain ⟨a1, c1, a2, c2, k2⟩ := rv_open k1.swap
            have hX := k2.get4
            have d0 : y1.cell? ⟨c, 0, none⟩ = some (.slice a1 T.length c1) := hX.swap.cell 0
            have d1 : y1.cell? ⟨c, 1, none⟩ = some (.slice a2 K.length c2) := hX.swap.cell 1
            have HF := Lib.hid (And.intro f2 f3)
            have n1 := posV_len f2
            have n2 := posV_len f3
            clear f1 f2 f3 k1 k2
            go_wp2_with fail
            go_region_held3 (fun w' => w'.cell? ⟨c, 0, none⟩ = some (.slice a1 T.length c1) ∧ w'.cell? ⟨c, 1, none⟩ = some (.slice a2 K.length c2)) (first | exact ⟨d0, d1⟩ | exact ⟨(g1.get3.cell 0).trans rfl, (g1.get3.cell 1).trans rfl⟩ | exact ⟨(g2.get5.cell 0).trans rfl, (g2.get5.cell 1).trans rfl⟩ | exact ⟨(g3.get5.cell 0).trans rfl, (g3.get5.cell 1).trans rfl⟩ | exact ⟨(g4.get6.cell 0).trans rfl, (g4.get6.cell 1).trans rfl⟩ | exact ⟨(g5.get8.cell 0).trans rfl, (g5.get8.cell 1).trans rfl⟩ | exact ⟨(g6.get8.cell 0).trans rfl, (g6.get8.cell 1).trans rfl⟩ | exact ⟨(g7.get8.cell 0).trans rfl, (g7.get8.cell 1).trans rfl⟩ | exact ⟨(g9.get8.cell 0).trans rfl, (g9.get8.cell 1).trans rfl⟩ | fail) (first | (go_at_call 10; ((with_reducible refine (keysF _ _ _ b al kp mo T K hX.drew).mono ?_); rintro e x1 ⟨v1, rfl, g1⟩)) | (go_at_call 23; ((with_reducible refine (rkeys_any _ _ _ a1 c1 T (by omega) g1.get4).mono ?_); rintro e x2 ⟨v2, rfl, g2⟩)) | (go_at_call 15; ((with_reducible refine (texts_eq _ _ _ v1 v2 (T.map (·.1)) (T.map (·.1)) g2.get3).mono ?_); rintro e x3 ⟨rfl, g3⟩; rw [decide_eq_true (rfl : T.map (·.1) = T.map (·.1))])) | (go_at_call 10; ((with_reducible refine (keysT _ _ _ b al kp mo T K g3.get4).mono ?_); rintro e x4 ⟨v3, rfl, g4⟩)) | (go_at_call 23; ((with_reducible refine (rkeys_any _ _ _ a2 c2 K (by omega) g4.get7).mono ?_); rintro e x5 ⟨v4, rfl, g5⟩)) | (go_at_call 15; ((with_reducible refine (texts_eq _ _ _ v3 v4 (K.map (·.1)) (K.map (·.1)) g5.get3).mono ?_); rintro e x6 ⟨rfl, g6⟩; rw [decide_eq_true (rfl : K.map (·.1) = K.map (·.1))])) | (go_at_call 13; ((with_reducible refine (bytes_f _ _ _ b al kp mo T K g6.get4).mono ?_); rintro e x7 ⟨rfl, g7⟩)) | (go_at_call 24; ((with_reducible refine (rsum_any _ _ _ a1 c1 T HF.out.1 (by omega) g7.get7).mono ?_); rintro e x8 ⟨rfl, rfl⟩)) | (go_at_call 13; ((with_reducible refine (bytes_t _ _ _ b al kp mo T K g7).mono ?_); rintro e x9 ⟨rfl, g9⟩)) | (go_at_call 24; ((with_reducible refine (rsum_any _ _ _ a2 c2 K HF.out.2 (by omega) g9.get4).mono ?_); rintro e x10 ⟨rfl, rfl⟩)) | fail)
            go_wp2_with fail
            go_roundw
            case rel =>
              refine ⟨b, j + 1, by omega, by omega, by go_num, rfl, T, K, ?_⟩
              have g10 := g9.drop2.drop2.drop3.drop3.drop5
              have g11 : Sat (World.env W) _ (blk c (.cells (cellsF (.slice a1 T.length c1) (.slice a2 K.length c2) al kp mo) 55) * (Kvs (.slice a1 T.length c1) T * (Kvs (.slice a2 K.length c2) K * (StoreV b al kp mo T K * whole W)))) := g10.of_eq (by ac_rfl)
              exact (rv_close g11 rfl).swap
            case measure => simp [intOf]; omega
      · have hlt' : ¬ (j : Int) < len ∨ ((j : Int) < len ∧ ¬ (j : Int) < 60) := by omega
        clear hlt
        rcases hlt' with hq | ⟨hq, hq2⟩
        all_goals
          go_wp2_with fail
          refine (known_any _ _ _ hr.drop.drop).mono ?_
          rintro e w6 ⟨rfl, h6⟩
          go_wp2_with fail
          go_ret
          exact ⟨rfl, h6.below⟩

end Go.Proofs.Ytekhidibignhbaa
