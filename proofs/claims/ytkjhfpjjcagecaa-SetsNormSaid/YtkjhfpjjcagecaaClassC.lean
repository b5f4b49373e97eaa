/- Contracts of package class: writes, firsts. -/
import Derived.Test.YtkjhfpjjcagecaaClassB
namespace Go.Proofs.Ytkjhfpjjcagecaa
set_option linter.all false
open Go Go.RowKit

def pvW (W : List ByteArray) (j : Nat) : ByteArray := if j = 0 then ⟨#[]⟩ else (W[j - 1]?).getD ⟨#[]⟩
theorem writesL_drop (W : List ByteArray) (j : Nat) (h : j < W.length) : writesL (pvW W j) (W.drop j) = ((decide (W[j] = cUpdate) && !decide (pvW W j = cFor)) || memB W[j] writeW || writesL (pvW W (j + 1)) (W.drop (j + 1))) := by
  rw [List.drop_eq_getElem_cons h, writesL]
  congr 2
  unfold pvW
  rw [if_neg (by omega), Nat.add_sub_cancel, List.getElem?_eq_getElem h]; rfl

set_option maxRecDepth 100000 in
set_option maxHeartbeats 8000000 in
theorem writes_any (k : Env) (w : World) (R : Assn) (a : Option Addr) (cap : Nat) (l : List Tok) (hr : RdT k R a l) (hl : l.length ≤ 1000000) (h : Sat k w R) :
    Calls Try.prog 71 #[.slice a l.length cap] w fun e w' => e = .returned (.bool (writesL ⟨#[]⟩ (l.map wd))) ∧ Sat k w' R := by
  have CW := Lib.hid (words_any k w R a cap l hr hl h)
  obtain ⟨res, HX⟩ : ∃ res, Hid (writesL ⟨#[]⟩ (l.map wd) = res) := ⟨_, rfl⟩
  rw [HX.out]
  clear hr h
  go_enter Try.func71, Try.ntmps71
  go_wp2_with (go_at_call 47; (with_reducible refine (CW.out).mono ?_); rintro e w2 ⟨b, rfl, h2⟩)
  obtain ⟨W, hW⟩ : ∃ W, W = l.map wd := ⟨_, rfl⟩
  have hWl : W.length = l.length := by rw [hW, List.length_map]
  rw [← hW] at h2 HX
  rw [← hWl] at h2 ⊢
  have hWb : W.length ≤ 1000000 := by omega
  clear hW hWl hl CW
  have HRW := Lib.hid (rd_own h2)
  go_loopw [4, 5, 10] (fun _ _ s10 wr => ∃ j : Nat, j ≤ W.length ∧ s10 = .int .i64 j ∧ Hid (writesL (pvW W j) (W.drop j) = res) ∧ Sat k wr (Strs (.slice b W.length W.length) W * R)) (fun _ _ s10 _ => W.length - (intOf s10).toNat)
  case atStart => exact ⟨0, Nat.zero_le _, rfl, HX, h2⟩
  case round =>
    clear h2 HX
    obtain ⟨j, hj, rfl, HR, hs⟩ := hrel
    by_cases hlt : j < W.length
    · have hlt' : (j : Int) < W.length := by omega
      have hst := writesL_drop W j hlt
      obtain ⟨g, o, hg, d1⟩ := rd_get HRW.out hs j hlt
      obtain rfl : b = some ⟨g, o, none⟩ := hg
      have hprev : (j = 0 ∧ pvW W j = ⟨#[]⟩) ∨ (∃ m, m + 1 = j ∧ ∃ x, wr.cell? ⟨g, o + m, none⟩ = some (.string x) ∧ pvW W j = x) := by
        by_cases h0 : j = 0
        · left; exact ⟨h0, by unfold pvW; rw [if_pos h0]⟩
        · right
          obtain ⟨g', o', hg', dm⟩ := rd_get HRW.out hs (j - 1) (by omega)
          obtain ⟨rfl, rfl⟩ : g = g' ∧ o = o' := by simpa using hg'
          exact ⟨j - 1, by omega, _, dm, by unfold pvW; rw [if_neg h0, List.getElem?_eq_getElem (by omega)]; rfl⟩
      have e1 := tl_const W[j] cUpdate [117, 112, 100, 97, 116, 101] (by decide +kernel)
      have e2 := tl_const W[j] cInsert [105, 110, 115, 101, 114, 116] (by decide +kernel)
      have e3 := tl_const W[j] cDelete [100, 101, 108, 101, 116, 101] (by decide +kernel)
      have e4 := tl_const W[j] cMerge [109, 101, 114, 103, 101] (by decide +kernel)
      have e5 := tl_const W[j] cInto [105, 110, 116, 111] (by decide +kernel)
      generalize W[j] = x at *
      generalize pvW W j = p at *
      have HMB : Hid (memB x writeW = (decide (x = cInsert) || decide (x = cDelete) || decide (x = cMerge) || decide (x = cInto))) := by
        unfold Hid memB writeW
        simp only [List.any_cons, List.any_nil, Bool.or_false]
        rw [Bool.eq_iff_iff]
        simp only [Bool.or_eq_true, decide_eq_true_eq, eq_comm (b := x)]
        exact ⟨fun q => by rcases q with q | q | q | q <;> simp [q], fun q => by rcases q with ((q | q) | q) | q <;> simp [q]⟩
      by_cases hu : x = cUpdate
      · have hmb : memB x writeW = false := by rw [hu]; decide +kernel
        rw [decide_eq_true hu] at e1
        rw [hmb, decide_eq_true hu] at hst
        clear e2 e3 e4 e5 HMB hmb hu
        rcases hprev with ⟨rfl, hp⟩ | ⟨m, hm, y, dm, hp⟩
        · have hres : res = true := by rw [← HR.out, hst, hp, show decide ((⟨#[]⟩ : ByteArray) = cFor) = false from by decide +kernel]; simp
          simp only [Nat.add_zero] at d1
          subst hres
          clear hst HR hp
          go_wp2_with fail
          go_ret
          exact ⟨rfl, hs.drop⟩
        · have hwm : IntKind.i64.wrap ((j : Int) - 1) = m := by rw [IntWalk.i64_in _ (by omega)]; omega
          have hj0 : (0 : Int) < j := by omega
          have hmI : (m : Int) < W.length := by omega
          have ey := tl_const y cFor [102, 111, 114] (by decide +kernel)
          rw [hp] at hst
          by_cases hf : y = cFor
          · rw [decide_eq_true hf] at ey hst
            have HN : Hid (writesL (pvW W (j + 1)) (W.drop (j + 1)) = res) := by unfold Hid; rw [← HR.out, hp, hst]; simp
            clear hst HR hp hf hm
            go_wp2_with fail
            go_roundw
            case rel => exact ⟨j + 1, by omega, by go_num, HN, hs⟩
            case measure => simp [intOf]; omega
          · rw [decide_eq_false hf] at ey hst
            have hres : res = true := by rw [← HR.out, hp, hst]; simp
            subst hres
            clear hst HR hp hf hm
            go_wp2_with fail
            go_ret
            exact ⟨rfl, hs.drop⟩
      · rw [decide_eq_false hu] at e1 hst
        by_cases c2 : x = cInsert
        · have hmb : memB x writeW = true := by rw [HMB.out, decide_eq_true c2]; rfl
          have hres : res = true := by rw [← HR.out, hst, hmb]; simp
          subst hres
          rw [decide_eq_true c2] at e2
          clear hst HR e3 e4 e5 HMB hmb c2 hu hprev
          go_wp2_with fail
          go_ret
          exact ⟨rfl, hs.drop⟩
        by_cases c3 : x = cDelete
        · have hmb : memB x writeW = true := by rw [HMB.out, decide_eq_true c3]; simp
          have hres : res = true := by rw [← HR.out, hst, hmb]; simp
          subst hres
          rw [decide_eq_false c2] at e2
          rw [decide_eq_true c3] at e3
          clear hst HR e4 e5 HMB hmb c2 c3 hu hprev
          go_wp2_with fail
          go_ret
          exact ⟨rfl, hs.drop⟩
        by_cases c4 : x = cMerge
        · have hmb : memB x writeW = true := by rw [HMB.out, decide_eq_true c4]; simp
          have hres : res = true := by rw [← HR.out, hst, hmb]; simp
          subst hres
          rw [decide_eq_false c2] at e2
          rw [decide_eq_false c3] at e3
          rw [decide_eq_true c4] at e4
          clear hst HR e5 HMB hmb c2 c3 c4 hu hprev
          go_wp2_with fail
          go_ret
          exact ⟨rfl, hs.drop⟩
        by_cases c5 : x = cInto
        · have hmb : memB x writeW = true := by rw [HMB.out, decide_eq_true c5]; simp
          have hres : res = true := by rw [← HR.out, hst, hmb]; simp
          subst hres
          rw [decide_eq_false c2] at e2
          rw [decide_eq_false c3] at e3
          rw [decide_eq_false c4] at e4
          rw [decide_eq_true c5] at e5
          clear hst HR HMB hmb c2 c3 c4 c5 hu hprev
          go_wp2_with fail
          go_ret
          exact ⟨rfl, hs.drop⟩
        have hmb : memB x writeW = false := by rw [HMB.out, decide_eq_false c2, decide_eq_false c3, decide_eq_false c4, decide_eq_false c5]; rfl
        have HN : Hid (writesL (pvW W (j + 1)) (W.drop (j + 1)) = res) := by unfold Hid; rw [← HR.out, hst, hmb]; simp
        rw [decide_eq_false c2] at e2
        rw [decide_eq_false c3] at e3
        rw [decide_eq_false c4] at e4
        rw [decide_eq_false c5] at e5
        clear hst HR HMB hmb c2 c3 c4 c5 hu hprev
        go_wp2_with fail
        go_roundw
        case rel => exact ⟨j + 1, by omega, by go_num, HN, hs⟩
        case measure => simp [intOf]; omega
    · have hres : res = false := by rw [← HR.out, List.drop_eq_nil_of_le (by omega)]; rfl
      subst hres
      have hlt' : ¬ (j : Int) < W.length := by omega
      clear HR hlt
      go_wp2_with fail
      go_ret
      exact ⟨rfl, hs.drop⟩

theorem wpList_insert_sat {k : Env} {w : World} {K : Type} [DecidableEq K] {kv : K → Value} {P : Program} {mt kt et : TypeId} {b : Nat} {l : List (K × Value)} {R : Assn} {ops : Array Oper} {rest : List Oper} {o : Oper} {act : Act} {Q : Exit → Act → World → Prop} (T : KeyT P kt kv) (hm : P.underlying mt = some (.map kt et)) (h : Sat k w (MapK kv b l * R)) (a : K) (v : Value) (m x y : Operand) (hgd : o.guard = none) (ho : o.op = Op.insert mt m x y)
    (e1 : act.eval m = .map (some b)) (e2 : act.eval x = kv a) (e3 : act.eval y = v)
    (hK : ∀ w', Sat k w' (MapK kv b (mput a v l) * R) → wpList P ops Q rest (act.put o.dst undef) w') : wpList P ops Q (o :: rest) act w := by
  refine wpList_plain hgd fun K' hK' => ?_
  obtain ⟨w', hr, h2⟩ := run_update_sat T hm h a v
  unfold Oper.wp
  simp [execOp, ho, e1, e2, e3, hr, Result.andThen]
  exact hK' _ _ (hK w' h2)
theorem KStrT : KeyT Try.prog 9 Value.string := keyT_string Try.underlying9
theorem mapHa : Try.prog.underlying 43 = some (.map 9 3) := Try.underlying43
theorem zeroInt (w : World) : (zeroValue 3).run Try.prog w = .ok (.int .i64 0) w := by kernel_rfl
def hents (l : List (ByteArray × Int)) : List (ByteArray × Value) := l.map fun x => (x.1, .int .i64 x.2)
theorem hents_get (c : ByteArray) (l : List (ByteArray × Int)) : mget c (hents l) = (mget c l).map (Value.int .i64) := mget_map (Value.int .i64) c l
theorem hents_put (c : ByteArray) (v : Int) (l : List (ByteArray × Int)) : mput c (.int .i64 v) (hents l) = hents (mput c v l) := mput_map (Value.int .i64) c v l
abbrev cBegin : ByteArray := ⟨#[98, 101, 103, 105, 110]⟩
abbrev cCommit : ByteArray := ⟨#[99, 111, 109, 109, 105, 116]⟩
abbrev cEnd : ByteArray := ⟨#[101, 110, 100]⟩
abbrev cTrunc : ByteArray := ⟨#[116, 114, 117, 110, 99, 97, 116, 101]⟩
abbrev wrW : List ByteArray := [cInsert, cUpdate, cDelete, cTrunc, cMerge]
abbrev stW : List ByteArray := [⟨#[115, 101, 116]⟩, ⟨#[114, 101, 115, 101, 116]⟩, ⟨#[100, 105, 115, 99, 97, 114, 100]⟩, ⟨#[108, 105, 115, 116, 101, 110]⟩, ⟨#[117, 110, 108, 105, 115, 116, 101, 110]⟩, ⟨#[112, 114, 101, 112, 97, 114, 101]⟩, ⟨#[100, 101, 97, 108, 108, 111, 99, 97, 116, 101]⟩, ⟨#[100, 101, 99, 108, 97, 114, 101]⟩, ⟨#[108, 111, 97, 100]⟩]
def puts (v : Int) (l : List ByteArray) (L : List (ByteArray × Int)) : List (ByteArray × Int) := l.foldl (fun M s => mput s v M) L
theorem puts_snoc (v : Int) (l : List ByteArray) (s : ByteArray) (L : List (ByteArray × Int)) : puts v (l ++ [s]) L = mput s v (puts v l L) := by simp [puts]
def firstL : List (ByteArray × Int) := puts 6 stW (puts 2 wrW (mput cEnd 4 (mput cCommit 4 (mput cBegin 3 []))))

set_option maxRecDepth 100000 in
set_option maxHeartbeats 8000000 in
theorem firsts_any (k : Env) (w : World) (R : Assn) (h : Sat k w R) :
    Calls Try.prog 50 #[] w fun e w' => ∃ m, e = .returned (.map (some m)) ∧ Sat k w' (MapK Value.string m (hents firstL) * R) := by
  have hmm := @run_makeMap Try.prog
  have hmk := mapHa
  have h1 := map_made (K := ByteArray) (kv := Value.string) h
  go_enter Try.func50, Try.ntmps50
  go_wp2_with (first | (refine wpList_insert_sat KStrT mapHa h1 cBegin (.int .i64 3) (.tmp 6) (.const (.string cBegin)) (.const (.int .i64 3)) rfl rfl rfl rfl rfl ?_; intro w2 h2) | (refine wpList_insert_sat KStrT mapHa h2 cCommit (.int .i64 4) (.tmp 6) (.const (.string cCommit)) (.const (.int .i64 4)) rfl rfl rfl rfl rfl ?_; intro w3 h3) | (refine wpList_insert_sat KStrT mapHa h3 cEnd (.int .i64 4) (.tmp 6) (.const (.string cEnd)) (.const (.int .i64 4)) rfl rfl rfl rfl rfl ?_; intro w4 h4))
  obtain ⟨L1, hL1⟩ : ∃ L1, L1 = mput cEnd 4 (mput cCommit 4 (mput cBegin 3 ([] : List (ByteArray × Int)))) := ⟨_, rfl⟩
  have hfl : firstL = puts 6 stW (puts 2 wrW L1) := by rw [hL1]; rfl
  have HFL := Lib.hid hfl
  have h4' : Sat k w4 (MapK Value.string w.heap.size (hents L1) * R) := h4.of_eq (by rw [hL1, ← hents_put, ← hents_put, ← hents_put]; rfl)
  clear hL1 hfl h1 h2 h3 h4 h
  generalize w.heap.size = mm at *
  have h5 : Sat k (w4.alloc (.cells #[.string ⟨#[105, 110, 115, 101, 114, 116]⟩, .string ⟨#[117, 112, 100, 97, 116, 101]⟩, .string ⟨#[100, 101, 108, 101, 116, 101]⟩, .string ⟨#[116, 114, 117, 110, 99, 97, 116, 101]⟩, .string ⟨#[109, 101, 114, 103, 101]⟩] 9)) (Strs (.slice (some ⟨w4.heap.size, 0, none⟩) 5 5) wrW * (MapK Value.string mm (hents L1) * R)) := strs_lit wrW (by decide) h4' w4.heap.size rfl
  generalize w4.alloc (.cells #[.string ⟨#[105, 110, 115, 101, 114, 116]⟩, .string ⟨#[117, 112, 100, 97, 116, 101]⟩, .string ⟨#[100, 101, 108, 101, 116, 101]⟩, .string ⟨#[116, 114, 117, 110, 99, 97, 116, 101]⟩, .string ⟨#[109, 101, 114, 103, 101]⟩] 9) = w5 at *
  generalize w4.heap.size = g1 at *
  go_loopw [3, 10] (fun _ s10 wr => ∃ j : Nat, j ≤ 5 ∧ s10 = .int .i64 j ∧ Sat k wr (Strs (.slice (some ⟨g1, 0, none⟩) 5 5) wrW * (MapK Value.string mm (hents (puts 2 (wrW.take j) L1)) * R))) (fun _ s10 _ => 5 - (intOf s10).toNat)
  case atStart => exact ⟨0, Nat.zero_le _, rfl, h5⟩
  case round =>
    clear h5
    obtain ⟨j, hj, rfl, hs⟩ := hrel
    by_cases hlt : j < 5
    · have hlt' : (j : Int) < 5 := by omega
      have hlen : wrW.length = 5 := rfl
      obtain ⟨g', hg', _, d0⟩ := strs_get (n := 5) hs j (by rw [hlen]; exact hlt)
      obtain rfl : g1 = g' := by simpa using hg'
      have HSN : Hid (puts 2 (wrW.take (j + 1)) L1 = mput (wrW[j]'(by rw [hlen]; exact hlt)) 2 (puts 2 (wrW.take j) L1)) := by
        unfold Hid
        rw [List.take_succ, List.getElem?_eq_getElem (by rw [hlen]; exact hlt)]
        exact puts_snoc _ _ _ _
      generalize wrW[j]'(by rw [hlen]; exact hlt) = x at *
      generalize puts 2 (wrW.take j) L1 = M at *
      clear hlen hg'
      go_wp2_with (at_mapUpdate; refine wpList_update_sat KStrT mapHa hs.swap x (.int .i64 2) (.tmp 14) (.tmp 15) (.const (.int .i64 2)) rfl rfl rfl rfl rfl ?_; intro w6 h6)
      go_roundw
      case rel => exact ⟨j + 1, by omega, by go_num, by rw [HSN.out, ← hents_put]; exact h6.swap⟩
      case measure => simp [intOf]; omega
    · have hjn : j = 5 := by omega
      have hlt' : ¬ (j : Int) < 5 := by omega
      have htk : wrW.take j = wrW := by rw [hjn]; rfl
      rw [htk] at hs
      clear hlt htk hjn
      replace hs := hs.drop
      have h7 : Sat k (wr.alloc (.cells #[.string ⟨#[115, 101, 116]⟩, .string ⟨#[114, 101, 115, 101, 116]⟩, .string ⟨#[100, 105, 115, 99, 97, 114, 100]⟩, .string ⟨#[108, 105, 115, 116, 101, 110]⟩, .string ⟨#[117, 110, 108, 105, 115, 116, 101, 110]⟩, .string ⟨#[112, 114, 101, 112, 97, 114, 101]⟩, .string ⟨#[100, 101, 97, 108, 108, 111, 99, 97, 116, 101]⟩, .string ⟨#[100, 101, 99, 108, 97, 114, 101]⟩, .string ⟨#[108, 111, 97, 100]⟩] 9)) (Strs (.slice (some ⟨wr.heap.size, 0, none⟩) 9 9) stW * (MapK Value.string mm (hents (puts 2 wrW L1)) * R)) := strs_lit stW (by decide) hs wr.heap.size rfl
      go_wp2_with fail
      generalize wr.alloc (.cells #[.string ⟨#[115, 101, 116]⟩, .string ⟨#[114, 101, 115, 101, 116]⟩, .string ⟨#[100, 105, 115, 99, 97, 114, 100]⟩, .string ⟨#[108, 105, 115, 116, 101, 110]⟩, .string ⟨#[117, 110, 108, 105, 115, 116, 101, 110]⟩, .string ⟨#[112, 114, 101, 112, 97, 114, 101]⟩, .string ⟨#[100, 101, 97, 108, 108, 111, 99, 97, 116, 101]⟩, .string ⟨#[100, 101, 99, 108, 97, 114, 101]⟩, .string ⟨#[108, 111, 97, 100]⟩] 9) = w7 at *
      generalize wr.heap.size = g2 at *
      go_loopw [5, 19] (fun _ s19 wr => ∃ j : Nat, j ≤ 9 ∧ s19 = .int .i64 j ∧ Sat k wr (Strs (.slice (some ⟨g2, 0, none⟩) 9 9) stW * (MapK Value.string mm (hents (puts 6 (stW.take j) (puts 2 wrW L1))) * R))) (fun _ s19 _ => 9 - (intOf s19).toNat)
      case atStart => exact ⟨0, Nat.zero_le _, rfl, h7⟩
      case round =>
        clear h7
        obtain ⟨j, hj, rfl, hs⟩ := hrel
        by_cases hlt : j < 9
        · have hlt' : (j : Int) < 9 := by omega
          have hlen : stW.length = 9 := rfl
          obtain ⟨g', hg', _, d0⟩ := strs_get (n := 9) hs j (by rw [hlen]; exact hlt)
          obtain rfl : g2 = g' := by simpa using hg'
          have HSN : Hid (puts 6 (stW.take (j + 1)) (puts 2 wrW L1) = mput (stW[j]'(by rw [hlen]; exact hlt)) 6 (puts 6 (stW.take j) (puts 2 wrW L1))) := by
            unfold Hid
            rw [List.take_succ, List.getElem?_eq_getElem (by rw [hlen]; exact hlt)]
            exact puts_snoc _ _ _ _
          generalize stW[j]'(by rw [hlen]; exact hlt) = x at *
          generalize puts 6 (stW.take j) (puts 2 wrW L1) = M at *
          clear hlen hg'
          go_wp2_with (at_mapUpdate; refine wpList_update_sat KStrT mapHa hs.swap x (.int .i64 6) (.tmp 23) (.tmp 24) (.const (.int .i64 6)) rfl rfl rfl rfl rfl ?_; intro w6 h6)
          go_roundw
          case rel => exact ⟨j + 1, by omega, by go_num, by rw [HSN.out, ← hents_put]; exact h6.swap⟩
          case measure => simp [intOf]; omega
        · have hjn : j = 9 := by omega
          have hlt' : ¬ (j : Int) < 9 := by omega
          have htk : stW.take j = stW := by rw [hjn]; rfl
          rw [htk] at hs
          clear hlt htk hjn
          replace hs := hs.drop
          go_wp2_with fail
          go_ret
          exact ⟨_, rfl, by rw [HFL.out]; exact hs⟩

end Go.Proofs.Ytkjhfpjjcagecaa
