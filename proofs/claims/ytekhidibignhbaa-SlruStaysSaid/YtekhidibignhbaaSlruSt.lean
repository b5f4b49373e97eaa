/- The law SlruStays, walked. -/
import Derived.Test.YtekhidibignhbaaSlruL
import Derived.Test.YtekhidibignhbaaRw
import Derived.Laws.BytesString
import Derived.Laws.Cells
namespace Go.Proofs.Ytekhidibignhbaa
set_option linter.unusedSimpArgs false
set_option linter.unusedVariables false
open Go Go.RowKit

abbrev skept : ByteArray := ⟨#[107, 101, 112, 116]⟩
/-- The key x and a byte. -/
def xkey (i : Nat) : ByteArray := ⟨#[120, UInt8.ofNat i]⟩
theorem xkey_ne (i : Nat) : xkey i ≠ skept := by
  intro h
  have := congrArg (fun b => b.data.size) h
  simp [xkey] at this
theorem xkey_inj {i j : Nat} (hi : i < 256) (hj : j < 256) (h : xkey i = xkey j) : i = j := by
  unfold xkey at h
  simp only [ByteArray.mk.injEq, Array.mk.injEq, List.cons.injEq, and_true, true_and] at h
  have := congrArg UInt8.toNat h
  simpa [Nat.mod_eq_of_lt hi, Nat.mod_eq_of_lt hj] using this

/-- What has been put so far: the newest one first. -/
def xput (f : Nat → Int) : Nat → List KV
  | 0 => []
  | i + 1 => (xkey i, f i) :: xput f i
theorem xput_key {f : Nat → Int} {m : Nat} {x : KV} (h : x ∈ xput f m) : ∃ i, i < m ∧ x.1 = xkey i := by
  induction m with
  | zero => simp [xput] at h
  | succ m ih =>
    rcases List.mem_cons.1 h with rfl | h
    · exact ⟨m, Nat.lt_succ_self m, rfl⟩
    · obtain ⟨i, hi, e⟩ := ih h
      exact ⟨i, Nat.lt_succ_of_lt hi, e⟩
theorem dropV_id {a : ByteArray} {l : List KV} (h : ∀ x ∈ l, x.1 ≠ a) : dropV a l = l := by
  unfold dropV
  rw [List.filter_eq_self]
  intro x hx
  simpa using h x hx
theorem xput_room (f : Nat → Int) (m : Nat) (al s : Int) (hm : m < 256) (h : sumV (xput f m) + 5 + s ≤ al) :
    roomR al (xkey m) s (xput f m) [(skept, 5)] = (xput f m, [(skept, 5)], []) := by
  unfold roomR
  rw [dropV_id (a := xkey m) (l := xput f m) (fun x hx => by
    obtain ⟨i, hi, e⟩ := xput_key hx
    rw [e]
    intro h'
    have := xkey_inj (by omega) hm h'
    omega), dropV_id (a := xkey m) (l := [(skept, 5)]) (fun x hx => by simp at hx; rw [hx]; exact (xkey_ne m).symm)]
  exact roomV_stop _ (by simp only [sumV]; omega)

theorem conv_bytes2 {k : Env} {w : World} {R : Assn} {b : Nat} {t : TypeId} {x y : Int} (h : Sat k w (blk b (.cells #[.int .u8 x, .int .u8 y] t) * R)) :
    (convert 42 9 (.slice (some ⟨b, 0, none⟩) 2 2)).run Try.prog w = .ok (.string ⟨#[UInt8.ofNat x.toNat, UInt8.ofNat y.toNat]⟩) w := by
  rw [run_convert_bytes_string w _ _ 5 _ _ _ rfl rfl rfl]
  rw [run_bytesToString w ⟨b, 0, none⟩ 2 2 [x, y] (run_loadCells_list (w := w) ⟨b, 0, none⟩ [.int .u8 x, .int .u8 y] (by
    intro j v hv
    have hv : [Value.int .u8 x, Value.int .u8 y][j]? = some v := hv
    have c0 : w.cell? ⟨b, 0, none⟩ = some (.int .u8 x) := h.cell 0
    have c1 : w.cell? ⟨b, 1, none⟩ = some (.int .u8 y) := h.cell 1
    rcases j with _ | _ | j
    · simp at hv; rw [← hv]; exact c0
    · simp at hv; rw [← hv]; exact c1
    · simp at hv))]
  rfl


theorem mget_skept (f : Nat → Int) (m : Nat) (hm : m ≤ 256) : mget skept (xput f m ++ [(skept, 5)]) = some 5 := by
  clear hm
  induction m with
  | zero => simp [xput, mget]
  | succ m ih => rw [xput, List.cons_append, mget, if_neg (xkey_ne m), ih]

set_option maxRecDepth 100000 in
set_option maxHeartbeats 4000000 in
theorem walkSlruStays (W : World) (hs : List Int) (hl : hs.length = 2) (hw : ∀ z ∈ hs, (Lit.int .u8 z).wf = true) (a : Option Addr) (len cap : Nat) (zs : List Int) (z : IsRow .u8 W a len cap zs) (_y : len * 1 ≤ 140737488351232) :
    Calls Try.prog 4 #[.agg (hs.map (Value.int .u8)).toArray, .slice a len cap] W fun e w' => e = .returned (.bool true) ∧ Below W.heap.size W w' := by
  obtain ⟨p, q, rfl⟩ : ∃ p q, hs = [p, q] := by
    match hs, hl with
    | [p, q], _ => exact ⟨p, q, rfl⟩
  obtain ⟨p0, p1⟩ := bounds_u8 (hw p (by simp))
  obtain ⟨q0, q1⟩ := bounds_u8 (hw q (by simp))
  clear hl hw
  have hz := (Sat.whole W).alloc (.cells #[.int .u8 p, .int .u8 q] 41)
  go_enter Try.func4, Try.ntmps4
  go_wp2_with fail
  obtain ⟨al, hal, al1, al2⟩ : ∃ al : Int, 20 + p = al ∧ 20 ≤ al ∧ al ≤ 275 := ⟨_, rfl, by omega, by omega⟩
  obtain ⟨kp, hkp, kp1, kp2⟩ : ∃ kp : Int, 5 + q % 10 = kp ∧ 5 ≤ kp ∧ kp ≤ 14 := ⟨_, rfl, by omega, by omega⟩
  simp only [hal, hkp]
  clear hal hkp
  refine (new_any _ _ _ al kp al (by omega) (by omega) (by omega) (by omega) (by omega) (by omega) hz.drop).mono ?_
  rintro e w1 ⟨b, rfl, h1⟩
  go_wp2_with fail
  refine (put_ok _ _ _ b al kp al [] [] skept 5 (by omega) (by omega) h1).mono ?_
  rintro e w2 ⟨v2, rfl, h2⟩
  rw [show roomR al skept 5 [] [] = ([], [], []) from by unfold roomR; exact roomV_stop _ (by simp only [dropV, List.filter_nil, sumV]; omega)] at h2
  go_wp2_with fail
  refine (touch_k _ _ _ b al kp al _ _ skept 5 (by decide +kernel) (by omega) h2.drop).mono ?_
  rintro e w3 ⟨v3, rfl, h3⟩
  have hT : touchR kp skept 5 [(skept, 5)] [] = ([], [(skept, 5)], []) := by
    unfold touchR touchP
    rw [if_neg (by omega)]
    rw [show dropV skept [(skept, 5)] = [] from by decide +kernel, show dropV skept [] = [] from rfl]
    exact backV_stop _ (by simp only [sumV]; omega)
  rw [hT] at h3
  clear hT
  have h3 := h3.drop
  go_wp2_with fail
  obtain ⟨f, hf⟩ : ∃ f : Nat → Int, f = fun i => 1 + zs.getD i 0 % 6 := ⟨_, rfl⟩
  have HF := Lib.hid hf
  clear hf
  go_loopw [9, 10, 11, 12, 13] (fun sm i _ _ _ wr => ∃ j : Nat, j ≤ len ∧ j ≤ 60 ∧ i = .int .i64 j ∧ sm = .int .i64 (sumV (xput f j)) ∧ sumV (xput f j) ≤ al - kp ∧ 0 ≤ sumV (xput f j) ∧ Sat (World.env W) wr (StoreV b al kp al (xput f j) [(skept, 5)] * whole W)) (fun _ i _ _ _ _ => 60 - (intOf i).toNat)
  case atStart => exact ⟨0, Nat.zero_le _, Nat.zero_le _, rfl, rfl, by simp only [xput, sumV]; omega, by simp [xput, sumV], h3⟩
  case round =>
    obtain ⟨j, hj, hj2, rfl, rfl, hsm, hsp, hr⟩ := hrel
    by_cases hlt : j < len ∧ j < 60
    · obtain ⟨hlt, hlt2⟩ := hlt
      obtain ⟨g, o, u, rfl, HW, hw, hu⟩ := row_at z j hlt
      obtain ⟨u0, u1⟩ := bounds_u8 hw
      obtain ⟨hg1, hc1⟩ := whole_at hr.drop HW
      have HU : Hid (f j = 1 + u % 6) := by unfold Hid; rw [HF.out, hu.out]
      clear hw
      by_cases hq : al - kp < sumV (xput f j) + (1 + u % 6)
      · go_wp2_with fail
        (
          refine (has_any _ _ _ b al kp al _ _ skept hr).mono ?_
          rintro e w4 ⟨rfl, h4⟩
          rw [mget_skept f j (by omega)]
          go_wp2_with fail
          refine (keys_any _ _ _ b al kp al _ _ true h4).mono ?_
          rintro e w5 ⟨v5, rfl, h5⟩
          simp only [if_true, List.map_cons, List.map_nil] at h5
          go_wp2_with fail
          refine (texts_eq _ _ _ _ _ _ _ ((strs_lit [skept] (by simp [maxLen]) h5 _ rfl).swap)).mono ?_
          rintro e w6 ⟨rfl, h6⟩
          have h6 := h6.drop.drop
          go_wp2_with fail
          refine (bytes_f _ _ _ b al kp al _ _ h6).mono ?_
          rintro e w7 ⟨rfl, h7⟩
          go_wp2_with fail
          refine (known_any _ _ _ h7.drop).mono ?_
          rintro e w8 ⟨rfl, h8⟩
          go_wp2_with fail
          go_ret
          exact ⟨rfl, h8.below⟩)
      · go_wp2_with fail
        rw [conv_bytes2 (hr.alloc _)]
        go_wp2_with fail
        have hr2 := (hr.alloc (.cells #[.int .u8 120, .int .u8 j] 5)).drop
        refine (put_ok _ _ _ b al kp al _ _ (xkey j) (1 + u % 6) (by omega) (by omega) hr2).mono ?_
        rintro e w4 ⟨v4, rfl, h4⟩
        rw [xput_room f j al (1 + u % 6) (by omega) (by omega)] at h4
        obtain ⟨a4, c4, rfl⟩ := own_val h4
        have h4 := h4.drop
        go_wp2_with fail
        refine ⟨⟨j + 1, hlt, hlt2, by simp, ?_, ?_, ?_, ?_⟩, ?_⟩
        · rw [xput, sumV, HU.out, Int.add_comm]
        · rw [xput, sumV, HU.out]; omega
        · rw [xput, sumV, HU.out]; omega
        · rw [xput, HU.out]; exact h4
        · simp [intOf]; omega
    · go_wp2_with fail
      all_goals (
        refine (has_any _ _ _ b al kp al _ _ skept hr).mono ?_
        rintro e w4 ⟨rfl, h4⟩
        rw [mget_skept f j (by omega)]
        go_wp2_with fail
        refine (keys_any _ _ _ b al kp al _ _ true h4).mono ?_
        rintro e w5 ⟨v5, rfl, h5⟩
        simp only [if_true, List.map_cons, List.map_nil] at h5
        go_wp2_with fail
        refine (texts_eq _ _ _ _ _ _ _ ((strs_lit [skept] (by simp [maxLen]) h5 _ rfl).swap)).mono ?_
        rintro e w6 ⟨rfl, h6⟩
        have h6 := h6.drop.drop
        go_wp2_with fail
        refine (bytes_f _ _ _ b al kp al _ _ h6).mono ?_
        rintro e w7 ⟨rfl, h7⟩
        go_wp2_with fail
        refine (known_any _ _ _ h7.drop).mono ?_
        rintro e w8 ⟨rfl, h8⟩
        go_wp2_with fail
        go_ret
        exact ⟨rfl, h8.below⟩)

end Go.Proofs.Ytekhidibignhbaa
