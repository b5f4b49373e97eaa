/- Contracts: sets.key, is; pontoonref07: in, keys, word, sign. -/
import Derived.Test.YtoeepbjnbgpmpaaSetsM
namespace Go.Proofs.Ytoeepbjnbgpmpaa
set_option linter.all false
open Go Go.RowKit

set_option maxRecDepth 100000 in
set_option maxHeartbeats 16000000 in
theorem key_any (w : World) (s : ByteArray) :
    Calls Try.prog 98 #[.string s] w fun e w' => e = .returned (.bool (keyB s)) ∧ w = w' := by
  have f_0 := tl_const s ⟨#[115, 101, 108, 101, 99, 116]⟩ [115, 101, 108, 101, 99, 116] (by decide +kernel)
  have f_1 := tl_const s ⟨#[102, 114, 111, 109]⟩ [102, 114, 111, 109] (by decide +kernel)
  have f_2 := tl_const s ⟨#[119, 104, 101, 114, 101]⟩ [119, 104, 101, 114, 101] (by decide +kernel)
  have f_3 := tl_const s ⟨#[106, 111, 105, 110]⟩ [106, 111, 105, 110] (by decide +kernel)
  have f_4 := tl_const s ⟨#[111, 110]⟩ [111, 110] (by decide +kernel)
  have f_5 := tl_const s ⟨#[117, 115, 105, 110, 103]⟩ [117, 115, 105, 110, 103] (by decide +kernel)
  have f_6 := tl_const s ⟨#[103, 114, 111, 117, 112]⟩ [103, 114, 111, 117, 112] (by decide +kernel)
  have f_7 := tl_const s ⟨#[111, 114, 100, 101, 114]⟩ [111, 114, 100, 101, 114] (by decide +kernel)
  have f_8 := tl_const s ⟨#[104, 97, 118, 105, 110, 103]⟩ [104, 97, 118, 105, 110, 103] (by decide +kernel)
  have f_9 := tl_const s ⟨#[108, 105, 109, 105, 116]⟩ [108, 105, 109, 105, 116] (by decide +kernel)
  have f_10 := tl_const s ⟨#[111, 102, 102, 115, 101, 116]⟩ [111, 102, 102, 115, 101, 116] (by decide +kernel)
  have f_11 := tl_const s ⟨#[117, 110, 105, 111, 110]⟩ [117, 110, 105, 111, 110] (by decide +kernel)
  have f_12 := tl_const s ⟨#[101, 120, 99, 101, 112, 116]⟩ [101, 120, 99, 101, 112, 116] (by decide +kernel)
  have f_13 := tl_const s ⟨#[105, 110, 116, 101, 114, 115, 101, 99, 116]⟩ [105, 110, 116, 101, 114, 115, 101, 99, 116] (by decide +kernel)
  have f_14 := tl_const s ⟨#[97, 115]⟩ [97, 115] (by decide +kernel)
  have f_15 := tl_const s ⟨#[97, 110, 100]⟩ [97, 110, 100] (by decide +kernel)
  have f_16 := tl_const s ⟨#[111, 114]⟩ [111, 114] (by decide +kernel)
  have f_17 := tl_const s ⟨#[110, 111, 116]⟩ [110, 111, 116] (by decide +kernel)
  have f_18 := tl_const s ⟨#[105, 110]⟩ [105, 110] (by decide +kernel)
  have f_19 := tl_const s ⟨#[105, 115]⟩ [105, 115] (by decide +kernel)
  have f_20 := tl_const s ⟨#[110, 117, 108, 108]⟩ [110, 117, 108, 108] (by decide +kernel)
  have f_21 := tl_const s ⟨#[118, 97, 108, 117, 101, 115]⟩ [118, 97, 108, 117, 101, 115] (by decide +kernel)
  have f_22 := tl_const s ⟨#[115, 101, 116]⟩ [115, 101, 116] (by decide +kernel)
  have f_23 := tl_const s ⟨#[105, 110, 116, 111]⟩ [105, 110, 116, 111] (by decide +kernel)
  have f_24 := tl_const s ⟨#[105, 110, 110, 101, 114]⟩ [105, 110, 110, 101, 114] (by decide +kernel)
  have f_25 := tl_const s ⟨#[108, 101, 102, 116]⟩ [108, 101, 102, 116] (by decide +kernel)
  have f_26 := tl_const s ⟨#[114, 105, 103, 104, 116]⟩ [114, 105, 103, 104, 116] (by decide +kernel)
  have f_27 := tl_const s ⟨#[102, 117, 108, 108]⟩ [102, 117, 108, 108] (by decide +kernel)
  have f_28 := tl_const s ⟨#[111, 117, 116, 101, 114]⟩ [111, 117, 116, 101, 114] (by decide +kernel)
  have f_29 := tl_const s ⟨#[99, 114, 111, 115, 115]⟩ [99, 114, 111, 115, 115] (by decide +kernel)
  have f_30 := tl_const s ⟨#[110, 97, 116, 117, 114, 97, 108]⟩ [110, 97, 116, 117, 114, 97, 108] (by decide +kernel)
  have f_31 := tl_const s ⟨#[108, 97, 116, 101, 114, 97, 108]⟩ [108, 97, 116, 101, 114, 97, 108] (by decide +kernel)
  have f_32 := tl_const s ⟨#[111, 110, 108, 121]⟩ [111, 110, 108, 121] (by decide +kernel)
  have f_33 := tl_const s ⟨#[114, 101, 116, 117, 114, 110, 105, 110, 103]⟩ [114, 101, 116, 117, 114, 110, 105, 110, 103] (by decide +kernel)
  have f_34 := tl_const s ⟨#[119, 105, 110, 100, 111, 119]⟩ [119, 105, 110, 100, 111, 119] (by decide +kernel)
  have f_35 := tl_const s ⟨#[102, 111, 114]⟩ [102, 111, 114] (by decide +kernel)
  have f_36 := tl_const s ⟨#[102, 101, 116, 99, 104]⟩ [102, 101, 116, 99, 104] (by decide +kernel)
  have f_37 := tl_const s ⟨#[119, 104, 101, 110]⟩ [119, 104, 101, 110] (by decide +kernel)
  have f_38 := tl_const s ⟨#[116, 104, 101, 110]⟩ [116, 104, 101, 110] (by decide +kernel)
  have f_39 := tl_const s ⟨#[119, 105, 116, 104]⟩ [119, 105, 116, 104] (by decide +kernel)
  have f_40 := tl_const s ⟨#[116, 97, 98, 108, 101]⟩ [116, 97, 98, 108, 101] (by decide +kernel)
  by_cases c_0 : s = ⟨#[115, 101, 108, 101, 99, 116]⟩
  · have hv : keyB s = true := by rw [c_0]; decide +kernel
    rw [hv]
    rw [decide_eq_true c_0] at f_0
    clear hv f_1 f_2 f_3 f_4 f_5 f_6 f_7 f_8 f_9 f_10 f_11 f_12 f_13 f_14 f_15 f_16 f_17 f_18 f_19 f_20 f_21 f_22 f_23 f_24 f_25 f_26 f_27 f_28 f_29 f_30 f_31 f_32 f_33 f_34 f_35 f_36 f_37 f_38 f_39 f_40 c_0
    go_enter Try.func98, Try.ntmps98
    go_wp2
    go_ret
    exact ⟨rfl, rfl⟩
  rw [decide_eq_false c_0] at f_0
  by_cases c_1 : s = ⟨#[102, 114, 111, 109]⟩
  · have hv : keyB s = true := by rw [c_1]; decide +kernel
    rw [hv]
    rw [decide_eq_true c_1] at f_1
    clear hv f_2 f_3 f_4 f_5 f_6 f_7 f_8 f_9 f_10 f_11 f_12 f_13 f_14 f_15 f_16 f_17 f_18 f_19 f_20 f_21 f_22 f_23 f_24 f_25 f_26 f_27 f_28 f_29 f_30 f_31 f_32 f_33 f_34 f_35 f_36 f_37 f_38 f_39 f_40 c_0 c_1
    go_enter Try.func98, Try.ntmps98
    go_wp2
    go_ret
    exact ⟨rfl, rfl⟩
  rw [decide_eq_false c_1] at f_1
  by_cases c_2 : s = ⟨#[119, 104, 101, 114, 101]⟩
  · have hv : keyB s = true := by rw [c_2]; decide +kernel
    rw [hv]
    rw [decide_eq_true c_2] at f_2
    clear hv f_3 f_4 f_5 f_6 f_7 f_8 f_9 f_10 f_11 f_12 f_13 f_14 f_15 f_16 f_17 f_18 f_19 f_20 f_21 f_22 f_23 f_24 f_25 f_26 f_27 f_28 f_29 f_30 f_31 f_32 f_33 f_34 f_35 f_36 f_37 f_38 f_39 f_40 c_0 c_1 c_2
    go_enter Try.func98, Try.ntmps98
    go_wp2
    go_ret
    exact ⟨rfl, rfl⟩
  rw [decide_eq_false c_2] at f_2
  by_cases c_3 : s = ⟨#[106, 111, 105, 110]⟩
  · have hv : keyB s = true := by rw [c_3]; decide +kernel
    rw [hv]
    rw [decide_eq_true c_3] at f_3
    clear hv f_4 f_5 f_6 f_7 f_8 f_9 f_10 f_11 f_12 f_13 f_14 f_15 f_16 f_17 f_18 f_19 f_20 f_21 f_22 f_23 f_24 f_25 f_26 f_27 f_28 f_29 f_30 f_31 f_32 f_33 f_34 f_35 f_36 f_37 f_38 f_39 f_40 c_0 c_1 c_2 c_3
    go_enter Try.func98, Try.ntmps98
    go_wp2
    go_ret
    exact ⟨rfl, rfl⟩
  rw [decide_eq_false c_3] at f_3
  by_cases c_4 : s = ⟨#[111, 110]⟩
  · have hv : keyB s = true := by rw [c_4]; decide +kernel
    rw [hv]
    rw [decide_eq_true c_4] at f_4
    clear hv f_5 f_6 f_7 f_8 f_9 f_10 f_11 f_12 f_13 f_14 f_15 f_16 f_17 f_18 f_19 f_20 f_21 f_22 f_23 f_24 f_25 f_26 f_27 f_28 f_29 f_30 f_31 f_32 f_33 f_34 f_35 f_36 f_37 f_38 f_39 f_40 c_0 c_1 c_2 c_3 c_4
    go_enter Try.func98, Try.ntmps98
    go_wp2
    go_ret
    exact ⟨rfl, rfl⟩
  rw [decide_eq_false c_4] at f_4
  by_cases c_5 : s = ⟨#[117, 115, 105, 110, 103]⟩
  · have hv : keyB s = true := by rw [c_5]; decide +kernel
    rw [hv]
    rw [decide_eq_true c_5] at f_5
    clear hv f_6 f_7 f_8 f_9 f_10 f_11 f_12 f_13 f_14 f_15 f_16 f_17 f_18 f_19 f_20 f_21 f_22 f_23 f_24 f_25 f_26 f_27 f_28 f_29 f_30 f_31 f_32 f_33 f_34 f_35 f_36 f_37 f_38 f_39 f_40 c_0 c_1 c_2 c_3 c_4 c_5
    go_enter Try.func98, Try.ntmps98
    go_wp2
    go_ret
    exact ⟨rfl, rfl⟩
  rw [decide_eq_false c_5] at f_5
  by_cases c_6 : s = ⟨#[103, 114, 111, 117, 112]⟩
  · have hv : keyB s = true := by rw [c_6]; decide +kernel
    rw [hv]
    rw [decide_eq_true c_6] at f_6
    clear hv f_7 f_8 f_9 f_10 f_11 f_12 f_13 f_14 f_15 f_16 f_17 f_18 f_19 f_20 f_21 f_22 f_23 f_24 f_25 f_26 f_27 f_28 f_29 f_30 f_31 f_32 f_33 f_34 f_35 f_36 f_37 f_38 f_39 f_40 c_0 c_1 c_2 c_3 c_4 c_5 c_6
    go_enter Try.func98, Try.ntmps98
    go_wp2
    go_ret
    exact ⟨rfl, rfl⟩
  rw [decide_eq_false c_6] at f_6
  by_cases c_7 : s = ⟨#[111, 114, 100, 101, 114]⟩
  · have hv : keyB s = true := by rw [c_7]; decide +kernel
    rw [hv]
    rw [decide_eq_true c_7] at f_7
    clear hv f_8 f_9 f_10 f_11 f_12 f_13 f_14 f_15 f_16 f_17 f_18 f_19 f_20 f_21 f_22 f_23 f_24 f_25 f_26 f_27 f_28 f_29 f_30 f_31 f_32 f_33 f_34 f_35 f_36 f_37 f_38 f_39 f_40 c_0 c_1 c_2 c_3 c_4 c_5 c_6 c_7
    go_enter Try.func98, Try.ntmps98
    go_wp2
    go_ret
    exact ⟨rfl, rfl⟩
  rw [decide_eq_false c_7] at f_7
  by_cases c_8 : s = ⟨#[104, 97, 118, 105, 110, 103]⟩
  · have hv : keyB s = true := by rw [c_8]; decide +kernel
    rw [hv]
    rw [decide_eq_true c_8] at f_8
    clear hv f_9 f_10 f_11 f_12 f_13 f_14 f_15 f_16 f_17 f_18 f_19 f_20 f_21 f_22 f_23 f_24 f_25 f_26 f_27 f_28 f_29 f_30 f_31 f_32 f_33 f_34 f_35 f_36 f_37 f_38 f_39 f_40 c_0 c_1 c_2 c_3 c_4 c_5 c_6 c_7 c_8
    go_enter Try.func98, Try.ntmps98
    go_wp2
    go_ret
    exact ⟨rfl, rfl⟩
  rw [decide_eq_false c_8] at f_8
  by_cases c_9 : s = ⟨#[108, 105, 109, 105, 116]⟩
  · have hv : keyB s = true := by rw [c_9]; decide +kernel
    rw [hv]
    rw [decide_eq_true c_9] at f_9
    clear hv f_10 f_11 f_12 f_13 f_14 f_15 f_16 f_17 f_18 f_19 f_20 f_21 f_22 f_23 f_24 f_25 f_26 f_27 f_28 f_29 f_30 f_31 f_32 f_33 f_34 f_35 f_36 f_37 f_38 f_39 f_40 c_0 c_1 c_2 c_3 c_4 c_5 c_6 c_7 c_8 c_9
    go_enter Try.func98, Try.ntmps98
    go_wp2
    go_ret
    exact ⟨rfl, rfl⟩
  rw [decide_eq_false c_9] at f_9
  by_cases c_10 : s = ⟨#[111, 102, 102, 115, 101, 116]⟩
  · have hv : keyB s = true := by rw [c_10]; decide +kernel
    rw [hv]
    rw [decide_eq_true c_10] at f_10
    clear hv f_11 f_12 f_13 f_14 f_15 f_16 f_17 f_18 f_19 f_20 f_21 f_22 f_23 f_24 f_25 f_26 f_27 f_28 f_29 f_30 f_31 f_32 f_33 f_34 f_35 f_36 f_37 f_38 f_39 f_40 c_0 c_1 c_2 c_3 c_4 c_5 c_6 c_7 c_8 c_9 c_10
    go_enter Try.func98, Try.ntmps98
    go_wp2
    go_ret
    exact ⟨rfl, rfl⟩
  rw [decide_eq_false c_10] at f_10
  by_cases c_11 : s = ⟨#[117, 110, 105, 111, 110]⟩
  · have hv : keyB s = true := by rw [c_11]; decide +kernel
    rw [hv]
    rw [decide_eq_true c_11] at f_11
    clear hv f_12 f_13 f_14 f_15 f_16 f_17 f_18 f_19 f_20 f_21 f_22 f_23 f_24 f_25 f_26 f_27 f_28 f_29 f_30 f_31 f_32 f_33 f_34 f_35 f_36 f_37 f_38 f_39 f_40 c_0 c_1 c_2 c_3 c_4 c_5 c_6 c_7 c_8 c_9 c_10 c_11
    go_enter Try.func98, Try.ntmps98
    go_wp2
    go_ret
    exact ⟨rfl, rfl⟩
  rw [decide_eq_false c_11] at f_11
  by_cases c_12 : s = ⟨#[101, 120, 99, 101, 112, 116]⟩
  · have hv : keyB s = true := by rw [c_12]; decide +kernel
    rw [hv]
    rw [decide_eq_true c_12] at f_12
    clear hv f_13 f_14 f_15 f_16 f_17 f_18 f_19 f_20 f_21 f_22 f_23 f_24 f_25 f_26 f_27 f_28 f_29 f_30 f_31 f_32 f_33 f_34 f_35 f_36 f_37 f_38 f_39 f_40 c_0 c_1 c_2 c_3 c_4 c_5 c_6 c_7 c_8 c_9 c_10 c_11 c_12
    go_enter Try.func98, Try.ntmps98
    go_wp2
    go_ret
    exact ⟨rfl, rfl⟩
  rw [decide_eq_false c_12] at f_12
  by_cases c_13 : s = ⟨#[105, 110, 116, 101, 114, 115, 101, 99, 116]⟩
  · have hv : keyB s = true := by rw [c_13]; decide +kernel
    rw [hv]
    rw [decide_eq_true c_13] at f_13
    clear hv f_14 f_15 f_16 f_17 f_18 f_19 f_20 f_21 f_22 f_23 f_24 f_25 f_26 f_27 f_28 f_29 f_30 f_31 f_32 f_33 f_34 f_35 f_36 f_37 f_38 f_39 f_40 c_0 c_1 c_2 c_3 c_4 c_5 c_6 c_7 c_8 c_9 c_10 c_11 c_12 c_13
    go_enter Try.func98, Try.ntmps98
    go_wp2
    go_ret
    exact ⟨rfl, rfl⟩
  rw [decide_eq_false c_13] at f_13
  by_cases c_14 : s = ⟨#[97, 115]⟩
  · have hv : keyB s = true := by rw [c_14]; decide +kernel
    rw [hv]
    rw [decide_eq_true c_14] at f_14
    clear hv f_15 f_16 f_17 f_18 f_19 f_20 f_21 f_22 f_23 f_24 f_25 f_26 f_27 f_28 f_29 f_30 f_31 f_32 f_33 f_34 f_35 f_36 f_37 f_38 f_39 f_40 c_0 c_1 c_2 c_3 c_4 c_5 c_6 c_7 c_8 c_9 c_10 c_11 c_12 c_13 c_14
    go_enter Try.func98, Try.ntmps98
    go_wp2
    go_ret
    exact ⟨rfl, rfl⟩
  rw [decide_eq_false c_14] at f_14
  by_cases c_15 : s = ⟨#[97, 110, 100]⟩
  · have hv : keyB s = true := by rw [c_15]; decide +kernel
    rw [hv]
    rw [decide_eq_true c_15] at f_15
    clear hv f_16 f_17 f_18 f_19 f_20 f_21 f_22 f_23 f_24 f_25 f_26 f_27 f_28 f_29 f_30 f_31 f_32 f_33 f_34 f_35 f_36 f_37 f_38 f_39 f_40 c_0 c_1 c_2 c_3 c_4 c_5 c_6 c_7 c_8 c_9 c_10 c_11 c_12 c_13 c_14 c_15
    go_enter Try.func98, Try.ntmps98
    go_wp2
    go_ret
    exact ⟨rfl, rfl⟩
  rw [decide_eq_false c_15] at f_15
  by_cases c_16 : s = ⟨#[111, 114]⟩
  · have hv : keyB s = true := by rw [c_16]; decide +kernel
    rw [hv]
    rw [decide_eq_true c_16] at f_16
    clear hv f_17 f_18 f_19 f_20 f_21 f_22 f_23 f_24 f_25 f_26 f_27 f_28 f_29 f_30 f_31 f_32 f_33 f_34 f_35 f_36 f_37 f_38 f_39 f_40 c_0 c_1 c_2 c_3 c_4 c_5 c_6 c_7 c_8 c_9 c_10 c_11 c_12 c_13 c_14 c_15 c_16
    go_enter Try.func98, Try.ntmps98
    go_wp2
    go_ret
    exact ⟨rfl, rfl⟩
  rw [decide_eq_false c_16] at f_16
  by_cases c_17 : s = ⟨#[110, 111, 116]⟩
  · have hv : keyB s = true := by rw [c_17]; decide +kernel
    rw [hv]
    rw [decide_eq_true c_17] at f_17
    clear hv f_18 f_19 f_20 f_21 f_22 f_23 f_24 f_25 f_26 f_27 f_28 f_29 f_30 f_31 f_32 f_33 f_34 f_35 f_36 f_37 f_38 f_39 f_40 c_0 c_1 c_2 c_3 c_4 c_5 c_6 c_7 c_8 c_9 c_10 c_11 c_12 c_13 c_14 c_15 c_16 c_17
    go_enter Try.func98, Try.ntmps98
    go_wp2
    go_ret
    exact ⟨rfl, rfl⟩
  rw [decide_eq_false c_17] at f_17
  by_cases c_18 : s = ⟨#[105, 110]⟩
  · have hv : keyB s = true := by rw [c_18]; decide +kernel
    rw [hv]
    rw [decide_eq_true c_18] at f_18
    clear hv f_19 f_20 f_21 f_22 f_23 f_24 f_25 f_26 f_27 f_28 f_29 f_30 f_31 f_32 f_33 f_34 f_35 f_36 f_37 f_38 f_39 f_40 c_0 c_1 c_2 c_3 c_4 c_5 c_6 c_7 c_8 c_9 c_10 c_11 c_12 c_13 c_14 c_15 c_16 c_17 c_18
    go_enter Try.func98, Try.ntmps98
    go_wp2
    go_ret
    exact ⟨rfl, rfl⟩
  rw [decide_eq_false c_18] at f_18
  by_cases c_19 : s = ⟨#[105, 115]⟩
  · have hv : keyB s = true := by rw [c_19]; decide +kernel
    rw [hv]
    rw [decide_eq_true c_19] at f_19
    clear hv f_20 f_21 f_22 f_23 f_24 f_25 f_26 f_27 f_28 f_29 f_30 f_31 f_32 f_33 f_34 f_35 f_36 f_37 f_38 f_39 f_40 c_0 c_1 c_2 c_3 c_4 c_5 c_6 c_7 c_8 c_9 c_10 c_11 c_12 c_13 c_14 c_15 c_16 c_17 c_18 c_19
    go_enter Try.func98, Try.ntmps98
    go_wp2
    go_ret
    exact ⟨rfl, rfl⟩
  rw [decide_eq_false c_19] at f_19
  by_cases c_20 : s = ⟨#[110, 117, 108, 108]⟩
  · have hv : keyB s = true := by rw [c_20]; decide +kernel
    rw [hv]
    rw [decide_eq_true c_20] at f_20
    clear hv f_21 f_22 f_23 f_24 f_25 f_26 f_27 f_28 f_29 f_30 f_31 f_32 f_33 f_34 f_35 f_36 f_37 f_38 f_39 f_40 c_0 c_1 c_2 c_3 c_4 c_5 c_6 c_7 c_8 c_9 c_10 c_11 c_12 c_13 c_14 c_15 c_16 c_17 c_18 c_19 c_20
    go_enter Try.func98, Try.ntmps98
    go_wp2
    go_ret
    exact ⟨rfl, rfl⟩
  rw [decide_eq_false c_20] at f_20
  by_cases c_21 : s = ⟨#[118, 97, 108, 117, 101, 115]⟩
  · have hv : keyB s = true := by rw [c_21]; decide +kernel
    rw [hv]
    rw [decide_eq_true c_21] at f_21
    clear hv f_22 f_23 f_24 f_25 f_26 f_27 f_28 f_29 f_30 f_31 f_32 f_33 f_34 f_35 f_36 f_37 f_38 f_39 f_40 c_0 c_1 c_2 c_3 c_4 c_5 c_6 c_7 c_8 c_9 c_10 c_11 c_12 c_13 c_14 c_15 c_16 c_17 c_18 c_19 c_20 c_21
    go_enter Try.func98, Try.ntmps98
    go_wp2
    go_ret
    exact ⟨rfl, rfl⟩
  rw [decide_eq_false c_21] at f_21
  by_cases c_22 : s = ⟨#[115, 101, 116]⟩
  · have hv : keyB s = true := by rw [c_22]; decide +kernel
    rw [hv]
    rw [decide_eq_true c_22] at f_22
    clear hv f_23 f_24 f_25 f_26 f_27 f_28 f_29 f_30 f_31 f_32 f_33 f_34 f_35 f_36 f_37 f_38 f_39 f_40 c_0 c_1 c_2 c_3 c_4 c_5 c_6 c_7 c_8 c_9 c_10 c_11 c_12 c_13 c_14 c_15 c_16 c_17 c_18 c_19 c_20 c_21 c_22
    go_enter Try.func98, Try.ntmps98
    go_wp2
    go_ret
    exact ⟨rfl, rfl⟩
  rw [decide_eq_false c_22] at f_22
  by_cases c_23 : s = ⟨#[105, 110, 116, 111]⟩
  · have hv : keyB s = true := by rw [c_23]; decide +kernel
    rw [hv]
    rw [decide_eq_true c_23] at f_23
    clear hv f_24 f_25 f_26 f_27 f_28 f_29 f_30 f_31 f_32 f_33 f_34 f_35 f_36 f_37 f_38 f_39 f_40 c_0 c_1 c_2 c_3 c_4 c_5 c_6 c_7 c_8 c_9 c_10 c_11 c_12 c_13 c_14 c_15 c_16 c_17 c_18 c_19 c_20 c_21 c_22 c_23
    go_enter Try.func98, Try.ntmps98
    go_wp2
    go_ret
    exact ⟨rfl, rfl⟩
  rw [decide_eq_false c_23] at f_23
  by_cases c_24 : s = ⟨#[105, 110, 110, 101, 114]⟩
  · have hv : keyB s = true := by rw [c_24]; decide +kernel
    rw [hv]
    rw [decide_eq_true c_24] at f_24
    clear hv f_25 f_26 f_27 f_28 f_29 f_30 f_31 f_32 f_33 f_34 f_35 f_36 f_37 f_38 f_39 f_40 c_0 c_1 c_2 c_3 c_4 c_5 c_6 c_7 c_8 c_9 c_10 c_11 c_12 c_13 c_14 c_15 c_16 c_17 c_18 c_19 c_20 c_21 c_22 c_23 c_24
    go_enter Try.func98, Try.ntmps98
    go_wp2
    go_ret
    exact ⟨rfl, rfl⟩
  rw [decide_eq_false c_24] at f_24
  by_cases c_25 : s = ⟨#[108, 101, 102, 116]⟩
  · have hv : keyB s = true := by rw [c_25]; decide +kernel
    rw [hv]
    rw [decide_eq_true c_25] at f_25
    clear hv f_26 f_27 f_28 f_29 f_30 f_31 f_32 f_33 f_34 f_35 f_36 f_37 f_38 f_39 f_40 c_0 c_1 c_2 c_3 c_4 c_5 c_6 c_7 c_8 c_9 c_10 c_11 c_12 c_13 c_14 c_15 c_16 c_17 c_18 c_19 c_20 c_21 c_22 c_23 c_24 c_25
    go_enter Try.func98, Try.ntmps98
    go_wp2
    go_ret
    exact ⟨rfl, rfl⟩
  rw [decide_eq_false c_25] at f_25
  by_cases c_26 : s = ⟨#[114, 105, 103, 104, 116]⟩
  · have hv : keyB s = true := by rw [c_26]; decide +kernel
    rw [hv]
    rw [decide_eq_true c_26] at f_26
    clear hv f_27 f_28 f_29 f_30 f_31 f_32 f_33 f_34 f_35 f_36 f_37 f_38 f_39 f_40 c_0 c_1 c_2 c_3 c_4 c_5 c_6 c_7 c_8 c_9 c_10 c_11 c_12 c_13 c_14 c_15 c_16 c_17 c_18 c_19 c_20 c_21 c_22 c_23 c_24 c_25 c_26
    go_enter Try.func98, Try.ntmps98
    go_wp2
    go_ret
    exact ⟨rfl, rfl⟩
  rw [decide_eq_false c_26] at f_26
  by_cases c_27 : s = ⟨#[102, 117, 108, 108]⟩
  · have hv : keyB s = true := by rw [c_27]; decide +kernel
    rw [hv]
    rw [decide_eq_true c_27] at f_27
    clear hv f_28 f_29 f_30 f_31 f_32 f_33 f_34 f_35 f_36 f_37 f_38 f_39 f_40 c_0 c_1 c_2 c_3 c_4 c_5 c_6 c_7 c_8 c_9 c_10 c_11 c_12 c_13 c_14 c_15 c_16 c_17 c_18 c_19 c_20 c_21 c_22 c_23 c_24 c_25 c_26 c_27
    go_enter Try.func98, Try.ntmps98
    go_wp2
    go_ret
    exact ⟨rfl, rfl⟩
  rw [decide_eq_false c_27] at f_27
  by_cases c_28 : s = ⟨#[111, 117, 116, 101, 114]⟩
  · have hv : keyB s = true := by rw [c_28]; decide +kernel
    rw [hv]
    rw [decide_eq_true c_28] at f_28
    clear hv f_29 f_30 f_31 f_32 f_33 f_34 f_35 f_36 f_37 f_38 f_39 f_40 c_0 c_1 c_2 c_3 c_4 c_5 c_6 c_7 c_8 c_9 c_10 c_11 c_12 c_13 c_14 c_15 c_16 c_17 c_18 c_19 c_20 c_21 c_22 c_23 c_24 c_25 c_26 c_27 c_28
    go_enter Try.func98, Try.ntmps98
    go_wp2
    go_ret
    exact ⟨rfl, rfl⟩
  rw [decide_eq_false c_28] at f_28
  by_cases c_29 : s = ⟨#[99, 114, 111, 115, 115]⟩
  · have hv : keyB s = true := by rw [c_29]; decide +kernel
    rw [hv]
    rw [decide_eq_true c_29] at f_29
    clear hv f_30 f_31 f_32 f_33 f_34 f_35 f_36 f_37 f_38 f_39 f_40 c_0 c_1 c_2 c_3 c_4 c_5 c_6 c_7 c_8 c_9 c_10 c_11 c_12 c_13 c_14 c_15 c_16 c_17 c_18 c_19 c_20 c_21 c_22 c_23 c_24 c_25 c_26 c_27 c_28 c_29
    go_enter Try.func98, Try.ntmps98
    go_wp2
    go_ret
    exact ⟨rfl, rfl⟩
  rw [decide_eq_false c_29] at f_29
  by_cases c_30 : s = ⟨#[110, 97, 116, 117, 114, 97, 108]⟩
  · have hv : keyB s = true := by rw [c_30]; decide +kernel
    rw [hv]
    rw [decide_eq_true c_30] at f_30
    clear hv f_31 f_32 f_33 f_34 f_35 f_36 f_37 f_38 f_39 f_40 c_0 c_1 c_2 c_3 c_4 c_5 c_6 c_7 c_8 c_9 c_10 c_11 c_12 c_13 c_14 c_15 c_16 c_17 c_18 c_19 c_20 c_21 c_22 c_23 c_24 c_25 c_26 c_27 c_28 c_29 c_30
    go_enter Try.func98, Try.ntmps98
    go_wp2
    go_ret
    exact ⟨rfl, rfl⟩
  rw [decide_eq_false c_30] at f_30
  by_cases c_31 : s = ⟨#[108, 97, 116, 101, 114, 97, 108]⟩
  · have hv : keyB s = true := by rw [c_31]; decide +kernel
    rw [hv]
    rw [decide_eq_true c_31] at f_31
    clear hv f_32 f_33 f_34 f_35 f_36 f_37 f_38 f_39 f_40 c_0 c_1 c_2 c_3 c_4 c_5 c_6 c_7 c_8 c_9 c_10 c_11 c_12 c_13 c_14 c_15 c_16 c_17 c_18 c_19 c_20 c_21 c_22 c_23 c_24 c_25 c_26 c_27 c_28 c_29 c_30 c_31
    go_enter Try.func98, Try.ntmps98
    go_wp2
    go_ret
    exact ⟨rfl, rfl⟩
  rw [decide_eq_false c_31] at f_31
  by_cases c_32 : s = ⟨#[111, 110, 108, 121]⟩
  · have hv : keyB s = true := by rw [c_32]; decide +kernel
    rw [hv]
    rw [decide_eq_true c_32] at f_32
    clear hv f_33 f_34 f_35 f_36 f_37 f_38 f_39 f_40 c_0 c_1 c_2 c_3 c_4 c_5 c_6 c_7 c_8 c_9 c_10 c_11 c_12 c_13 c_14 c_15 c_16 c_17 c_18 c_19 c_20 c_21 c_22 c_23 c_24 c_25 c_26 c_27 c_28 c_29 c_30 c_31 c_32
    go_enter Try.func98, Try.ntmps98
    go_wp2
    go_ret
    exact ⟨rfl, rfl⟩
  rw [decide_eq_false c_32] at f_32
  by_cases c_33 : s = ⟨#[114, 101, 116, 117, 114, 110, 105, 110, 103]⟩
  · have hv : keyB s = true := by rw [c_33]; decide +kernel
    rw [hv]
    rw [decide_eq_true c_33] at f_33
    clear hv f_34 f_35 f_36 f_37 f_38 f_39 f_40 c_0 c_1 c_2 c_3 c_4 c_5 c_6 c_7 c_8 c_9 c_10 c_11 c_12 c_13 c_14 c_15 c_16 c_17 c_18 c_19 c_20 c_21 c_22 c_23 c_24 c_25 c_26 c_27 c_28 c_29 c_30 c_31 c_32 c_33
    go_enter Try.func98, Try.ntmps98
    go_wp2
    go_ret
    exact ⟨rfl, rfl⟩
  rw [decide_eq_false c_33] at f_33
  by_cases c_34 : s = ⟨#[119, 105, 110, 100, 111, 119]⟩
  · have hv : keyB s = true := by rw [c_34]; decide +kernel
    rw [hv]
    rw [decide_eq_true c_34] at f_34
    clear hv f_35 f_36 f_37 f_38 f_39 f_40 c_0 c_1 c_2 c_3 c_4 c_5 c_6 c_7 c_8 c_9 c_10 c_11 c_12 c_13 c_14 c_15 c_16 c_17 c_18 c_19 c_20 c_21 c_22 c_23 c_24 c_25 c_26 c_27 c_28 c_29 c_30 c_31 c_32 c_33 c_34
    go_enter Try.func98, Try.ntmps98
    go_wp2
    go_ret
    exact ⟨rfl, rfl⟩
  rw [decide_eq_false c_34] at f_34
  by_cases c_35 : s = ⟨#[102, 111, 114]⟩
  · have hv : keyB s = true := by rw [c_35]; decide +kernel
    rw [hv]
    rw [decide_eq_true c_35] at f_35
    clear hv f_36 f_37 f_38 f_39 f_40 c_0 c_1 c_2 c_3 c_4 c_5 c_6 c_7 c_8 c_9 c_10 c_11 c_12 c_13 c_14 c_15 c_16 c_17 c_18 c_19 c_20 c_21 c_22 c_23 c_24 c_25 c_26 c_27 c_28 c_29 c_30 c_31 c_32 c_33 c_34 c_35
    go_enter Try.func98, Try.ntmps98
    go_wp2
    go_ret
    exact ⟨rfl, rfl⟩
  rw [decide_eq_false c_35] at f_35
  by_cases c_36 : s = ⟨#[102, 101, 116, 99, 104]⟩
  · have hv : keyB s = true := by rw [c_36]; decide +kernel
    rw [hv]
    rw [decide_eq_true c_36] at f_36
    clear hv f_37 f_38 f_39 f_40 c_0 c_1 c_2 c_3 c_4 c_5 c_6 c_7 c_8 c_9 c_10 c_11 c_12 c_13 c_14 c_15 c_16 c_17 c_18 c_19 c_20 c_21 c_22 c_23 c_24 c_25 c_26 c_27 c_28 c_29 c_30 c_31 c_32 c_33 c_34 c_35 c_36
    go_enter Try.func98, Try.ntmps98
    go_wp2
    go_ret
    exact ⟨rfl, rfl⟩
  rw [decide_eq_false c_36] at f_36
  by_cases c_37 : s = ⟨#[119, 104, 101, 110]⟩
  · have hv : keyB s = true := by rw [c_37]; decide +kernel
    rw [hv]
    rw [decide_eq_true c_37] at f_37
    clear hv f_38 f_39 f_40 c_0 c_1 c_2 c_3 c_4 c_5 c_6 c_7 c_8 c_9 c_10 c_11 c_12 c_13 c_14 c_15 c_16 c_17 c_18 c_19 c_20 c_21 c_22 c_23 c_24 c_25 c_26 c_27 c_28 c_29 c_30 c_31 c_32 c_33 c_34 c_35 c_36 c_37
    go_enter Try.func98, Try.ntmps98
    go_wp2
    go_ret
    exact ⟨rfl, rfl⟩
  rw [decide_eq_false c_37] at f_37
  by_cases c_38 : s = ⟨#[116, 104, 101, 110]⟩
  · have hv : keyB s = true := by rw [c_38]; decide +kernel
    rw [hv]
    rw [decide_eq_true c_38] at f_38
    clear hv f_39 f_40 c_0 c_1 c_2 c_3 c_4 c_5 c_6 c_7 c_8 c_9 c_10 c_11 c_12 c_13 c_14 c_15 c_16 c_17 c_18 c_19 c_20 c_21 c_22 c_23 c_24 c_25 c_26 c_27 c_28 c_29 c_30 c_31 c_32 c_33 c_34 c_35 c_36 c_37 c_38
    go_enter Try.func98, Try.ntmps98
    go_wp2
    go_ret
    exact ⟨rfl, rfl⟩
  rw [decide_eq_false c_38] at f_38
  by_cases c_39 : s = ⟨#[119, 105, 116, 104]⟩
  · have hv : keyB s = true := by rw [c_39]; decide +kernel
    rw [hv]
    rw [decide_eq_true c_39] at f_39
    clear hv f_40 c_0 c_1 c_2 c_3 c_4 c_5 c_6 c_7 c_8 c_9 c_10 c_11 c_12 c_13 c_14 c_15 c_16 c_17 c_18 c_19 c_20 c_21 c_22 c_23 c_24 c_25 c_26 c_27 c_28 c_29 c_30 c_31 c_32 c_33 c_34 c_35 c_36 c_37 c_38 c_39
    go_enter Try.func98, Try.ntmps98
    go_wp2
    go_ret
    exact ⟨rfl, rfl⟩
  rw [decide_eq_false c_39] at f_39
  by_cases c_40 : s = ⟨#[116, 97, 98, 108, 101]⟩
  · have hv : keyB s = true := by rw [c_40]; decide +kernel
    rw [hv]
    rw [decide_eq_true c_40] at f_40
    clear hv  c_0 c_1 c_2 c_3 c_4 c_5 c_6 c_7 c_8 c_9 c_10 c_11 c_12 c_13 c_14 c_15 c_16 c_17 c_18 c_19 c_20 c_21 c_22 c_23 c_24 c_25 c_26 c_27 c_28 c_29 c_30 c_31 c_32 c_33 c_34 c_35 c_36 c_37 c_38 c_39 c_40
    go_enter Try.func98, Try.ntmps98
    go_wp2
    go_ret
    exact ⟨rfl, rfl⟩
  rw [decide_eq_false c_40] at f_40
  have hv : keyB s = false := by
    unfold keyB
    rw [memB_not]
    simp only [keyL, List.mem_cons, List.not_mem_nil, or_false, not_or]
    exact ⟨c_0, c_1, c_2, c_3, c_4, c_5, c_6, c_7, c_8, c_9, c_10, c_11, c_12, c_13, c_14, c_15, c_16, c_17, c_18, c_19, c_20, c_21, c_22, c_23, c_24, c_25, c_26, c_27, c_28, c_29, c_30, c_31, c_32, c_33, c_34, c_35, c_36, c_37, c_38, c_39, c_40⟩
  rw [hv]
  clear hv c_0 c_1 c_2 c_3 c_4 c_5 c_6 c_7 c_8 c_9 c_10 c_11 c_12 c_13 c_14 c_15 c_16 c_17 c_18 c_19 c_20 c_21 c_22 c_23 c_24 c_25 c_26 c_27 c_28 c_29 c_30 c_31 c_32 c_33 c_34 c_35 c_36 c_37 c_38 c_39 c_40
  go_enter Try.func98, Try.ntmps98
  go_wp2
  go_ret
  exact ⟨rfl, rfl⟩

set_option maxHeartbeats 4000000 in
theorem is_any (k : Env) (w : World) (R : Assn) (a : Option Addr) (cap : Nat) (l : List Tok) (i : Int) (kd : Int) (s : ByteArray) (hr : RdT k R a l) (h : Sat k w R) :
    Calls Try.prog 91 #[.slice a l.length cap, .int .i64 i, .int .i64 kd, .string s] w fun e w' => e = .returned (.bool (isAt l i kd s)) ∧ w = w' := by
  rcases Int.lt_or_le i 0 with hneg | h0
  · have h0' : ¬ (0 : Int) ≤ i := by omega
    rw [isAt_neg l i kd s h0']
    clear hr h
    go_enter Try.func91, Try.ntmps91
    go_wp2
    go_ret
    exact ⟨rfl, rfl⟩
  obtain ⟨j, rfl⟩ := Int.eq_ofNat_of_zero_le h0
  by_cases hlt : j < l.length
  · have hlt' : (j : Int) < l.length := by omega
    obtain ⟨g, o, rfl, c0, c1, c2⟩ := rdt_get hr h j hlt
    rw [isAt_lt l j kd s hlt]
    generalize l[j] = x at *
    obtain ⟨xk, xt, xa⟩ := x
    simp only at c0 c1 c2 ⊢
    have b1 : (xk == kd) = decide (xk = kd) := by rw [Bool.eq_iff_iff]; simp
    have b2 := tl_beq xt s
    clear hr h
    cases hk : decide (xk = kd) with
    | true =>
      rw [hk] at b1
      clear hk
      cases ht : decide (xt = s) with
      | true =>
        rw [ht] at b2
        clear ht
        go_enter Try.func91, Try.ntmps91
        go_wp2
        go_ret
        exact ⟨rfl, rfl⟩
      | false =>
        rw [ht] at b2
        clear ht
        go_enter Try.func91, Try.ntmps91
        go_wp2
        go_ret
        exact ⟨rfl, rfl⟩
    | false =>
      rw [hk] at b1
      clear hk b2
      go_enter Try.func91, Try.ntmps91
      go_wp2
      go_ret
      exact ⟨rfl, rfl⟩
  · have hlt' : ¬ (j : Int) < l.length := by omega
    rw [isAt_ge l j kd s hlt]
    clear hr h hlt
    go_enter Try.func91, Try.ntmps91
    go_wp2
    go_ret
    exact ⟨rfl, rfl⟩

set_option maxHeartbeats 4000000 in
theorem rwd_any (k : Env) (w : World) (R : Assn) (a : Option Addr) (cap : Nat) (l : List Tok) (i : Int) (s : ByteArray) (hr : RdT k R a l) (h : Sat k w R) :
    Calls Try.prog 79 #[.slice a l.length cap, .int .i64 i, .string s] w fun e w' => e = .returned (.bool (isAt l i 1 s)) ∧ w = w' := by
  rcases Int.lt_or_le i 0 with hneg | h0
  · have h0' : ¬ (0 : Int) ≤ i := by omega
    rw [isAt_neg l i 1 s h0']
    clear hr h
    go_enter Try.func79, Try.ntmps79
    go_wp2
    go_ret
    exact ⟨rfl, rfl⟩
  obtain ⟨j, rfl⟩ := Int.eq_ofNat_of_zero_le h0
  by_cases hlt : j < l.length
  · have hlt' : (j : Int) < l.length := by omega
    obtain ⟨g, o, rfl, c0, c1, c2⟩ := rdt_get hr h j hlt
    rw [isAt_lt l j 1 s hlt]
    generalize l[j] = x at *
    obtain ⟨xk, xt, xa⟩ := x
    simp only at c0 c1 c2 ⊢
    have b1 : (xk == 1) = decide (xk = 1) := by rw [Bool.eq_iff_iff]; simp
    have b2 := tl_beq xt s
    clear hr h
    cases hk : decide (xk = 1) with
    | true =>
      rw [hk] at b1
      clear hk
      cases ht : decide (xt = s) with
      | true =>
        rw [ht] at b2
        clear ht
        go_enter Try.func79, Try.ntmps79
        go_wp2
        go_ret
        exact ⟨rfl, rfl⟩
      | false =>
        rw [ht] at b2
        clear ht
        go_enter Try.func79, Try.ntmps79
        go_wp2
        go_ret
        exact ⟨rfl, rfl⟩
    | false =>
      rw [hk] at b1
      clear hk b2
      go_enter Try.func79, Try.ntmps79
      go_wp2
      go_ret
      exact ⟨rfl, rfl⟩
  · have hlt' : ¬ (j : Int) < l.length := by omega
    rw [isAt_ge l j 1 s hlt]
    clear hr h hlt
    go_enter Try.func79, Try.ntmps79
    go_wp2
    go_ret
    exact ⟨rfl, rfl⟩

set_option maxHeartbeats 4000000 in
theorem rsg_any (k : Env) (w : World) (R : Assn) (a : Option Addr) (cap : Nat) (l : List Tok) (i : Nat) (s : ByteArray) (hr : RdT k R a l) (h : Sat k w R) :
    Calls Try.prog 96 #[.slice a l.length cap, .int .i64 i, .string s] w fun e w' => e = .returned (.bool (isAt l i 5 s)) ∧ w = w' := by
  have h0 : (0 : Int) ≤ i := by omega
  by_cases hlt : i < l.length
  · have hlt' : (i : Int) < l.length := by omega
    obtain ⟨g, o, rfl, c0, c1, c2⟩ := rdt_get hr h i hlt
    rw [isAt_lt l i 5 s hlt]
    generalize l[i] = x at *
    obtain ⟨xk, xt, xa⟩ := x
    simp only at c0 c1 c2 ⊢
    have b1 : (xk == 5) = decide (xk = 5) := by rw [Bool.eq_iff_iff]; simp
    have b2 := tl_beq xt s
    clear hr h
    cases hk : decide (xk = 5) with
    | true =>
      rw [hk] at b1
      clear hk
      cases ht : decide (xt = s) with
      | true =>
        rw [ht] at b2
        clear ht
        go_enter Try.func96, Try.ntmps96
        go_wp2
        go_ret
        exact ⟨rfl, rfl⟩
      | false =>
        rw [ht] at b2
        clear ht
        go_enter Try.func96, Try.ntmps96
        go_wp2
        go_ret
        exact ⟨rfl, rfl⟩
    | false =>
      rw [hk] at b1
      clear hk b2
      go_enter Try.func96, Try.ntmps96
      go_wp2
      go_ret
      exact ⟨rfl, rfl⟩
  · have hlt' : ¬ (i : Int) < l.length := by omega
    rw [isAt_ge l i 5 s hlt]
    clear hr h hlt
    go_enter Try.func96, Try.ntmps96
    go_wp2
    go_ret
    exact ⟨rfl, rfl⟩

set_option maxHeartbeats 2000000 in
theorem in7_any (k : Env) (w : World) (R : Assn) (a : Option Addr) (cap : Nat) (l : List ByteArray) (s : ByteArray) (hr : Rd k R a l) (hn : l.length ≤ 1000000000) (h : Sat k w R) :
    Calls Try.prog 93 #[.slice a l.length cap, .string s] w fun e w' => e = .returned (.bool (memB s l)) ∧ Sat k w' R := by
  have HR := Lib.hid hr
  clear hr
  go_enter Try.func93, Try.ntmps93
  go_wp2_with fail
  go_loopw [5] (fun i wr => ∃ j : Nat, j ≤ l.length ∧ i = .int .i64 j ∧ Hid (memB s (l.take j) = false) ∧ Sat k wr R) (fun i _ => l.length - (intOf i).toNat)
  case atStart => exact ⟨0, Nat.zero_le _, rfl, rfl, h⟩
  case round =>
    clear h
    obtain ⟨j, hj, rfl, HB, hs⟩ := hrel
    by_cases hlt : j < l.length
    · have hlt' : (j : Int) < l.length := by omega
      obtain ⟨g, o, rfl, d⟩ := rd_get HR.out hs j hlt
      have HSN : Hid (memB s (l.take (j + 1)) = (memB s (l.take j) || decide (l[j] = s))) := by
        have hsn : l.take (j + 1) = l.take j ++ [l[j]] := by rw [List.take_succ]; simp [hlt]
        unfold Hid; rw [hsn, memB_snoc]
      have HM : Hid (l[j] ∈ l) := List.getElem_mem hlt
      generalize l[j] = x at *
      have hcmp : (x.toList == s.toList) = decide (x = s) := tl_beq _ _
      by_cases hx : x = s
      · rw [decide_eq_true hx] at hcmp
        have HX := Lib.hid hx
        clear hx
        have HT : Hid (memB s l = true) := by
          have h1 := HM.out
          have h2 := HX.out
          rw [h2] at h1
          exact memB_iff.2 h1
        go_wp2_with fail
        go_ret
        exact ⟨by rw [HT.out]; rfl, hs⟩
      · rw [decide_eq_false hx] at hcmp
        rw [decide_eq_false hx] at HSN
        have HX := Lib.hid hx
        clear hx
        go_wp2_with fail
        go_roundw
        case rel => exact ⟨j + 1, by omega, by go_num, by unfold Hid; rw [HSN.out, HB.out]; rfl, hs⟩
        case measure => simp [intOf]; omega
    · have hjl : j = l.length := by omega
      subst hjl
      rw [List.take_length] at HB
      go_wp2_with fail
      go_ret
      exact ⟨by rw [HB.out]; rfl, hs⟩

theorem keys_any (k : Env) (w : World) (R : Assn) (h : Sat k w R) :
    Calls Try.prog 99 #[] w fun e w' => ∃ b, e = .returned (.slice b 41 41) ∧ Sat k w' (Strs (.slice b 41 41) keyL * R) := by
  have h2 : Sat k (w.alloc (.cells #[.string ⟨#[115, 101, 108, 101, 99, 116]⟩, .string ⟨#[102, 114, 111, 109]⟩, .string ⟨#[119, 104, 101, 114, 101]⟩, .string ⟨#[106, 111, 105, 110]⟩, .string ⟨#[111, 110]⟩, .string ⟨#[117, 115, 105, 110, 103]⟩, .string ⟨#[103, 114, 111, 117, 112]⟩, .string ⟨#[111, 114, 100, 101, 114]⟩, .string ⟨#[104, 97, 118, 105, 110, 103]⟩, .string ⟨#[108, 105, 109, 105, 116]⟩, .string ⟨#[111, 102, 102, 115, 101, 116]⟩, .string ⟨#[117, 110, 105, 111, 110]⟩, .string ⟨#[101, 120, 99, 101, 112, 116]⟩, .string ⟨#[105, 110, 116, 101, 114, 115, 101, 99, 116]⟩, .string ⟨#[97, 115]⟩, .string ⟨#[97, 110, 100]⟩, .string ⟨#[111, 114]⟩, .string ⟨#[110, 111, 116]⟩, .string ⟨#[105, 110]⟩, .string ⟨#[105, 115]⟩, .string ⟨#[110, 117, 108, 108]⟩, .string ⟨#[118, 97, 108, 117, 101, 115]⟩, .string ⟨#[115, 101, 116]⟩, .string ⟨#[105, 110, 116, 111]⟩, .string ⟨#[105, 110, 110, 101, 114]⟩, .string ⟨#[108, 101, 102, 116]⟩, .string ⟨#[114, 105, 103, 104, 116]⟩, .string ⟨#[102, 117, 108, 108]⟩, .string ⟨#[111, 117, 116, 101, 114]⟩, .string ⟨#[99, 114, 111, 115, 115]⟩, .string ⟨#[110, 97, 116, 117, 114, 97, 108]⟩, .string ⟨#[108, 97, 116, 101, 114, 97, 108]⟩, .string ⟨#[111, 110, 108, 121]⟩, .string ⟨#[114, 101, 116, 117, 114, 110, 105, 110, 103]⟩, .string ⟨#[119, 105, 110, 100, 111, 119]⟩, .string ⟨#[102, 111, 114]⟩, .string ⟨#[102, 101, 116, 99, 104]⟩, .string ⟨#[119, 104, 101, 110]⟩, .string ⟨#[116, 104, 101, 110]⟩, .string ⟨#[119, 105, 116, 104]⟩, .string ⟨#[116, 97, 98, 108, 101]⟩] 9)) (Strs (.slice (some ⟨w.heap.size, 0, none⟩) 41 41) keyL * R) := strs_lit keyL (by decide) h w.heap.size rfl
  go_enter Try.func99, Try.ntmps99
  go_wp2
  go_ret
  exact ⟨_, rfl, h2⟩

end Go.Proofs.Ytoeepbjnbgpmpaa
