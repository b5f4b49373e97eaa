/- Several texts in one: OctA, OctB, OctC. -/
import Derived.Test.YtlilogcojeoelaaBytesS
import Derived.Test.YtlilogcojeoelaaMA
import Derived.StillTailTactics
import Derived.Laws.DeepStrings4
import Derived.Laws.Concat
import Derived.Deep.DeepCutAuto
namespace Go.Proofs.Ytlilogcojeoelaa
set_option linter.all false
open Go Go.RowKit

/-- Where the first 0 is; -1: nowhere. -/
def endL : List UInt8 → Nat → Int
  | [], _ => -1
  | c :: r, i => if c = 0 then i else endL r (i + 1)
def endB (s : ByteArray) : Int := endL s.data.toList 0

theorem endL_range (l : List UInt8) (i : Nat) : endL l i = -1 ∨ ((i : Int) ≤ endL l i ∧ endL l i < i + l.length) := by
  induction l generalizing i with
  | nil => exact .inl rfl
  | cons c r ih =>
    rw [endL]
    split
    · right; simp; omega
    · rcases ih (i + 1) with h | h
      · exact .inl h
      · right; simp; omega
theorem endB_range (s : ByteArray) : endB s = -1 ∨ (0 ≤ endB s ∧ endB s < s.size) := by
  rcases endL_range s.data.toList 0 with h | h
  · exact .inl h
  · right; unfold endB
    have : s.data.toList.length = s.size := by simp
    omega

set_option maxHeartbeats 1000000 in
theorem oend_any (w : World) (s : ByteArray) (hs : s.size ≤ maxLen) :
    Calls Try.prog 68 #[.string s] w fun e w' => e = .returned (.int .i64 (endB s)) ∧ w = w' := by
  have hs' : (s.size : Int) ≤ 9223372036854775807 := by simp [maxLen] at hs; omega
  go_enter Try.func68, Try.ntmps68
  go_wp2_with fail
  go_loopw [3, 6] (fun _ u6 wr => ∃ j : Nat, j ≤ s.size ∧ u6 = .int .i64 j ∧ Hid (endL (s.data.toList.drop j) j = endB s) ∧ wr = w) (fun _ u6 _ => s.size - (intOf u6).toNat)
  case atStart => exact ⟨0, Nat.zero_le _, rfl, rfl, rfl⟩
  case round =>
    obtain ⟨j, hj, rfl, HE, rfl⟩ := hrel
    by_cases hlt : j < s.size
    · have hlt' : (j : Int) < s.size := by omega
      have hd : s.data.toList.drop j = s[j] :: s.data.toList.drop (j + 1) := by
        rw [List.drop_eq_getElem_cons (by simpa using hlt)]; rfl
      have HD : Hid (endL (s[j] :: s.data.toList.drop (j + 1)) j = endB s) := by
        unfold Hid; rw [← hd]; exact HE.out
      clear hd HE
      by_cases hc : s[j] = 0
      · have hb : ((s[j].toNat : Int) == 0) = true := by simp [hc]
        have HR : Hid (endB s = j) := by unfold Hid; rw [← HD.out, endL, if_pos hc]
        clear HD hc
        go_wp2_with fail
        go_ret
        rw [HR.out]
        exact ⟨rfl, rfl⟩
      · have hb : ((s[j].toNat : Int) == 0) = false := by
          have : s[j].toNat ≠ 0 := fun e => hc (UInt8.toNat_inj.1 (by simpa using e))
          simpa using this
        have HR : Hid (endL (s.data.toList.drop (j + 1)) (j + 1) = endB s) := by unfold Hid; rw [← HD.out, endL, if_neg hc]
        clear HD hc
        go_wp2_with fail
        go_roundw
        case rel => exact ⟨j + 1, by omega, by go_num, HR, trivial⟩
        case measure => simp [intOf]; omega
    · have hjs : j = s.size := by omega
      have HR : Hid (endB s = -1) := by
        unfold Hid
        rw [← HE.out, List.drop_eq_nil_of_le (by simp [hjs])]; rfl
      have hlt' : ¬ (j : Int) < s.size := by omega
      clear HE hlt
      go_wp2_with fail
      go_ret
      rw [HR.out]
      exact ⟨rfl, rfl⟩

abbrev zb : ByteArray := ⟨#[0]⟩
/-- A text up to its first 0. -/
def cutB (t : ByteArray) : ByteArray := if endB t = -1 then t else t.extract 0 (endB t).toNat
theorem cutB_size (t : ByteArray) : (cutB t).size ≤ t.size := by
  unfold cutB; split
  · exact Nat.le_refl _
  · simp; omega

theorem oputText_any (w : World) (s t : ByteArray) (hs : s.size + t.size ≤ 1000000000) :
    Calls Try.prog 41 #[.string s, .string t] w fun e w' => e = .returned (.string (s ++ cutB t ++ zb)) ∧ w = w' := by
  have hr := endB_range t
  have hm : t.size ≤ maxLen := by unfold maxLen; omega
  have hcs := cutB_size t
  by_cases he : endB t = -1
  · have hc : cutB t = t := if_pos he
    rw [hc]
    go_enter Try.func41, Try.ntmps41
    go_wp2_with (go_at_call 68; refine (oend_any _ t hm).mono ?_; rintro e w' ⟨rfl, rfl⟩; rw [he])
    go_ret
    exact ⟨rfl, rfl⟩
  · have hc : Hid (cutB t = t.extract 0 (endB t).toNat) := if_neg he
    have hr' : 0 ≤ endB t ∧ endB t < t.size := by rcases hr with h | h; exact absurd h he; exact h
    have hh := Lib.hid (oend_any w t hm)
    generalize endB t = i at *
    obtain ⟨i, rfl⟩ : ∃ n : Nat, i = n := ⟨i.toNat, by omega⟩
    clear hr he
    obtain ⟨hr1, hr2⟩ := hr'
    go_enter Try.func41, Try.ntmps41
    go_wp2_with (go_at_call 68; refine hh.out.mono ?_; rintro e w' ⟨rfl, rfl⟩)
    go_ret
    rw [hc.out]
    exact ⟨by first | rfl | simp, rfl⟩

theorem TBytes : SliceT Try.prog 121 5 (.int .u8 0) 1 1 := ⟨Try.underlying121, by kernel_rfl, rfl, by decide⟩

end Go.Proofs.Ytlilogcojeoelaa

namespace Go.Proofs.Ytlilogcojeoelaa
set_option linter.all false
open Go Go.RowKit

def bin2 (n : Int) : ByteArray := ⟨#[0, if n = 0 then 0 else 1]⟩

set_option maxHeartbeats 2000000 in
theorem oput16_any (k : Env) (w : World) (R : Assn) (s : ByteArray) (n : Int) (hn : n = 0 ∨ n = 1) (hs : s.size ≤ 1000000000) (h : Sat k w R) :
    Calls Try.prog 72 #[.string s, .int .i64 n, .int .i64 2] w fun e w' => e = .returned (.string (s ++ bin2 n)) ∧ Sat k w' R := by
  have hb := run_bytes_of_string (P := Try.prog) w 9 121 5 s Try.underlying9 Try.underlying121 Try.underlying5
  have hcap := grownCap_ge w s.size 0 5
  go_enter Try.func72, Try.ntmps72
  go_wp2_with fail
  have h1 := bytes_made (e := 5) h s (grownCap w s.size 0 5) hcap (grownCap_le_maxLen w s.size 0 _ (by unfold maxLen; omega)) ((bytesRow s (grownCap w s.size 0 5)).size, (bytesRow s (grownCap w s.size 0 5)).size + 1) (by unfold bytesRow; have : s.data.size = s.size := rfl; simp; omega)
  clear hb
  go_loopw [7, 8] (fun v i wr => ∃ (l : List UInt8), ((i = .int .i64 1 ∧ l = s.data.toList) ∨ (i = .int .i64 0 ∧ l = s.data.toList ++ [0]) ∨ (i = .int .i64 (-1) ∧ l = s.data.toList ++ [0, if n = 0 then 0 else 1])) ∧ Sat k wr (OwnF 5 v l.length (byteVs l) * R)) (fun _ i _ => (intOf i + 1).toNat)
  case atStart => exact ⟨s.data.toList, .inl ⟨rfl, rfl⟩, by rw [show s.data.toList.length = s.size by simp]; exact h1⟩
  case round =>
    clear h1
    obtain ⟨l, hcs, hr⟩ := hrel
    obtain ⟨g, cap, rfl, hcp, hcm⟩ := ownF_val hr
    rcases hcs with ⟨rfl, rfl⟩ | ⟨rfl, rfl⟩ | ⟨rfl, rfl⟩
    · have hsh : ((n >>> (8 : Nat)) % 256 : Int) = 0 := by rcases hn with rfl | rfl <;> decide
      rcases hn with rfl | rfl
      all_goals
        go_wp2_with (at_builtin; refine wpList_append_F TBytes (hr.alloc' _) (.tmp 17) (.tmp 23) _ 1 1 [byteV 0] rfl rfl rfl rfl (by decide) rfl (fun j u hu => new_cells_at _ _ _ _ (by first | rfl | simp) j u hu) (fun u hu => by simp [byteV] at hu; subst hu; rfl) (by simp [maxLen]; omega) (by simp; omega) ?_; intro a3 c3 w3 h3)
        go_roundw
        case rel => exact ⟨s.data.toList ++ [0], .inr (.inl ⟨rfl, rfl⟩), h3.of_eq (by simp [byteVs])⟩
        case measure => simp [intOf]
    · rcases hn with rfl | rfl
      · go_wp2_with (at_builtin; refine wpList_append_F TBytes (hr.alloc' _) (.tmp 17) (.tmp 23) _ 1 1 [byteV 0] rfl rfl rfl rfl (by decide) rfl (fun j u hu => new_cells_at _ _ _ _ (by first | rfl | simp) j u hu) (fun u hu => by simp [byteV] at hu; subst hu; rfl) (by simp [maxLen]; omega) (by simp; omega) ?_; intro a3 c3 w3 h3)
        go_roundw
        case rel => exact ⟨s.data.toList ++ [0, 0], .inr (.inr ⟨rfl, rfl⟩), h3.of_eq (by simp [byteVs])⟩
        case measure => simp [intOf]
      · go_wp2_with (at_builtin; refine wpList_append_F TBytes (hr.alloc' _) (.tmp 17) (.tmp 23) _ 1 1 [byteV 1] rfl rfl rfl rfl (by decide) rfl (fun j u hu => new_cells_at _ _ _ _ (by first | rfl | simp) j u hu) (fun u hu => by simp [byteV] at hu; subst hu; rfl) (by simp [maxLen]; omega) (by simp; omega) ?_; intro a3 c3 w3 h3)
        go_roundw
        case rel => exact ⟨s.data.toList ++ [0, 1], .inr (.inr ⟨rfl, rfl⟩), h3.of_eq (by simp [byteVs])⟩
        case measure => simp [intOf]
    · have hb2 := bytes_back (P := Try.prog) 121 9 Try.underlying121 Try.underlying5 Try.underlying9 hr
      have he : Hid ((⟨(s.data.toList ++ [0, if n = 0 then 0 else 1]).toArray⟩ : ByteArray) = s ++ bin2 n) := by
        unfold Hid bin2
        apply ByteArray.ext
        simp
      generalize s.data.toList ++ [0, if n = 0 then 0 else 1] = l at *
      go_wp2_with fail
      go_ret
      rw [he.out]
      exact ⟨rfl, hr.drop⟩

set_option maxHeartbeats 1000000 in
theorem oput16 (k : Env) (w : World) (R : Assn) (s : ByteArray) (n : Int) (hn : n = 0 ∨ n = 1) (hs : s.size ≤ 1000000000) (h : Sat k w R) :
    Calls Try.prog 42 #[.string s, .int .i64 n] w fun e w' => e = .returned (.string (s ++ bin2 n)) ∧ Sat k w' R := by
  go_enter Try.func42, Try.ntmps42
  go_wp2_with (go_at_call 72; refine (oput16_any k w R s n hn hs h).mono ?_; rintro e w1 ⟨rfl, h1⟩)
  go_ret
  exact ⟨rfl, h1⟩

/-- A text that is got: the text, what stands behind it, the error. -/
def getT (s : ByteArray) (a : Int) : ByteArray × Int × Int :=
  if a < 0 ∨ (s.size : Int) < a then (⟨#[]⟩, 0, 1) else if endB (s.extract a.toNat s.size) = -1 then (⟨#[]⟩, 0, 3) else (s.extract a.toNat (a + endB (s.extract a.toNat s.size)).toNat, a + endB (s.extract a.toNat s.size) + 1, 0)
def getTV (p : ByteArray × Int × Int) : Value := .tuple #[.string p.1, .int .i64 p.2.1, .int .i64 p.2.2]

set_option maxHeartbeats 1000000 in
theorem ogetText_any (w : World) (s : ByteArray) (a : Int) (hs : s.size ≤ 1000000000) :
    Calls Try.prog 35 #[.string s, .int .i64 a] w fun e w' => e = .returned (getTV (getT s a)) ∧ w = w' := by
  by_cases h1 : a < 0
  · have hg : getT s a = (⟨#[]⟩, 0, 1) := if_pos (.inl h1)
    rw [hg]
    go_enter Try.func35, Try.ntmps35
    go_wp2_with fail
    go_ret3
    exact ⟨rfl, rfl⟩
  by_cases h2 : (s.size : Int) < a
  · have hg : getT s a = (⟨#[]⟩, 0, 1) := if_pos (.inr h2)
    rw [hg]
    go_enter Try.func35, Try.ntmps35
    go_wp2_with fail
    go_ret3
    exact ⟨rfl, rfl⟩
  obtain ⟨n, rfl⟩ : ∃ n : Nat, a = n := ⟨a.toNat, by omega⟩
  have hr := endB_range (s.extract n s.size)
  have hsz : (s.extract n s.size).size = s.size - n := by simp
  have hm : (s.extract n s.size).size ≤ maxLen := by unfold maxLen; omega
  have hh := Lib.hid (oend_any w (s.extract n s.size) hm)
  have HG : Hid (getT s n = if endB (s.extract n s.size) = -1 then (⟨#[]⟩, 0, 3) else (s.extract n (n + endB (s.extract n s.size)).toNat, n + endB (s.extract n s.size) + 1, 0)) := by
    unfold Hid getT
    rw [if_neg (by omega)]; rfl
  rw [hsz] at hr
  by_cases he : endB (s.extract n s.size) = -1
  · rw [HG.out, if_pos he]
    rw [he] at hh
    go_enter Try.func35, Try.ntmps35
    go_wp2_with (go_at_call 68; refine hh.out.mono ?_; rintro e w1 ⟨rfl, rfl⟩)
    go_ret3
    exact ⟨rfl, rfl⟩
  · rw [HG.out, if_neg he]
    generalize endB (s.extract n s.size) = i at *
    obtain ⟨i, rfl⟩ : ∃ m : Nat, i = m := ⟨i.toNat, by omega⟩
    have hi : (n : Int) + i < s.size := by omega
    have hn : ((n : Int) + (i : Int)).toNat = n + i := by omega
    rw [hn]
    clear hr he HG
    go_enter Try.func35, Try.ntmps35
    go_wp2_with (go_at_call 68; refine hh.out.mono ?_; rintro e w1 ⟨rfl, rfl⟩)
    go_ret3
    exact ⟨by first | rfl | simp [getTV], rfl⟩

end Go.Proofs.Ytlilogcojeoelaa

namespace Go.Proofs.Ytlilogcojeoelaa
set_option linter.all false
open Go Go.RowKit

set_option maxHeartbeats 1000000 in
theorem obytes_ok (k : Env) (w : World) (R : Assn) (s x : ByteArray) (a : Nat) (ha : a + 2 ≤ s.size) (hs : s.size ≤ 1000000000) (hx : s.extract a (a + 2) = x) (h : Sat k w R) :
    Calls Try.prog 90 #[.string s, .int .i64 a, .int .i64 2] w fun e w' => e = .returned (.agg #[.string x, .int .i64 ((a : Int) + 2), .int .i64 0]) ∧ Sat k w' R := by
  have h1 := h.alloc (.cells #[.string ⟨#[]⟩, .int .i64 0, .int .i64 0] 148)
  have ha' : (a : Int) + 2 ≤ s.size := by omega
  have ha1 : ¬ (a : Int) < 0 := by omega
  have ha2 : ¬ (s.size : Int) < a := by omega
  have ha3 : ¬ (s.size : Int) - a < 2 := by omega
  have HX := Lib.hid hx
  clear hx h
  go_enter Try.func90, Try.ntmps90
  go_upto_region 1 with fail
  generalize w.alloc (.cells #[.string ⟨#[]⟩, .int .i64 0, .int .i64 0] 148) = w1 at *
  generalize w.heap.size = o at *
  have d0 : w1.cell? ⟨o, 0, none⟩ = some (.string ⟨#[]⟩) := h1.cell 0
  have d1 : w1.cell? ⟨o, 1, none⟩ = some (.int .i64 0) := h1.cell 1
  have d2 : w1.cell? ⟨o, 2, none⟩ = some (.int .i64 0) := h1.cell 2
  have df := h1.frozen
  go_wp2_with fail
  refine bodyPost_ret (v := .agg #[.string x, .int .i64 ((a : Int) + 2), .int .i64 0]) (by simp [results, Try.results90, go_sem, d0, d1, d2]; exact HX.out) rfl ?_
  exact ⟨rfl, (((h1.set 0 _).set 1 _).set 2 _).drop⟩

def bitI (f : Bool) : Int := if f then 1 else 0
def bitB (f : Bool) : UInt8 := if f then 1 else 0

set_option maxRecDepth 100000 in
set_option maxHeartbeats 4000000 in
theorem onum_zero (k : Env) (w : World) (R : Assn) (s : ByteArray) (a : Nat) (ha : a + 2 ≤ s.size) (hs : s.size ≤ 1000000000) (hx : s.extract a (a + 2) = ⟨#[0, 0]⟩) (h : Sat k w R) :
    Calls Try.prog 69 #[.string s, .int .i64 a, .int .i64 2] w fun e w' => e = .returned (.tuple #[.int .i64 0, .int .i64 ((a : Int) + 2), .int .i64 0]) ∧ Sat k w' R := by
  have hh := Lib.hid (obytes_ok k w R s _ a ha hs hx h)
  clear hx
  go_enter Try.func69, Try.ntmps69
  go_upto_region 2 with (go_at_call 90; refine hh.out.mono ?_; rintro e w1 ⟨rfl, h1⟩)
  have h2 := h1.alloc (.cells #[.string ⟨#[0, 0]⟩, .int .i64 ((a : Int) + 2), .int .i64 0] 148)
  generalize w1.alloc (.cells #[.string ⟨#[0, 0]⟩, .int .i64 ((a : Int) + 2), .int .i64 0] 148) = w2 at *
  generalize w1.heap.size = o at *
  have d0 : w2.cell? ⟨o, 0, none⟩ = some (.string ⟨#[0, 0]⟩) := h2.cell 0
  have d1 : w2.cell? ⟨o, 1, none⟩ = some (.int .i64 ((a : Int) + 2)) := h2.cell 1
  have d2 : w2.cell? ⟨o, 2, none⟩ = some (.int .i64 0) := h2.cell 2
  have hz : (((a : Int) + 2) == 0) = false := by simp; omega
  clear hh h1 h
  go_wp2_with fail
  go_loopw [10, 11, 30] (fun n _ i wr => wr = w2 ∧ ((i = .int .i64 0 ∧ n = .int .i64 0) ∨ (i = .int .i64 1 ∧ n = .int .i64 0) ∨ (i = .int .i64 2 ∧ n = .int .i64 0))) (fun _ _ i _ => 2 - (intOf i).toNat)
  case atStart => exact ⟨rfl, .inl ⟨rfl, congrArg (Value.int .i64) (by decide +kernel)⟩⟩
  case round =>
    obtain ⟨rfl, hc⟩ := hrel
    rcases hc with ⟨rfl, rfl⟩ | ⟨rfl, rfl⟩ | ⟨rfl, rfl⟩
    · go_wp2_with fail
      go_roundw
      case rel => exact ⟨trivial, .inr (.inl ⟨rfl, congrArg (Value.int .i64) (by decide +kernel)⟩)⟩
      case measure => simp [intOf]
    · go_wp2_with fail
      go_roundw
      case rel => exact ⟨trivial, .inr (.inr ⟨rfl, congrArg (Value.int .i64) (by decide +kernel)⟩)⟩
      case measure => simp [intOf]
    · go_wp2_with fail
      go_quiet (fail)
      go_wp2_with fail
      go_ret3
      exact ⟨rfl, (h2.drewN _).drop⟩

set_option maxRecDepth 100000 in
set_option maxHeartbeats 4000000 in
theorem onum_one (k : Env) (w : World) (R : Assn) (s : ByteArray) (a : Nat) (ha : a + 2 ≤ s.size) (hs : s.size ≤ 1000000000) (hx : s.extract a (a + 2) = ⟨#[0, 1]⟩) (h : Sat k w R) :
    Calls Try.prog 69 #[.string s, .int .i64 a, .int .i64 2] w fun e w' => e = .returned (.tuple #[.int .i64 1, .int .i64 ((a : Int) + 2), .int .i64 0]) ∧ Sat k w' R := by
  have hh := Lib.hid (obytes_ok k w R s _ a ha hs hx h)
  clear hx
  go_enter Try.func69, Try.ntmps69
  go_upto_region 2 with (go_at_call 90; refine hh.out.mono ?_; rintro e w1 ⟨rfl, h1⟩)
  have h2 := h1.alloc (.cells #[.string ⟨#[0, 1]⟩, .int .i64 ((a : Int) + 2), .int .i64 0] 148)
  generalize w1.alloc (.cells #[.string ⟨#[0, 1]⟩, .int .i64 ((a : Int) + 2), .int .i64 0] 148) = w2 at *
  generalize w1.heap.size = o at *
  have d0 : w2.cell? ⟨o, 0, none⟩ = some (.string ⟨#[0, 1]⟩) := h2.cell 0
  have d1 : w2.cell? ⟨o, 1, none⟩ = some (.int .i64 ((a : Int) + 2)) := h2.cell 1
  have d2 : w2.cell? ⟨o, 2, none⟩ = some (.int .i64 0) := h2.cell 2
  have hz : (((a : Int) + 2) == 0) = false := by simp; omega
  clear hh h1 h
  go_wp2_with fail
  go_loopw [10, 11, 30] (fun n _ i wr => wr = w2 ∧ ((i = .int .i64 0 ∧ n = .int .i64 0) ∨ (i = .int .i64 1 ∧ n = .int .i64 0) ∨ (i = .int .i64 2 ∧ n = .int .i64 1))) (fun _ _ i _ => 2 - (intOf i).toNat)
  case atStart => exact ⟨rfl, .inl ⟨rfl, congrArg (Value.int .i64) (by decide +kernel)⟩⟩
  case round =>
    obtain ⟨rfl, hc⟩ := hrel
    rcases hc with ⟨rfl, rfl⟩ | ⟨rfl, rfl⟩ | ⟨rfl, rfl⟩
    · go_wp2_with fail
      go_roundw
      case rel => exact ⟨trivial, .inr (.inl ⟨rfl, congrArg (Value.int .i64) (by decide +kernel)⟩)⟩
      case measure => simp [intOf]
    · go_wp2_with fail
      go_roundw
      case rel => exact ⟨trivial, .inr (.inr ⟨rfl, congrArg (Value.int .i64) (by decide +kernel)⟩)⟩
      case measure => simp [intOf]
    · go_wp2_with fail
      go_quiet (fail)
      go_wp2_with fail
      go_ret3
      exact ⟨rfl, (h2.drewN _).drop⟩

theorem oget16_small (k : Env) (w : World) (R : Assn) (s : ByteArray) (a : Nat) (n : Int) (hn : n = 0 ∨ n = 1) (ha : a + 2 ≤ s.size) (hs : s.size ≤ 1000000000) (hx : s.extract a (a + 2) = bin2 n) (h : Sat k w R) :
    Calls Try.prog 36 #[.string s, .int .i64 a] w fun e w' => e = .returned (.tuple #[.int .i64 n, .int .i64 ((a : Int) + 2), .int .i64 0]) ∧ Sat k w' R := by
  have hh : Hid (Calls Try.prog 69 #[.string s, .int .i64 a, .int .i64 2] w fun e w' => e = .returned (.tuple #[.int .i64 n, .int .i64 ((a : Int) + 2), .int .i64 0]) ∧ Sat k w' R) := by
    unfold Hid
    rcases hn with rfl | rfl
    · exact onum_zero k w R s a ha hs hx h
    · exact onum_one k w R s a ha hs hx h
  clear hx
  go_enter Try.func36, Try.ntmps36
  go_wp2_with (go_at_call 69; refine hh.out.mono ?_; rintro e w1 ⟨rfl, h1⟩)
  go_ret3
  exact ⟨rfl, h1⟩

end Go.Proofs.Ytlilogcojeoelaa
