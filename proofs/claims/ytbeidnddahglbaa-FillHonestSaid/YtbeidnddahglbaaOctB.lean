/- Contracts of package octet: numbers of two bytes (0 and 1), texts that are got. -/
import Derived.Test.YtbeidnddahglbaaOctA
import Derived.Laws.Concat
namespace Go.Proofs.Ytbeidnddahglbaa
set_option linter.all false
open Go Go.RowKit

def bin2 (n : Int) : ByteArray := ⟨#[0, if n = 0 then 0 else 1]⟩

set_option maxHeartbeats 2000000 in
theorem oput16_any (k : Env) (w : World) (R : Assn) (s : ByteArray) (n : Int) (hn : n = 0 ∨ n = 1) (hs : s.size ≤ 1000000000) (h : Sat k w R) :
    Calls Try.prog 86 #[.string s, .int .i64 n, .int .i64 2] w fun e w' => e = .returned (.string (s ++ bin2 n)) ∧ Sat k w' R := by
  have hb := run_bytes_of_string (P := Try.prog) w 9 152 5 s Try.underlying9 Try.underlying152 Try.underlying5
  have hcap := grownCap_ge w s.size 0 5
  go_enter Try.func86, Try.ntmps86
  go_wp2_with fail
  have h1 := bytes_made (e := 5) h s (grownCap w s.size 0 5) hcap (grownCap_le_maxLen w s.size 0 _ (by unfold maxLen; omega)) ((bytesRow s (grownCap w s.size 0 5)).size, (bytesRow s (grownCap w s.size 0 5)).size + 1) (by unfold bytesRow; have : s.data.size = s.size := rfl; simp; omega)
  clear hb
  go_loopw [7, 8] (fun v i wr => ∃ (l : List UInt8), ((i = .int .i64 1 ∧ l = s.data.toList) ∨ (i = .int .i64 0 ∧ l = s.data.toList ++ [0]) ∨ (i = .int .i64 (-1) ∧ l = s.data.toList ++ [0, if n = 0 then 0 else 1])) ∧ Sat k wr (OwnF 5 v l.length (byteVs l) * R)) (fun _ i _ => (intOf i + 1).toNat)
  case atStart => exact ⟨s.data.toList, .inl ⟨rfl, rfl⟩, by rw [show s.data.toList.length = s.size by simp]; exact h1⟩
  case round =>
    clear h1
    obtain ⟨l, hcs, hr⟩ := hrel
    obtain ⟨g, cap, rfl, hcp, hcm⟩ := ownF_val hr
    rcases hcs with ⟨rfl, rfl⟩ | ⟨rfl, rfl⟩ | ⟨rfl, rfl⟩
    · have hsh : ((n >>> (8 : Nat)) % 256 : Int) = 0 := by rcases hn with rfl | rfl <;> decide
      rcases hn with rfl | rfl
      all_goals
        go_wp2_with (at_builtin; refine wpList_append_F TBytes (hr.alloc' _) (.tmp 17) (.tmp 23) _ 1 1 [byteV 0] rfl rfl rfl rfl (by decide) rfl (fun j u hu => new_cells_at _ _ _ _ (by first | rfl | simp) j u hu) (fun u hu => by simp [byteV] at hu; subst hu; rfl) (by simp [maxLen]; omega) (by simp; omega) ?_; intro a3 c3 w3 h3)
        go_roundw
        case rel => exact ⟨s.data.toList ++ [0], .inr (.inl ⟨rfl, rfl⟩), h3.of_eq (by simp [byteVs])⟩
        case measure => simp [intOf]
    · rcases hn with rfl | rfl
      · go_wp2_with (at_builtin; refine wpList_append_F TBytes (hr.alloc' _) (.tmp 17) (.tmp 23) _ 1 1 [byteV 0] rfl rfl rfl rfl (by decide) rfl (fun j u hu => new_cells_at _ _ _ _ (by first | rfl | simp) j u hu) (fun u hu => by simp [byteV] at hu; subst hu; rfl) (by simp [maxLen]; omega) (by simp; omega) ?_; intro a3 c3 w3 h3)
        go_roundw
        case rel => exact ⟨s.data.toList ++ [0, 0], .inr (.inr ⟨rfl, rfl⟩), h3.of_eq (by simp [byteVs])⟩
        case measure => simp [intOf]
      · go_wp2_with (at_builtin; refine wpList_append_F TBytes (hr.alloc' _) (.tmp 17) (.tmp 23) _ 1 1 [byteV 1] rfl rfl rfl rfl (by decide) rfl (fun j u hu => new_cells_at _ _ _ _ (by first | rfl | simp) j u hu) (fun u hu => by simp [byteV] at hu; subst hu; rfl) (by simp [maxLen]; omega) (by simp; omega) ?_; intro a3 c3 w3 h3)
        go_roundw
        case rel => exact ⟨s.data.toList ++ [0, 1], .inr (.inr ⟨rfl, rfl⟩), h3.of_eq (by simp [byteVs])⟩
        case measure => simp [intOf]
    · have hb2 := bytes_back (P := Try.prog) 152 9 Try.underlying152 Try.underlying5 Try.underlying9 hr
      have he : Hid ((⟨(s.data.toList ++ [0, if n = 0 then 0 else 1]).toArray⟩ : ByteArray) = s ++ bin2 n) := by
        unfold Hid bin2
        apply ByteArray.ext
        simp
      generalize s.data.toList ++ [0, if n = 0 then 0 else 1] = l at *
      go_wp2_with fail
      go_ret
      rw [he.out]
      exact ⟨rfl, hr.drop⟩

set_option maxHeartbeats 1000000 in
theorem oput16 (k : Env) (w : World) (R : Assn) (s : ByteArray) (n : Int) (hn : n = 0 ∨ n = 1) (hs : s.size ≤ 1000000000) (h : Sat k w R) :
    Calls Try.prog 73 #[.string s, .int .i64 n] w fun e w' => e = .returned (.string (s ++ bin2 n)) ∧ Sat k w' R := by
  go_enter Try.func73, Try.ntmps73
  go_wp2_with (go_at_call 86; refine (oput16_any k w R s n hn hs h).mono ?_; rintro e w1 ⟨rfl, h1⟩)
  go_ret
  exact ⟨rfl, h1⟩

/-- A text that is got: the text, what stands behind it, the error. -/
def getT (s : ByteArray) (a : Int) : ByteArray × Int × Int :=
  if a < 0 ∨ (s.size : Int) < a then (⟨#[]⟩, 0, 1) else if endB (s.extract a.toNat s.size) = -1 then (⟨#[]⟩, 0, 3) else (s.extract a.toNat (a + endB (s.extract a.toNat s.size)).toNat, a + endB (s.extract a.toNat s.size) + 1, 0)
def getTV (p : ByteArray × Int × Int) : Value := .tuple #[.string p.1, .int .i64 p.2.1, .int .i64 p.2.2]

set_option maxHeartbeats 1000000 in
theorem ogetText_any (w : World) (s : ByteArray) (a : Int) (hs : s.size ≤ 1000000000) :
    Calls Try.prog 80 #[.string s, .int .i64 a] w fun e w' => e = .returned (getTV (getT s a)) ∧ w = w' := by
  by_cases h1 : a < 0
  · have hg : getT s a = (⟨#[]⟩, 0, 1) := if_pos (.inl h1)
    rw [hg]
    go_enter Try.func80, Try.ntmps80
    go_wp2_with fail
    go_ret3
    exact ⟨rfl, rfl⟩
  by_cases h2 : (s.size : Int) < a
  · have hg : getT s a = (⟨#[]⟩, 0, 1) := if_pos (.inr h2)
    rw [hg]
    go_enter Try.func80, Try.ntmps80
    go_wp2_with fail
    go_ret3
    exact ⟨rfl, rfl⟩
  obtain ⟨n, rfl⟩ : ∃ n : Nat, a = n := ⟨a.toNat, by omega⟩
  have hr := endB_range (s.extract n s.size)
  have hsz : (s.extract n s.size).size = s.size - n := by simp
  have hm : (s.extract n s.size).size ≤ maxLen := by unfold maxLen; omega
  have hh := Lib.hid (oend_any w (s.extract n s.size) hm)
  have HG : Hid (getT s n = if endB (s.extract n s.size) = -1 then (⟨#[]⟩, 0, 3) else (s.extract n (n + endB (s.extract n s.size)).toNat, n + endB (s.extract n s.size) + 1, 0)) := by
    unfold Hid getT
    rw [if_neg (by omega)]; rfl
  rw [hsz] at hr
  by_cases he : endB (s.extract n s.size) = -1
  · rw [HG.out, if_pos he]
    rw [he] at hh
    go_enter Try.func80, Try.ntmps80
    go_wp2_with (go_at_call 85; refine hh.out.mono ?_; rintro e w1 ⟨rfl, rfl⟩)
    go_ret3
    exact ⟨rfl, rfl⟩
  · rw [HG.out, if_neg he]
    generalize endB (s.extract n s.size) = i at *
    obtain ⟨i, rfl⟩ : ∃ m : Nat, i = m := ⟨i.toNat, by omega⟩
    have hi : (n : Int) + i < s.size := by omega
    have hn : ((n : Int) + (i : Int)).toNat = n + i := by omega
    rw [hn]
    clear hr he HG
    go_enter Try.func80, Try.ntmps80
    go_wp2_with (go_at_call 85; refine hh.out.mono ?_; rintro e w1 ⟨rfl, rfl⟩)
    go_ret3
    exact ⟨by first | rfl | simp [getTV], rfl⟩

end Go.Proofs.Ytbeidnddahglbaa
