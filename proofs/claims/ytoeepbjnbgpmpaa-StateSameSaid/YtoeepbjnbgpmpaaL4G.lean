/- Contracts of the document's lexer (pontoonref04): Scan. -/
import Derived.Test.YtoeepbjnbgpmpaaL4F
namespace Go.Proofs.Ytoeepbjnbgpmpaa
set_option linter.all false
open Go Go.RowKit

/-- Where the document's Scan stands. -/
def ScanQ (s : ByteArray) (res : Res) (j : Nat) (bad : Bool) (acc : List Tok) : Prop :=
  (bad = true → res = .err 6 j) ∧ (bad = false → ∃ f, s.size - j < f ∧ scanF f ((bl s).drop j) j acc = res ∧ (j < s.size → NoSkip s j))
theorem scanQ_gap {s : ByteArray} {res : Res} {a j : Nat} {bad : Bool} {acc : List Tok} {f : Nat} (h1 : s.size - a < f) (h2 : scanF f ((bl s).drop a) a acc = res) (hg : GapQ s a j bad) : ScanQ s res j bad acc := by
  obtain ⟨g1, g2, g3, g4, g5⟩ := hg
  obtain ⟨f', q1, q2⟩ := g3 f acc res h1 h2
  refine ⟨fun hb => ?_, fun hb => ⟨f', q1, q2, g5 hb⟩⟩
  exact (g4 hb).2 f' acc res q1 q2

set_option maxRecDepth 100000 in
set_option maxHeartbeats 16000000 in
theorem rscan_any (k : Env) (w : World) (R : Assn) (s : ByteArray) (hs : s.size ≤ 1000000000) (h : Sat k w R) :
    Calls Try.prog 26 #[.string s] w fun e w' => ∃ v, e = .returned (.tuple #[v, .int .i64 (rE (scanB s)), .int .i64 (rA (scanB s))]) ∧ Sat k w' (Toks v (rL (scanB s)) * R) := by
  by_cases hbig : 2000 < s.size
  · have hx : scanB s = .err 2 2000 := if_pos hbig
    have hbig' : (2000 : Int) < s.size := by omega
    rw [hx]
    go_enter Try.func26, Try.ntmps26
    go_wp2_with fail
    go_ret3
    exact ⟨_, rfl, rec_nil h⟩
  have hx : scanB s = scanF (s.size + 1) (bl s) 0 [] := if_neg hbig
  have hbig' : ¬ (2000 : Int) < s.size := by omega
  generalize scanB s = res at *
  have HX := Lib.hid hx.symm
  have hsm : s.size ≤ 2000 := by omega
  have h1 := rec_nil (E := ETok) (t := 27) h
  have CG := Lib.hid (fun w a (ha : a ≤ s.size) => gap_any w s a ha hs)
  clear hbig hx h
  go_enter Try.func26, Try.ntmps26
  go_wp2_with fail
  refine (CG.out _ 0 (Nat.zero_le _)).mono ?_
  rintro e w1 ⟨j0, b0, rfl, hg, rfl⟩
  have HG : Hid (ScanQ s res j0 b0 []) := scanQ_gap (f := s.size + 1) (by omega) (by rw [List.drop_zero]; exact HX.out) hg
  have hj0 : j0 ≤ s.size := hg.2.1
  clear hg HX
  go_wp2_with fail
  go_loopw [5, 6, 7] (fun s5 s6 s7 wr => ∃ (j : Nat) (bad : Bool) (acc : List Tok), j ≤ s.size ∧ s6 = .int .i64 j ∧ s7 = .bool bad ∧ acc.length ≤ j ∧ Hid (ScanQ s res j bad acc) ∧ Sat k wr (Toks s5 acc * R)) (fun _ s6 _ _ => s.size - (intOf s6).toNat)
  case atStart => exact ⟨j0, b0, [], hj0, rfl, rfl, by simp, HG, h1⟩
  case round =>
    clear h1 HG hj0
    obtain ⟨j, bad, acc, hj, rfl, rfl, hal, HQ, hr⟩ := hrel
    obtain ⟨va, vc, rfl⟩ := rec_val hr
    cases bad with
    | true =>
      have hres := HQ.out.1 rfl
      subst hres
      clear HQ
      by_cases hlt : (j : Int) < s.size
      · go_wp2_with fail
        go_ret3
        exact ⟨_, rfl, rec_nil hr.drop⟩
      · go_wp2_with fail
        go_ret3
        exact ⟨_, rfl, rec_nil hr.drop⟩
    | false =>
      obtain ⟨f, hf, hsc, hns⟩ := HQ.out.2 rfl
      clear HQ
      obtain ⟨f, rfl⟩ : ∃ g, f = g + 1 := ⟨f - 1, by omega⟩
      by_cases hlt : j < s.size
      · have hlt' : (j : Int) < s.size := by omega
        obtain ⟨_, n1, n2, n3⟩ := hns hlt
        rw [scan_at s j f acc hlt, scanF, if_neg (by rw [n1]; decide), if_neg (by rw [n2]; decide), if_neg (by rw [n3]; decide)] at hsc
        have HC5 := fun w' R' h => rone_any k w' R' s j hlt _ _ rfl rfl hs h
        have hlen : (s[j] :: (bl s).drop (j + 1)).length = s.size - j := by rw [List.length_cons, List.length_drop, bl_len]; omega
        obtain ⟨x, hx⟩ : ∃ x, oneL (s[j] :: (bl s).drop (j + 1)) = x := ⟨_, rfl⟩
        have hxn := one_n hx
        rw [hx] at HC5 hsc
        rw [hlen] at hxn
        rcases hxn with ⟨kk, t, n, rfl, hn0, hn1⟩ | ⟨kk, rfl⟩ | rfl
        · simp only at hsc
          rw [drop_at s j n hlt] at hsc
          simp only [r1K, r1T, r1A, r1N, r1E] at HC5
          obtain ⟨m, hm⟩ : ∃ m, m = j + n := ⟨_, rfl⟩
          rw [← hm] at HC5 hsc
          have D5 := Lib.hid HC5
          have hmj : j < m := by omega
          have hms : m ≤ s.size := by omega
          have hfm : s.size - m < f := by omega
          have HSC := Lib.hid hsc
          clear HC5 hx hlen n1 n2 n3 hns hn1 hm hsc hf hn0
          go_upto_region 7 with (go_at_call 48; (with_reducible refine (D5.out _ _ hr).mono ?_); rintro e w2 ⟨rfl, h2⟩)
          have h3 := (h2.alloc (.cells #[.int .i64 kk, .string (mk t), .int .i64 j] 27))
          generalize w2.alloc (.cells #[.int .i64 kk, .string (mk t), .int .i64 j] 27) = w3 at *
          generalize w2.heap.size = o at *
          have d0 : w3.cell? ⟨o, 0, none⟩ = some (.int .i64 kk) := h3.cell 0
          have d1 : w3.cell? ⟨o, 1, none⟩ = some (.string (mk t)) := h3.cell 1
          have d2 : w3.cell? ⟨o, 2, none⟩ = some (.int .i64 j) := h3.cell 2
          replace h3 := h3.drop
          clear h2
          go_wp2_with (at_builtin; refine wpList_append_sat TTok (h3.alloc' _) (.tmp 40) (.tmp 42) _ 1 1 (tokc ⟨kk, mk t, j⟩) rfl rfl rfl rfl rfl (fun _ => ⟨_, rfl, new_cells_at _ _ _ _ (by first | rfl | simp)⟩) (ETok.one ⟨kk, mk t, j⟩) (by simp [maxLen]; omega) (by omega) ?_; intro a7 c7 w7 h7)
          refine (CG.out _ m hms).mono ?_
          rintro e w8 ⟨j2, b2, rfl, hg, rfl⟩
          have HG : Hid (ScanQ s res j2 b2 (acc ++ [⟨kk, mk t, j⟩])) := scanQ_gap hfm HSC.out hg
          have hj2 : j2 ≤ s.size := hg.2.1
          have hmj2 : m ≤ j2 := hg.1
          clear hg HSC
          go_wp2_with fail
          go_roundw
          case rel => exact ⟨j2, b2, acc ++ [⟨kk, mk t, j⟩], hj2, rfl, rfl, by simp; omega, HG, (rec_push (E := ETok) h7).of_eq (by simp [Toks])⟩
          case measure => simp [intOf]; omega
        · have hres : res = .err 6 j := hsc.symm
          subst hres
          simp only [r1K, r1T, r1A, r1N, r1E] at HC5
          have D5 := Lib.hid HC5
          clear HC5 hx hlen n1 n2 n3 hns hsc hf
          go_upto_region 7 with (go_at_call 48; (with_reducible refine (D5.out _ _ hr).mono ?_); rintro e w2 ⟨rfl, h2⟩)
          replace h2 := h2.alloc' (.cells #[.int .i64 0, .string ⟨#[]⟩, .int .i64 0] 27)
          go_wp2_with fail
          go_ret3
          exact ⟨_, rfl, rec_nil h2.drop⟩
        · have hres : res = .err 7 j := hsc.symm
          subst hres
          simp only [r1K, r1T, r1A, r1N, r1E] at HC5
          have D5 := Lib.hid HC5
          clear HC5 hx hlen n1 n2 n3 hns hsc hf
          go_upto_region 7 with (go_at_call 48; (with_reducible refine (D5.out _ _ hr).mono ?_); rintro e w2 ⟨rfl, h2⟩)
          replace h2 := h2.alloc' (.cells #[.int .i64 0, .string ⟨#[]⟩, .int .i64 0] 27)
          go_wp2_with fail
          go_ret3
          exact ⟨_, rfl, rec_nil h2.drop⟩
      · have he : res = .ok acc := by
          rw [← hsc, List.drop_eq_nil_of_le (by rw [bl_len]; omega)]; rfl
        subst he
        have hlt' : ¬ (j : Int) < s.size := by omega
        clear hsc hns hlt hf
        go_wp2_with fail
        go_ret3
        exact ⟨_, rfl, hr⟩

end Go.Proofs.Ytoeepbjnbgpmpaa
