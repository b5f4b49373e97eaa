/- The law CachePlays: its helpers, walked. -/
import Derived.Test.YtlilogcojeoelaaCacheZ
import Derived.Deep.CutBlock
import Derived.Deep.DeepCutAuto
import Derived.Deep.RegionHeld3
namespace Go.Proofs.Ytlilogcojeoelaa
set_option linter.all false
open Go Go.RowKit

set_option maxRecDepth 100000 in
set_option maxHeartbeats 4000000 in
theorem same_any (k : Env) (w : World) (R : Assn) (a1 a2 : Option Addr) (c1 c2 : Nat) (ys : List Ky) (hl : ys.length ≤ 1000) (h : Sat k w (Kys (.slice a1 ys.length c1) ys * (KysR (.slice a2 ys.length c2) ys * R))) :
    Calls Try.prog 23 #[.slice a1 ys.length c1, .slice a2 ys.length c2] w fun e w' => e = .returned (.bool true) ∧ Sat k w' (Kys (.slice a1 ys.length c1) ys * (KysR (.slice a2 ys.length c2) ys * R)) := by
  go_enter Try.func23, Try.ntmps23
  go_wp2_with fail
  go_loopw [5] (fun i wr => ∃ j : Nat, j ≤ ys.length ∧ i = .int .i64 j ∧ Sat k wr (Kys (.slice a1 ys.length c1) ys * (KysR (.slice a2 ys.length c2) ys * R))) (fun i _ => ys.length - (intOf i).toNat)
  case atStart => exact ⟨0, Nat.zero_le _, rfl, h⟩
  case round =>
    clear h
    obtain ⟨j, hj, rfl, hr⟩ := hrel
    by_cases hlt : j < ys.length
    · have hlt' : (j : Int) < ys.length := by omega
      obtain ⟨g, rfl, -⟩ := kys_get hr j hlt
      obtain ⟨g', rfl, -⟩ := kysr_get hr.swap j hlt
      have HD : Hid (∀ w', Sat k w' (Kys (.slice (some ⟨g, 0, none⟩) ys.length c1) ys * (KysR (.slice (some ⟨g', 0, none⟩) ys.length c2) ys * R)) →
          (w'.cell? ⟨g, j * 4, none⟩ = some (.string ys[j].db) ∧ w'.cell? ⟨g, j * 4 + 1, none⟩ = some (.string ys[j].ro) ∧ w'.cell? ⟨g, j * 4 + 2, none⟩ = some (.int .i64 ys[j].fm) ∧ w'.cell? ⟨g, j * 4 + 3, none⟩ = some (.string ys[j].nm)) ∧
          (w'.cell? ⟨g', j * 4, none⟩ = some (.string ys[j].db) ∧ w'.cell? ⟨g', j * 4 + 1, none⟩ = some (.string ys[j].ro) ∧ w'.cell? ⟨g', j * 4 + 2, none⟩ = some (.int .i64 ys[j].fm) ∧ w'.cell? ⟨g', j * 4 + 3, none⟩ = some (.string ys[j].nm))) := by
        intro w' h'
        obtain ⟨x, hx, q⟩ := kys_get h' j hlt
        obtain ⟨x', hx', q'⟩ := kysr_get h'.swap j hlt
        cases hx; cases hx'
        exact ⟨q, q'⟩
      have HNE := rkyneq_run ys[j]
      generalize ys[j] = y at *
      generalize hPZ : (Kys (.slice (some ⟨g, 0, none⟩) ys.length c1) ys * (KysR (.slice (some ⟨g', 0, none⟩) ys.length c2) ys * R)) = PZ at *
      have C := Lib.hid (fun w' (h : Sat k w' PZ) => plain_any k w' _ y h)
      unfold kyV at C HNE
      go_wp2_with fail
      go_region_held3 (fun w' => (w'.cell? ⟨g, j * 4, none⟩ = some (.string y.db) ∧ w'.cell? ⟨g, j * 4 + 1, none⟩ = some (.string y.ro) ∧ w'.cell? ⟨g, j * 4 + 2, none⟩ = some (.int .i64 y.fm) ∧ w'.cell? ⟨g, j * 4 + 3, none⟩ = some (.string y.nm)) ∧
          (w'.cell? ⟨g', j * 4, none⟩ = some (.string y.db) ∧ w'.cell? ⟨g', j * 4 + 1, none⟩ = some (.string y.ro) ∧ w'.cell? ⟨g', j * 4 + 2, none⟩ = some (.int .i64 y.fm) ∧ w'.cell? ⟨g', j * 4 + 3, none⟩ = some (.string y.nm)))
        (first | exact HD.out _ (by assumption) | fail)
        (first | (go_at_call 14; (with_reducible refine (C.out _ (by first | assumption | exact Sat.drew (by assumption))).mono ?_); rintro e w2 ⟨rfl, h2⟩) | fail)
      go_wp2_with fail
      go_roundw
      case rel => exact ⟨j + 1, by omega, by go_num, by assumption⟩
      case measure => simp [intOf]; omega
    · have hjl : j = ys.length := by omega
      subst hjl
      go_wp2_with fail
      go_ret
      exact ⟨rfl, hr⟩

set_option maxHeartbeats 2000000 in
theorem cnew_bad (k : Env) (w : World) (R : Assn) (al kp mo ttl : Int) (hb : badNew al kp mo ∨ ttl < 1 ∨ 549755813888 < ttl) (h : Sat k w R) :
    Calls Try.prog 17 #[.int .i64 al, .int .i64 kp, .int .i64 mo, .int .i64 ttl] w fun e w' => e = .returned (.tuple #[.pointer none, .int .i64 1]) ∧ Sat k w' R := by
  by_cases hn : badNew al kp mo
  · have C1 := Lib.hid (new_bad w al kp mo hn)
    clear hb hn
    go_enter Try.func17, Try.ntmps17
    go_wp2_with (first | (go_at_call 45; (with_reducible refine C1.out.mono ?_); rintro e w1 ⟨rfl, rfl⟩))
    go_ret2
    exact ⟨rfl, h⟩
  · have ht : ttl < 1 ∨ 549755813888 < ttl := by
      rcases hb with hb | hb
      · exact absurd hb hn
      · exact hb
    unfold badNew at hn
    have C1 := Lib.hid (new_any k w R al kp mo (by omega) (by omega) (by omega) (by omega) (by omega) (by omega) h)
    clear hn hb
    by_cases h1 : ttl < 1
    · go_enter Try.func17, Try.ntmps17
      go_wp2_with (first | (go_at_call 45; (with_reducible refine C1.out.mono ?_); rintro e w1 ⟨s, rfl, g1⟩))
      go_ret2
      exact ⟨rfl, g1.drop⟩
    · have h2 : 549755813888 < ttl := by omega
      clear ht
      go_enter Try.func17, Try.ntmps17
      go_wp2_with (first | (go_at_call 45; (with_reducible refine C1.out.mono ?_); rintro e w1 ⟨s, rfl, g1⟩))
      go_ret2
      exact ⟨rfl, g1.drop⟩
set_option maxRecDepth 100000 in
set_option maxHeartbeats 4000000 in
theorem rdnew_bad (k : Env) (w : World) (R : Assn) (al kp mo ttl : Int) (hb : badNew al kp mo ∨ ttl < 1 ∨ 549755813888 < ttl) (h : Sat k w R) :
    Calls Try.prog 21 #[.int .i64 al, .int .i64 kp, .int .i64 mo, .int .i64 ttl] w fun e w' => ∃ v, e = .returned (.tuple #[v, .int .i64 1]) ∧ Sat k w' R := by
  by_cases hn : badNew al kp mo
  · have C1 := Lib.hid (rnew_bad k w R al kp mo hn h)
    clear hb hn
    go_enter Try.func21, Try.ntmps21
    go_wp2_with fail
    refine C1.out.mono ?_
    rintro e w1 ⟨s, rfl, g1⟩
    go_wp2_with fail
    go_ret2
    exact ⟨_, rfl, ((g1.alloc' _).alloc' _).alloc' _⟩
  · have ht : ttl < 1 ∨ 549755813888 < ttl := by
      rcases hb with hb | hb
      · exact absurd hb hn
      · exact hb
    unfold badNew at hn
    have C1 := Lib.hid (rnew_any k w R al kp mo (by omega) (by omega) (by omega) (by omega) (by omega) (by omega) h)
    clear hn hb
    by_cases h1 : ttl < 1
    · go_enter Try.func21, Try.ntmps21
      go_wp2_with fail
      refine C1.out.mono ?_
      rintro e w1 ⟨s, rfl, g1⟩
      go_wp2_with fail
      go_ret2
      exact ⟨_, rfl, ((g1.drop.alloc' _).alloc' _).alloc' _⟩
    · have h2 : 549755813888 < ttl := by omega
      clear ht
      go_enter Try.func21, Try.ntmps21
      go_wp2_with fail
      refine C1.out.mono ?_
      rintro e w1 ⟨s, rfl, g1⟩
      go_wp2_with fail
      go_ret2
      exact ⟨_, rfl, ((g1.drop.alloc' _).alloc' _).alloc' _⟩

end Go.Proofs.Ytlilogcojeoelaa
