/- Contracts of Texts, Same, Meets. -/
import Derived.Test.YtoeepbjnbgpmpaaSetsJ
namespace Go.Proofs.Ytoeepbjnbgpmpaa
set_option linter.all false
open Go Go.RowKit

set_option maxHeartbeats 2000000 in
/-- Equal lists. -/
theorem rtexts_any (k : Env) (w : World) (R : Assn) (a : Option Addr) (c : Nat) (b : Option Addr) (d : Nat) (l : List ByteArray) (ha : Rd k R a l) (hb : Rd k R b l) (hn : l.length ≤ 2000000000000) (h : Sat k w R) :
    Calls Try.prog 55 #[.slice a l.length c, .slice b l.length d] w fun e w' => e = .returned (.bool true) ∧ Sat k w' R := by
  have HA := Lib.hid ha
  have HB := Lib.hid hb
  clear ha hb
  go_enter Try.func55, Try.ntmps55
  go_wp2_with fail
  go_loopw [5] (fun s5 wr => ∃ j : Nat, j ≤ l.length ∧ s5 = .int .i64 j ∧ Sat k wr R) (fun s5 _ => l.length - (intOf s5).toNat)
  case atStart => exact ⟨0, Nat.zero_le _, rfl, h⟩
  case round =>
    clear h
    obtain ⟨j, hj, rfl, hs⟩ := hrel
    by_cases hlt : j < l.length
    · have hlt' : (j : Int) < l.length := by omega
      obtain ⟨g, o, rfl, d1⟩ := rd_get HA.out hs j hlt
      obtain ⟨g2, o2, rfl, d2⟩ := rd_get HB.out hs j hlt
      generalize l[j] = x at *
      have hq : (x.toList == x.toList) = true := by simp
      go_wp2_with fail
      go_quiet (fail)
      replace hs := hs.drewN nq
      generalize wr.drewN nq = wr at *
      go_wp2_with fail
      go_roundw
      case rel => exact ⟨j + 1, by omega, by go_num, hs⟩
      case measure => simp [intOf]; omega
    · obtain rfl : j = l.length := by omega
      go_wp2_with fail
      go_ret
      exact ⟨rfl, hs⟩

def meetB (la lb : List ByteArray) : Bool := la.any fun x => memB x lb
theorem meetB_snoc (la lb : List ByteArray) (x : ByteArray) : meetB (la ++ [x]) lb = (meetB la lb || memB x lb) := by simp [meetB]
theorem meetB_iff {la lb : List ByteArray} : meetB la lb = true ↔ ∃ x ∈ la, x ∈ lb := by simp [meetB, memB_iff]
theorem meetB_comm (la lb : List ByteArray) : meetB la lb = meetB lb la := by
  rw [Bool.eq_iff_iff, meetB_iff, meetB_iff]
  constructor
  · rintro ⟨x, h1, h2⟩; exact ⟨x, h2, h1⟩
  · rintro ⟨x, h1, h2⟩; exact ⟨x, h2, h1⟩

/-- The counts of those that have come. -/
def CntOK (L : List (ByteArray × Int)) (n : Nat) (K : List ByteArray) : Prop :=
  ∀ s, (memB s K = true → ∃ z : Int, mget s L = some z ∧ 1 ≤ z ∧ z ≤ n) ∧ (memB s K = false → mget s L = none)
theorem cnt_get {L : List (ByteArray × Int)} {n : Nat} {K : List ByteArray} (h : CntOK L n K) (s : ByteArray) : ∃ z : Int, (mget s (hents L)).getD (.int .i64 0) = .int .i64 z ∧ (mget s L).getD 0 = z ∧ 0 ≤ z ∧ z ≤ n ∧ decide (0 < z) = memB s K := by
  rw [hents_get]
  cases hm : memB s K with
  | true =>
    obtain ⟨z, h1, h2, h3⟩ := (h s).1 hm
    exact ⟨z, by rw [h1]; rfl, by rw [h1]; rfl, by omega, h3, by rw [decide_eq_true_eq]; omega⟩
  | false =>
    have h1 := (h s).2 hm
    exact ⟨0, by rw [h1]; rfl, by rw [h1]; rfl, by omega, by omega, rfl⟩
theorem cnt_put {L : List (ByteArray × Int)} {n : Nat} {K : List ByteArray} (h : CntOK L n K) (x : ByteArray) {z : Int} (hz : (mget x L).getD 0 = z) (h0 : 0 ≤ z) (hn : z ≤ n) : CntOK (mput x (z + 1) L) (n + 1) (K ++ [x]) := by
  intro s
  rw [memB_snoc, mget_put]
  by_cases hx : x = s
  · rw [decide_eq_true hx, Bool.or_true, if_pos hx]
    exact ⟨fun _ => ⟨z + 1, rfl, by omega, by omega⟩, fun q => by cases q⟩
  · rw [decide_eq_false hx, Bool.or_false, if_neg hx]
    refine ⟨fun q => ?_, (h s).2⟩
    obtain ⟨z, h1, h2, h3⟩ := (h s).1 q
    exact ⟨z, h1, h2, by omega⟩

end Go.Proofs.Ytoeepbjnbgpmpaa
