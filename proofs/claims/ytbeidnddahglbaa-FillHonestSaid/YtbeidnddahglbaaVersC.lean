/- Contracts of package vers: Dirty, Busy. -/
import Derived.Test.YtbeidnddahglbaaVersB
namespace Go.Proofs.Ytbeidnddahglbaa
set_option linter.all false
open Go Go.RowKit

theorem rd_get {k : Env} {w : World} {R : Assn} {a : Option Addr} {l : List ByteArray} (h : Rd k R a l) (hs : Sat k w R) (j : Nat) (hj : j < l.length) : ∃ g o, a = some ⟨g, o, none⟩ ∧ w.cell? ⟨g, o + j, none⟩ = some (.string l[j]) := by
  obtain ⟨g, o, h1, h2⟩ := h
  exact ⟨g, o, h1 (by intro e; subst e; cases hj), h2 w hs j hj⟩

def memB (s : ByteArray) (l : List ByteArray) : Bool := l.any fun x => decide (x = s)
theorem memB_nil (s : ByteArray) : memB s [] = false := rfl
theorem memB_snoc (s x : ByteArray) (l : List ByteArray) : memB s (l ++ [x]) = (memB s l || decide (x = s)) := by simp [memB]
theorem memB_iff {s : ByteArray} {l : List ByteArray} : memB s l = true ↔ s ∈ l := by simp [memB]
theorem memB_not {s : ByteArray} {l : List ByteArray} : memB s l = false ↔ s ∉ l := by rw [← memB_iff]; simp
def VS.dirty (V : VS) (c : Int) (l : List ByteArray) : VS := { V with D := fun s c' => V.D s c' || (decide (c' = c) && memB s l) }
theorem dirty_nil (V : VS) (c : Int) : V.dirty c [] = V := by simp [VS.dirty, memB_nil]
theorem getD_int {c : Int} {l : List (Int × Int)} : ((mget c l).map (Value.int .i64)).getD (.int .i64 0) = .int .i64 ((mget c l).getD 0) := by cases mget c l <;> rfl

theorem Tie.dirty {p q : List Tb} {x : Tb} {V : VS} {n : Nat} {c v : Int} {s : ByteArray} {l : List ByteArray} (h : Tie (p ++ x :: q) (V.dirty c l) n) (hx : x.name = s) (hv : 0 ≤ v ∧ v ≤ n) :
    Tie (p ++ { x with ds := mput c (v + 1) x.ds } :: q) (V.dirty c (l ++ [s])) (n + 1) := by
  have hb := h.b x (by simp)
  refine h.upd rfl (Nat.le_succ n) (fun s' => ?_) (fun s' c' => ?_) rfl ⟨hb.1, by have := hb.2.1; show x.num ≤ _; omega, fun c' v' hv' => ?_⟩
  · by_cases e : x.name = s'
    · rw [if_pos e]
      have h1 := h.num s'
      rw [← e, tget_at h.nd] at h1
      rw [← e]; exact h1
    · rw [if_neg e]; rfl
  · show (V.D s' c' || (decide (c' = c) && memB s' (l ++ [s]))) = _
    by_cases e : x.name = s'
    · rw [if_pos e]
      have h1 := h.dir s' c'
      rw [← e, tget_at h.nd] at h1
      have h1 : (V.D x.name c' || (decide (c' = c) && memB x.name l)) = (mget c' x.ds).isSome := h1
      show _ = (mget c' (mput c (v + 1) x.ds)).isSome
      rw [mget_put, ← e, memB_snoc]
      by_cases ec : c = c'
      · subst ec; simp [hx]
      · rw [if_neg ec, ← h1]
        have : ¬ c' = c := fun q => ec q.symm
        simp [this]
    · rw [if_neg e]
      have : ¬ s = s' := fun q => e (hx.trans q)
      rw [memB_snoc]
      show _ = (V.D s' c' || (decide (c' = c) && memB s' l))
      simp [this]
  · have hv' : mget c' (mput c (v + 1) x.ds) = some v' := hv'
    rw [mget_put] at hv'
    split at hv'
    · cases hv'; omega
    · have := hb.2.2 c' v' hv'; omega

set_option maxRecDepth 100000 in
set_option maxHeartbeats 2000000 in
theorem vdirty_any (k : Env) (w : World) (R : Assn) (b n : Nat) (V : VS) (c : Int) (a : Option Addr) (cap : Nat) (l : List ByteArray) (hr : Rd k R a l) (hn : n + l.length ≤ 1000000000) (h : Sat k w (VersV b V n * R)) :
    Calls Try.prog 32 #[pv b, .int .i64 c, .slice a l.length cap] w fun e w' => e = .returned (.tuple #[]) ∧ Sat k w' (VersV b (V.dirty c l) (n + l.length) * R) := by
  have h0 : Sat k w (VersV b (V.dirty c (l.take 0)) (n + 0) * R) := by rw [List.take_zero, dirty_nil]; exact h
  obtain ⟨L, ht, h1⟩ := vv_open h
  obtain ⟨m, hs⟩ := vr_open h1
  have c1 : w.cell? ⟨b, 1, none⟩ = some (.map (some m)) := hs.cell 1
  have HR := Lib.hid hr
  clear hs h1 ht h
  go_enter Try.func32, Try.ntmps32
  go_wp2_with (go_at_call 45; refine (vthere_any _ _ _ c1).mono ?_; rintro e w' ⟨rfl, rfl⟩)
  go_loopw [13] (fun i wr => ∃ j : Nat, j ≤ l.length ∧ i = .int .i64 j ∧ Sat k wr (VersV b (V.dirty c (l.take j)) (n + j) * R)) (fun i _ => l.length - (intOf i).toNat)
  case atStart => exact ⟨0, Nat.zero_le _, rfl, h0⟩
  case round =>
    clear h0 c1
    obtain ⟨j, hj, rfl, hr⟩ := hrel
    by_cases hlt : j < l.length
    · have hlt' : (j : Int) < l.length := by omega
      obtain ⟨g, o, rfl, d⟩ := rd_get HR.out hr.drop j hlt
      have hsn : l.take (j + 1) = l.take j ++ [l[j]] := by rw [List.take_succ]; simp [hlt]
      have HSN : Hid (V.dirty c (l.take (j + 1)) = V.dirty c (l.take j ++ [l[j]])) := by unfold Hid; rw [hsn]
      clear hsn
      generalize hp : l.take j = p0 at *
      clear hp
      generalize l[j] = s at *
      obtain ⟨L, ht, h1⟩ := vv_open hr
      obtain ⟨m, hs⟩ := vr_open h1
      have C1 := Lib.hid (vat_any k wr R b (n + j) (V.dirty c p0).ep (V.dirty c p0) L s ht h1)
      clear h1 hs
      go_wp2_with (first | (go_at_call 57; (with_reducible refine C1.out.mono ?_); rintro e w2 ⟨p, x, q, rfl, hxn, ht2, h2⟩; obtain ⟨m2, hx⟩ := vr_at h2; have d1 : w2.cell? ⟨x.t, 1, none⟩ = some (.map (some x.m)) := hx.swap.cell 1; have hl := run_lookup_sat KIntT mapDi zeroInt hx.get3 c; rw [dents_get, getD_int] at hl; obtain ⟨v, hv, hvb⟩ : ∃ v : Int, (mget c x.ds).getD 0 = v ∧ 0 ≤ v ∧ v ≤ n + j := ⟨_, rfl, by (have hb := (ht2.b x (by simp)).2.2 c; cases hq : mget c x.ds with | none => simp; omega | some u => have := hb u hq; simp; omega)⟩; rw [hv] at hl) | (at_mapUpdate; refine wpList_update_sat KIntT mapDi hx.get3 c (.int .i64 (v + 1)) (.tmp 22) (.tmp 23) (.tmp 25) rfl rfl rfl rfl rfl ?_; intro w3 h3; rw [dents_put] at h3))
      have h4 : Sat k w3 (VersV b (V.dirty c (l.take (j + 1))) (n + (j + 1)) * R) := by
        rw [HSN.out]
        refine vv_close (vr_at_close (m := m2) (x := { x with ds := mput c (v + 1) x.ds }) h3.put3 rfl rfl rfl rfl ?_) (ht2.dirty hxn hvb) rfl
        simp [tents]
      go_roundw
      case rel => exact ⟨j + 1, by omega, by go_num, h4⟩
      case measure => simp [intOf]; omega
    · have hjl : j = l.length := by omega
      subst hjl
      rw [List.take_length] at hr
      go_wp2_with fail
      go_end0
      exact ⟨rfl, hr⟩

end Go.Proofs.Ytbeidnddahglbaa
