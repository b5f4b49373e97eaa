/- Contracts of package vers: there, at, Num, New, All, and the atomic number. -/
import Derived.Test.YtbeidnddahglbaaVersA
import Derived.Laws.LoneSync
import Derived.Deep.CutBlock
namespace Go.Proofs.Ytbeidnddahglbaa
set_option linter.all false
open Go Go.RowKit

theorem aload_any (w : World) (b : Nat) (ep : Int) (h : w.cell? ⟨b, 0, none⟩ = some (.int .i64 ep)) :
    Calls Try.prog 46 #[pv b] w fun e w' => e = .returned (.int .i64 ep) ∧ w = w' := by
  have hl := run_call_load (P := Try.prog) Try.func66 (by kernel_rfl) (by kernel_rfl) (by kernel_rfl) .i64 (by kernel_rfl) h
  go_enter Try.func46, Try.ntmps46
  go_wp2
  go_ret
  exact ⟨rfl, rfl⟩
theorem aadd_any (w : World) (b : Nat) (ep : Int) (h : w.cell? ⟨b, 0, none⟩ = some (.int .i64 ep)) (hf : w.frozen? ⟨b, 0, none⟩ = false) (h0 : 0 ≤ ep) (h1 : ep ≤ 1000000000) :
    Calls Try.prog 58 #[pv b, .int .i64 1] w fun e w' => e = .returned (.int .i64 (ep + 1)) ∧ w' = w.setCell ⟨b, 0, none⟩ (.int .i64 (ep + 1)) := by
  have hw : IntKind.i64.wrap (ep + 1) = ep + 1 := IntWalk.i64_in _ (by omega)
  have hl := run_call_add (P := Try.prog) Try.func78 (by kernel_rfl) (by kernel_rfl) (by kernel_rfl) .i64 (by kernel_rfl) (y := 1) (s := ep + 1) h hf (by simp [Op.intArith, Sem.run_pure, hw])
  go_enter Try.func58, Try.ntmps58
  go_wp2
  go_ret
  exact ⟨rfl, rfl⟩

theorem vthere_any (w : World) (b m : Nat) (h : w.cell? ⟨b, 1, none⟩ = some (.map (some m))) :
    Calls Try.prog 45 #[pv b] w fun e w' => e = .returned (.bool true) ∧ w = w' := by
  have hm := fun (w : World) (r : Option Nat) => run_neq_map_nil (P := Try.prog) w 84 _ _ r mapTb
  go_enter Try.func45, Try.ntmps45
  go_wp2
  go_ret
  exact ⟨rfl, rfl⟩

theorem mput_new {a : ByteArray} {v : Value} {l : List (ByteArray × Value)} (h : mget a l = none) : mput a v l = l ++ [(a, v)] := by
  induction l with
  | nil => rfl
  | cons x r ih =>
    rw [mget] at h
    split at h
    · cases h
    · rename_i hx; rw [mput, if_neg hx, ih h]; rfl

set_option maxRecDepth 100000 in
set_option maxHeartbeats 1000000 in
theorem vat_any (k : Env) (w : World) (R : Assn) (b n : Nat) (ep : Int) (V : VS) (L : List Tb) (s : ByteArray) (ht : Tie L V n) (h : Sat k w (VersR b ep L * R)) :
    Calls Try.prog 57 #[pv b, .string s] w fun e w' => ∃ p x q, e = .returned (pv x.t) ∧ x.name = s ∧ Tie (p ++ x :: q) V n ∧ Sat k w' (VersR b ep (p ++ x :: q) * R) := by
  obtain ⟨m, hs⟩ := vr_open h
  have c1 : w.cell? ⟨b, 1, none⟩ = some (.map (some m)) := hs.cell 1
  have hl := run_lookup_sat KStrT mapTb zeroTb hs.swap s
  rw [tents_get] at hl
  cases hg : tget s L with
  | some x =>
    obtain ⟨p, q, rfl⟩ := tget_split hg
    have hn := tget_name hg
    rw [hg] at hl
    simp only [Option.map_some, Option.getD_some] at hl
    clear hs
    go_enter Try.func57, Try.ntmps57
    go_wp2
    go_ret
    exact ⟨p, x, q, rfl, hn, ht, h⟩
  | none =>
    rw [hg] at hl
    simp only [Option.map_none, Option.getD_none] at hl
    clear h
    have hmm := @run_makeMap Try.prog
    have hmk := Try.underlying95
    have h1 := map_made (K := Int) (kv := Value.int .i64) hs
    have h2 := h1.alloc (.cells #[.int .i64 0, .map (some w.heap.size)] 97)
    rw [show (w.alloc (.map #[] 0)).heap.size = w.heap.size + 1 from by simp] at h2
    go_enter Try.func57, Try.ntmps57
    go_upto_region 4 with fail
    generalize (w.alloc (.map #[] 0)).alloc (.cells #[.int .i64 0, .map (some w.heap.size)] 97) = w2 at *
    generalize w.heap.size = mm at *
    have c1' : w2.cell? ⟨b, 1, none⟩ = some (.map (some m)) := h2.get3.cell 1
    go_wp2_with (at_mapUpdate; refine wpList_update_sat KStrT mapTb h2.get4 s (pv (mm + 1)) (.tmp 20) (.tmp 21) (.tmp 22) rfl rfl rfl rfl rfl ?_; intro w3 h3)
    go_ret
    have hput : mput s (pv (mm + 1)) (tents L) = tents (L ++ [⟨s, mm + 1, mm, 0, []⟩]) := by
      have : mget s (tents L) = none := by rw [tents_get, hg]; rfl
      rw [mput_new this]; simp [tents]
    have ht2 : Tie (L ++ [⟨s, mm + 1, mm, 0, []⟩]) V n := ht.new hg rfl rfl
    have h4 : Sat k w3 (blk b (.cells #[.int .i64 ep, .map (some m)] 91 (0, 0)) * (blk (mm + 1) (.cells #[.int .i64 0, .map (some mm)] 97 (0, 0)) * (MapK (Value.int .i64) mm [] * (MapK Value.string m (mput s (pv (mm + 1)) (tents L)) * (stars tbR (L ++ []) * R))))) := h3.of_eq (by rw [List.append_nil]; ac_rfl)
    have h5 : Sat k w3 (VersR b ep (L ++ [⟨s, mm + 1, mm, 0, []⟩]) * R) := vr_at_close (m := m) (t := mm + 1) (mm := mm) (num := 0) (d := []) (l := mput s (pv (mm + 1)) (tents L)) (p := L) (q := []) (x := ⟨s, mm + 1, mm, 0, []⟩) h4 rfl rfl rfl rfl hput
    obtain ⟨xx, hxx⟩ : ∃ xx : Tb, xx = ⟨s, mm + 1, mm, 0, []⟩ := ⟨_, rfl⟩
    rw [← hxx] at ht2 h5
    have hx1 : xx.name = s := by rw [hxx]
    have hx2 : xx.t = mm + 1 := by rw [hxx]
    clear hput h4 h3
    refine ⟨L, xx, ?_⟩
    rw [hx2]
    first | exact ⟨[], rfl, hx1, ht2, h5⟩ | exact ⟨rfl, hx1, [], ht2, h5⟩

set_option maxRecDepth 100000 in
set_option maxHeartbeats 1000000 in
theorem vnum_any (k : Env) (w : World) (R : Assn) (b n : Nat) (V : VS) (s : ByteArray) (h : Sat k w (VersV b V n * R)) :
    Calls Try.prog 47 #[pv b, .string s] w fun e w' => e = .returned (.int .i64 (V.N s)) ∧ w = w' := by
  obtain ⟨L, ht, h⟩ := vv_open h
  obtain ⟨m, hs⟩ := vr_open h
  have c1 : w.cell? ⟨b, 1, none⟩ = some (.map (some m)) := hs.cell 1
  have hl := run_lookup_sat KStrT mapTb zeroTb hs.swap s
  rw [tents_get] at hl
  have hN := ht.num s
  cases hg : tget s L with
  | some x =>
    obtain ⟨p, q, rfl⟩ := tget_split hg
    obtain ⟨m', hx⟩ := vr_at h
    have d0 : w.cell? ⟨x.t, 0, none⟩ = some (.int .i64 x.num) := hx.swap.cell 0
    rw [hg] at hl hN
    simp only [Option.map_some, Option.getD_some, Option.elim_some] at hl hN
    rw [hN]
    clear hs hx
    go_enter Try.func47, Try.ntmps47
    go_wp2_with (go_at_call 45; refine (vthere_any _ _ _ c1).mono ?_; rintro e w' ⟨rfl, rfl⟩)
    go_ret
    exact ⟨rfl, rfl⟩
  | none =>
    rw [hg] at hl hN
    simp only [Option.map_none, Option.getD_none, Option.elim_none] at hl hN
    rw [hN]
    go_enter Try.func47, Try.ntmps47
    go_wp2_with (go_at_call 45; refine (vthere_any _ _ _ c1).mono ?_; rintro e w' ⟨rfl, rfl⟩)
    go_ret
    exact ⟨rfl, rfl⟩

def VS.all (V : VS) : VS := { V with ep := V.ep + 1 }
theorem vall_any (k : Env) (w : World) (R : Assn) (b n : Nat) (V : VS) (hn : n ≤ 1000000000) (h : Sat k w (VersV b V n * R)) :
    Calls Try.prog 36 #[pv b] w fun e w' => e = .returned (.tuple #[]) ∧ Sat k w' (VersV b V.all (n + 1) * R) := by
  obtain ⟨L, ht, h⟩ := vv_open h
  obtain ⟨m, hs⟩ := vr_open h
  have c1 : w.cell? ⟨b, 1, none⟩ = some (.map (some m)) := hs.cell 1
  have c0 : w.cell? ⟨b, 0, none⟩ = some (.int .i64 V.ep) := hs.cell 0
  have f0 : w.frozen? ⟨b, 0, none⟩ = false := hs.frozen 0
  have he := ht.e
  go_enter Try.func36, Try.ntmps36
  go_wp2_with (first | (go_at_call 45; refine (vthere_any _ _ _ c1).mono ?_; rintro e w' ⟨rfl, rfl⟩) | (go_at_call 58; refine (aadd_any _ _ _ c0 f0 (by omega) (by omega)).mono ?_; rintro e w' ⟨rfl, rfl⟩))
  go_end0
  have h2 := hs.set 0 (.int .i64 (V.ep + 1))
  refine ⟨rfl, vv_close (vr_close (ep := V.ep + 1) (m := m) h2 rfl) (V := V.all) ?_ rfl⟩
  have h3 := ht.more (Nat.le_succ n)
  exact ⟨h3.nd, h3.num, h3.dir, h3.b, by show 0 ≤ V.ep + 1 ∧ V.ep + 1 ≤ _; omega⟩

def VS.new : VS := ⟨0, fun _ => 0, fun _ _ => false⟩
theorem vnew_any (k : Env) (w : World) (R : Assn) (h : Sat k w R) :
    Calls Try.prog 22 #[] w fun e w' => ∃ b, e = .returned (pv b) ∧ Sat k w' (VersV b VS.new 0 * R) := by
  have hmm := @run_makeMap Try.prog
  have hmk := Try.underlying84
  have h1 := map_made (K := ByteArray) (kv := Value.string) h
  have h2 := h1.alloc (.cells #[.int .i64 0, .map (some w.heap.size)] 91)
  go_enter Try.func22, Try.ntmps22
  go_wp2
  go_ret
  refine ⟨_, rfl, vv_close (L := []) (ep := 0) (vr_close (m := w.heap.size) (l := []) (h2.of_eq ?_) rfl) ⟨by simp, fun s => rfl, fun s c => rfl, fun x hx => (by cases hx), by decide, by decide⟩ rfl⟩
  rw [stars, emp_star]; simp

end Go.Proofs.Ytbeidnddahglbaa
