/- Contracts of package fill: Look, where nothing is kept. -/
import Derived.Test.YtbeidnddahglbaaFillE
namespace Go.Proofs.Ytbeidnddahglbaa
set_option linter.all false
open Go Go.RowKit


set_option maxRecDepth 100000 in
set_option maxHeartbeats 4000000 in
theorem flook_none (k : Env) (w : World) (R : Assn) (b n nv : Nat) (c : CS) (V : VS) (S : List (Ky × StM)) (y : Ky) (now : Int) (hy : mget y S = none) (h : Sat k w (FillR b c n nv V S * R)) :
    Calls Try.prog 11 #[pq b, kyV y, .int .i64 now] w fun e w' => e = .returned (.tuple #[.string ⟨#[]⟩, .bool false]) ∧ Sat k w' (FillR b c n nv V S * R) := by
  (
    have h0 := h.alloc (.cells #[.string y.db, .string y.ro, .int .i64 y.fm, .string y.nm] 30)
    clear h
    unfold kyV
    go_enter Try.func11, Try.ntmps11
    go_upto_region 1 with fail
    generalize w.alloc (.cells #[.string y.db, .string y.ro, .int .i64 y.fm, .string y.nm] 30) = w0 at *
    generalize w.heap.size = o4 at *
    obtain ⟨cb, vb, m, hs⟩ := fi_open h0.swap
    have c2 : w0.cell? ⟨b, 2, none⟩ = some (.map (some m)) := hs.cell 2
    have d0 : w0.cell? ⟨o4, 0, none⟩ = some (.string y.db) := hs.get6.cell 0
    have d1 : w0.cell? ⟨o4, 1, none⟩ = some (.string y.ro) := hs.get6.cell 1
    have d2 : w0.cell? ⟨o4, 2, none⟩ = some (.int .i64 y.fm) := hs.get6.cell 2
    have d3 : w0.cell? ⟨o4, 3, none⟩ = some (.string y.nm) := hs.get6.cell 3
    have hbl := hs.lt
    have hol := hs.get6.lt
    have n1 : w0.heap.size ≠ b := by omega
    have n2 : w0.heap.size ≠ o4 := by omega
    have hl := run_lookup_ok_sat KKey mapSt zeroSt hs.drew.get4 y
    have hl2 := run_lookup_ok_sat KKey mapSt zeroSt (Sat.drew (hs.alloc' (.cells #[.int .i64 0, .slice none 0 0, .slice none 0 0] 32))).get4 y
    rw [sents_get] at hl hl2)
  rw [hy] at hl hl2
  simp only [Option.map_none, Option.getD_none, Option.isSome_none] at hl hl2
  unfold kyV at hl hl2
  go_upto_region 3 with (go_at_call 23; refine (fthere_any _ _ _ c2).mono ?_; rintro e w' ⟨rfl, rfl⟩)
  have HQ := Lib.hid (fun w' (f : Far w0 w') => h0.far f)
  clear hs
  go_region_held3 (fun w' => w'.cell? ⟨b, 2, none⟩ = some (.map (some m)) ∧ w'.cell? ⟨o4, 0, none⟩ = some (.string y.db) ∧ w'.cell? ⟨o4, 1, none⟩ = some (.string y.ro) ∧ w'.cell? ⟨o4, 2, none⟩ = some (.int .i64 y.fm) ∧ w'.cell? ⟨o4, 3, none⟩ = some (.string y.nm)) (go_keep) (fail)
  all_goals
    go_wp2_with fail
    go_ret2
    exact ⟨rfl, (HQ.out _ (by repeat (first | exact Far.refl _ | apply Far.drew | apply Far.alloc))).drop⟩

theorem mget_split {y : Ky} {s : StM} {S : List (Ky × StM)} (h : mget y S = some s) : ∃ p q, S = p ++ (y, s) :: q := by
  induction S with
  | nil => cases h
  | cons x r ih =>
    rw [mget] at h
    split at h
    · rename_i hx
      cases h
      exact ⟨[], r, by rw [← hx]; rfl⟩
    · obtain ⟨p, q, rfl⟩ := ih h
      exact ⟨x :: p, q, rfl⟩
theorem rd_own_any {k : Env} {w : World} {R : Assn} {a : Option Addr} {c : Nat} {l : List ByteArray} (h : Sat k w (Strs (.slice a l.length c) l * R)) (R' : Assn) : Rd k (Strs (.slice a l.length c) l * R') a l := by
  cases l with
  | nil => exact rd_nil k _ a
  | cons x r =>
    obtain ⟨g, rfl, _, _⟩ := strs_get h 0 (by simp)
    refine ⟨g, 0, fun _ => rfl, fun w' h' j hj => ?_⟩
    obtain ⟨g', hg, _, hc⟩ := strs_get h' j hj
    simp only [Option.some.injEq, Addr.mk.injEq, and_true] at hg
    subst hg
    rw [Nat.zero_add]; exact hc
theorem rdi_own_any {k : Env} {w : World} {R : Assn} {a : Option Addr} {c : Nat} {l : List Int} (h : Sat k w (Ints (.slice a l.length c) l * R)) (R' : Assn) : RdI k (Ints (.slice a l.length c) l * R') a l := by
  cases l with
  | nil => exact rdi_nil k _ a
  | cons x r =>
    obtain ⟨g, rfl, _, _⟩ := ints_get h 0 (by simp)
    refine ⟨g, 0, fun _ => rfl, fun w' h' j hj => ?_⟩
    obtain ⟨g', hg, _, hc⟩ := ints_get h' j hj
    simp only [Option.some.injEq, Addr.mk.injEq, and_true] at hg
    subst hg
    rw [Nat.zero_add]; exact hc
theorem stamp_rd {k : Env} {w : World} {S : List (Ky × StM)} {X0 : Assn} {y : Ky} {s : StM} (h : Sat k w (stars stampR S * X0)) (hy : mget y S = some s) (X : Assn) : Rd k (stars stampR S * X) s.a s.names ∧ RdI k (stars stampR S * X) s.i s.nums := by
  obtain ⟨p, q, rfl⟩ := mget_split hy
  have he : ∀ Y, stars stampR (p ++ (y, s) :: q) * Y = Strs (.slice s.a s.names.length s.ac) s.names * (Ints (.slice s.i s.nums.length s.ic) s.nums * (stars stampR (p ++ q) * Y)) := by
    intro Y
    rw [stars_mid]; unfold stampR stampS; ac_rfl
  rw [he] at h
  exact ⟨(rd_own_any h _).mono fun w' h' => he X ▸ h', (rdi_own_any h.swap _).mono fun w' h' => (he X ▸ h').swap⟩

end Go.Proofs.Ytbeidnddahglbaa
