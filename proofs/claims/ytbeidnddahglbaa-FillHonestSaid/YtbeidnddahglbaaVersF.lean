/- Contracts of package vers: Fresh. -/
import Derived.Test.YtbeidnddahglbaaVersE
namespace Go.Proofs.Ytbeidnddahglbaa
set_option linter.all false
open Go Go.RowKit

/-- The like for a slice of ints. -/
def RdI (k : Env) (R : Assn) (a : Option Addr) (l : List Int) : Prop :=
  ∃ g o, (l ≠ [] → a = some ⟨g, o, none⟩) ∧ ∀ w' : World, Sat k w' R → ∀ j (hj : j < l.length), w'.cell? ⟨g, o + j, none⟩ = some (.int .i64 l[j])
theorem rdi_nil (k : Env) (R : Assn) (a : Option Addr) : RdI k R a [] := ⟨0, 0, fun h => absurd rfl h, fun _ _ j hj => by cases hj⟩
theorem rdi_own {k : Env} {w : World} {R : Assn} {a : Option Addr} {c : Nat} {l : List Int} (h : Sat k w (Ints (.slice a l.length c) l * R)) : RdI k (Ints (.slice a l.length c) l * R) a l := by
  cases l with
  | nil => exact rdi_nil k _ a
  | cons x r =>
    obtain ⟨g, rfl, _, _⟩ := ints_get h 0 (by simp)
    refine ⟨g, 0, fun _ => rfl, fun w' h' j hj => ?_⟩
    obtain ⟨g', hg, _, hc⟩ := ints_get h' j hj
    simp only [Option.some.injEq, Addr.mk.injEq, and_true] at hg
    subst hg
    rw [Nat.zero_add]; exact hc
theorem RdI.mono {k : Env} {R R' : Assn} {a : Option Addr} {l : List Int} (h : RdI k R a l) (hm : ∀ w', Sat k w' R' → Sat k w' R) : RdI k R' a l := by
  obtain ⟨g, o, h1, h2⟩ := h
  exact ⟨g, o, h1, fun w' h' => h2 w' (hm w' h')⟩
theorem rdi_get {k : Env} {w : World} {R : Assn} {a : Option Addr} {l : List Int} (h : RdI k R a l) (hs : Sat k w R) (j : Nat) (hj : j < l.length) : ∃ g o, a = some ⟨g, o, none⟩ ∧ w.cell? ⟨g, o + j, none⟩ = some (.int .i64 l[j]) := by
  obtain ⟨g, o, h1, h2⟩ := h
  exact ⟨g, o, h1 (by intro e; subst e; cases hj), h2 w hs j hj⟩

def freshV (V : VS) (ep : Int) (names : List ByteArray) (nums : List Int) : Prop := ep = V.ep ∧ nums = names.map V.N

set_option maxRecDepth 100000 in
set_option maxHeartbeats 2000000 in
theorem vfresh_any (k : Env) (w : World) (R : Assn) (b n : Nat) (V : VS) (ep : Int) (aa ba : Option Addr) (ac bc : Nat) (names : List ByteArray) (nums : List Int) (hr : Rd k R aa names) (hi : RdI k R ba nums) (hn : names.length ≤ 1000000000) (hm : nums.length ≤ 1000000000) (h : Sat k w (VersV b V n * R)) :
    Calls Try.prog 24 #[pv b, .agg #[.int .i64 ep, .slice aa names.length ac, .slice ba nums.length bc]] w fun e w' => ∃ r : Bool, e = .returned (.bool r) ∧ (r = true ↔ freshV V ep names nums) ∧ Sat k w' (VersV b V n * R) := by
  have h0 := h.alloc (.cells #[.int .i64 ep, .slice aa names.length ac, .slice ba nums.length bc] 32)
  have HR := Lib.hid hr
  have HI := Lib.hid hi
  clear h hr hi
  go_enter Try.func24, Try.ntmps24
  go_upto_region 1 with fail
  generalize w.alloc (.cells #[.int .i64 ep, .slice aa names.length ac, .slice ba nums.length bc] 32) = w0 at *
  generalize w.heap.size = o3 at *
  obtain ⟨L, ht, h1⟩ := vv_open h0.swap
  obtain ⟨m, hs⟩ := vr_open h1
  have c1 : w0.cell? ⟨b, 1, none⟩ = some (.map (some m)) := hs.cell 1
  have c0 : w0.cell? ⟨b, 0, none⟩ = some (.int .i64 V.ep) := hs.cell 0
  have d0 : w0.cell? ⟨o3, 0, none⟩ = some (.int .i64 ep) := h0.cell 0
  have d1 : w0.cell? ⟨o3, 1, none⟩ = some (.slice aa names.length ac) := h0.cell 1
  have d2 : w0.cell? ⟨o3, 2, none⟩ = some (.slice ba nums.length bc) := h0.cell 2
  have C1 := Lib.hid (fun n => (vthere_any (w0.drewN n) b m c1).mono fun _ _ ⟨p, q⟩ => And.intro p q.symm)
  have C2 := Lib.hid (fun n => (aload_any (w0.drewN n) b V.ep c0).mono fun _ _ ⟨p, q⟩ => And.intro p q.symm)
  clear hs h1 ht
  by_cases he : ep = V.ep
  · subst he
    by_cases hl : names.length = nums.length
    · have hl' : ((names.length : Int) != nums.length) = false := by simp; omega
      go_quiet (first | (go_at_call 45; (with_reducible exact Calls.quiet_of_same (C1.out _))) | (go_at_call 46; (with_reducible exact Calls.quiet_of_same (C2.out _))))
      replace h0 := h0.drewN nq
      generalize w0.drewN nq = w1 at *
      clear c1 c0 d0 d1 d2 C1 C2
      have d1 : w1.cell? ⟨o3, 1, none⟩ = some (.slice aa names.length ac) := h0.cell 1
      have HL := Lib.hid hl
      clear hl
      go_wp2_with fail
      go_loopw [31] (fun i wr => ∃ j : Nat, j ≤ names.length ∧ i = .int .i64 j ∧ Hid (nums.take j = (names.take j).map V.N) ∧ Sat k wr (blk o3 (.cells #[.int .i64 V.ep, .slice aa names.length ac, .slice ba nums.length bc] 32 (0, 0)) * (VersV b V n * R))) (fun i _ => names.length - (intOf i).toNat)
      case atStart => exact ⟨0, Nat.zero_le _, rfl, rfl, h0⟩
      case round =>
        clear h0 d1
        obtain ⟨j, hj, rfl, HB, hr⟩ := hrel
        by_cases hlt : j < names.length
        · have hlt' : (j : Int) < names.length := by omega
          have hlt2 : j < nums.length := by have := HL.out; omega
          have hlt2' : (j : Int) < nums.length := by omega
          obtain ⟨g, o, rfl, d⟩ := rd_get HR.out hr.drop.drop j hlt
          obtain ⟨g2, o2, rfl, d'⟩ := rdi_get HI.out hr.drop.drop j hlt2
          have h1 : names.take (j + 1) = names.take j ++ [names[j]] := by rw [List.take_succ]; simp [hlt]
          have h2 : nums.take (j + 1) = nums.take j ++ [nums[j]] := by rw [List.take_succ]; simp [hlt2]
          have HS : Hid (nums[j] = V.N names[j] → nums.take (j + 1) = (names.take (j + 1)).map V.N) := by
            intro q
            rw [h1, h2, List.map_append, HB.out, q]; rfl
          have HX : Hid (nums = names.map V.N → nums[j] = V.N names[j]) := by
            intro q
            have : nums[j]? = (names.map V.N)[j]? := by rw [q]
            rw [List.getElem?_map, List.getElem?_eq_getElem hlt2, List.getElem?_eq_getElem hlt] at this
            simpa using this
          clear h1 h2
          generalize nums[j] = x at *
          generalize names[j] = s at *
          have e2 : wr.cell? ⟨o3, 2, none⟩ = some (.slice (some ⟨g2, o2, none⟩) nums.length bc) := hr.cell 2
          have C3 := Lib.hid (fun n' => (vnum_any k (wr.drewN n') _ b n V s (hr.swap.drewN n')).mono fun _ _ ⟨p, q⟩ => And.intro p q.symm)
          by_cases hx : x = V.N s
          · have hx' : (V.N s != x) = false := by simp [hx]
            have HX2 := Lib.hid hx
            clear hx
            go_upto_region 6 with fail
            go_quiet ((go_at_call 47; (with_reducible exact Calls.quiet_of_same (C3.out _))))
            replace hr := hr.drewN nq
            go_wp2_with fail
            go_roundw
            case rel => exact ⟨j + 1, by omega, by go_num, HS.out HX2.out, hr⟩
            case measure => simp [intOf]; omega
          · have hx' : (V.N s != x) = true := by simp; exact fun q => hx q.symm
            have HX2 := Lib.hid hx
            clear hx
            go_upto_region 6 with fail
            go_quiet ((go_at_call 47; (with_reducible exact Calls.quiet_of_same (C3.out _))))
            replace hr := hr.drewN nq
            go_wp2_with fail
            go_ret
            exact ⟨false, rfl, ⟨fun q => (by cases q), fun q => absurd (HX.out q.2) HX2.out⟩, hr.drop⟩
        · have hjl : j = names.length := by omega
          subst hjl
          rw [List.take_length, HL.out, List.take_length] at HB
          go_wp2_with fail
          go_ret
          exact ⟨true, rfl, ⟨fun _ => ⟨rfl, HB.out⟩, fun _ => rfl⟩, hr.drop⟩
    · have hl' : ((names.length : Int) != nums.length) = true := by simp; omega
      go_quiet (first | (go_at_call 45; (with_reducible exact Calls.quiet_of_same (C1.out _))) | (go_at_call 46; (with_reducible exact Calls.quiet_of_same (C2.out _))))
      replace h0 := h0.drewN nq
      have HL := Lib.hid hl
      clear hl
      go_wp2_with fail
      go_ret
      exact ⟨false, rfl, ⟨fun q => (by cases q), fun q => absurd (by rw [q.2, List.length_map]) HL.out⟩, h0.drop⟩
  · have he' : (ep != V.ep) = true := by simp; exact he
    go_quiet (first | (go_at_call 45; (with_reducible exact Calls.quiet_of_same (C1.out _))) | (go_at_call 46; (with_reducible exact Calls.quiet_of_same (C2.out _))))
    replace h0 := h0.drewN nq
    have HE := Lib.hid he
    clear he
    go_wp2_with fail
    go_ret
    exact ⟨false, rfl, ⟨fun q => (by cases q), fun q => absurd q.1 HE.out⟩, h0.drop⟩

end Go.Proofs.Ytbeidnddahglbaa
