/- Several texts in one: StA, StB, StC, StD, StE. -/
import Derived.Test.YtoeepbjnbgpmpaaMA
import Derived.Test.YtoeepbjnbgpmpaaRdA
import Derived.Deep.DeepCutAuto
import Derived.Deep.CutBlock
import Derived.Deep.RegionHeld3
import Derived.WalkMore
import Derived.KernelRfl
namespace Go.Proofs.Ytoeepbjnbgpmpaa
set_option linter.all false
open Go Go.RowKit

/-- A row. -/
abbrev Rw2 : Type := Int × Int
def rwc (x : Rw2) : List Value := [.int .i64 x.1, .int .i64 x.2]
def ERw : Enc Rw2 := ⟨rwc, 2, fun _ => rfl, fun x u hu => by simp [rwc] at hu; rcases hu with rfl | rfl <;> rfl⟩
theorem TRw : SliceT Try.prog 36 45 (.agg #[.int .i64 0, .int .i64 0]) 2 16 := ⟨Try.underlying36, by kernel_rfl, rfl, by decide⟩
def Rws (v : Value) (l : List Rw2) : Assn := RecS ERw 45 v l
/-- A table as it lies: its rows are a slice. -/
structure TbM where
  nm : ByteArray
  a : Option Addr
  c : Nat
  rows : List Rw2
def TbM.v (p : TbM) : Value := .slice p.a p.rows.length p.c
def tbc (p : TbM) : List Value := [.string p.nm, p.v]
def ETb : Enc TbM := ⟨tbc, 2, fun _ => rfl, fun x u hu => by simp [tbc, TbM.v] at hu; rcases hu with rfl | rfl <;> rfl⟩
theorem TTb : SliceT Try.prog 32 43 (.agg #[.string ByteArray.empty, .slice none 0 0]) 2 40 := ⟨Try.underlying32, by kernel_rfl, rfl, by decide⟩
/-- A state: its tables' names and rows. -/
abbrev Tb : Type := ByteArray × List Rw2
def TbM.p (p : TbM) : Tb := (p.nm, p.rows)
def tbR (p : TbM) : Assn := Rws p.v p.rows
/-- A state that is owned: its tables, and their rows, each apart. -/
def StO (v : Value) (P : List TbM) : Assn := RecS ETb 43 v P * stars tbR P

/-- Rows that are read wherever they lie. -/
def RdR (k : Env) (R : Assn) (a : Option Addr) (l : List Rw2) : Prop :=
  ∃ g o, (l ≠ [] → a = some ⟨g, o, none⟩) ∧ ∀ w' : World, Sat k w' R → ∀ j (hj : j < l.length), w'.cell? ⟨g, o + j * 2, none⟩ = some (.int .i64 l[j].1) ∧ w'.cell? ⟨g, o + j * 2 + 1, none⟩ = some (.int .i64 l[j].2)
theorem RdR.mono {k : Env} {R R' : Assn} {a : Option Addr} {l : List Rw2} (h : RdR k R a l) (hm : ∀ w', Sat k w' R' → Sat k w' R) : RdR k R' a l := by
  obtain ⟨g, o, h1, h2⟩ := h
  exact ⟨g, o, h1, fun w' h' => h2 w' (hm w' h')⟩
theorem rdr_nil (k : Env) (R : Assn) (a : Option Addr) : RdR k R a [] := ⟨0, 0, fun h => absurd rfl h, fun _ _ j hj => by cases hj⟩
theorem rdr_own {k : Env} {w : World} {R : Assn} {a : Option Addr} {c : Nat} {l : List Rw2} (h : Sat k w (Rws (.slice a l.length c) l * R)) : RdR k (Rws (.slice a l.length c) l * R) a l := by
  cases l with
  | nil => exact rdr_nil k _ a
  | cons x r =>
    obtain ⟨g, rfl, _, _⟩ := rec_get h (by decide) 0 (by simp)
    refine ⟨g, 0, fun _ => rfl, fun w' h' j hj => ?_⟩
    obtain ⟨g', hg, _, hc⟩ := rec_get h' (by decide) j hj
    simp only [Option.some.injEq, Addr.mk.injEq, and_true] at hg
    subst hg
    rw [Nat.zero_add]
    exact ⟨hc 0 (by decide), hc 1 (by decide)⟩
theorem rdr_get {k : Env} {w : World} {R : Assn} {a : Option Addr} {l : List Rw2} (h : RdR k R a l) (hs : Sat k w R) (j : Nat) (hj : j < l.length) :
    ∃ g o, a = some ⟨g, o, none⟩ ∧ w.cell? ⟨g, o + j * 2, none⟩ = some (.int .i64 l[j].1) ∧ w.cell? ⟨g, o + j * 2 + 1, none⟩ = some (.int .i64 l[j].2) := by
  obtain ⟨g, o, h1, h2⟩ := h
  exact ⟨g, o, h1 (by rintro rfl; cases hj), h2 w hs j hj⟩
/-- A state that is read wherever it lies. -/
def RdS (k : Env) (R : Assn) (a : Option Addr) (P : List TbM) : Prop :=
  (∃ g o, (P ≠ [] → a = some ⟨g, o, none⟩) ∧ ∀ w' : World, Sat k w' R → ∀ j (hj : j < P.length), w'.cell? ⟨g, o + j * 2, none⟩ = some (.string P[j].nm) ∧ w'.cell? ⟨g, o + j * 2 + 1, none⟩ = some P[j].v) ∧ ∀ p ∈ P, RdR k R p.a p.rows
theorem RdS.mono {k : Env} {R R' : Assn} {a : Option Addr} {l : List TbM} (h : RdS k R a l) (hm : ∀ w', Sat k w' R' → Sat k w' R) : RdS k R' a l := by
  obtain ⟨⟨g, o, h1, h2⟩, h3⟩ := h
  exact ⟨⟨g, o, h1, fun w' h' => h2 w' (hm w' h')⟩, fun p hp => (h3 p hp).mono hm⟩
theorem rds_get {k : Env} {w : World} {R : Assn} {a : Option Addr} {l : List TbM} (h : RdS k R a l) (hs : Sat k w R) (j : Nat) (hj : j < l.length) :
    ∃ g o, a = some ⟨g, o, none⟩ ∧ w.cell? ⟨g, o + j * 2, none⟩ = some (.string l[j].nm) ∧ w.cell? ⟨g, o + j * 2 + 1, none⟩ = some l[j].v := by
  obtain ⟨⟨g, o, h1, h2⟩, _⟩ := h
  exact ⟨g, o, h1 (by rintro rfl; cases hj), h2 w hs j hj⟩
/-- The same place for all worlds. -/
theorem rds_at {k : Env} {R : Assn} {a : Option Addr} {l : List TbM} (h : RdS k R a l) (hl : l ≠ []) :
    ∃ g o, a = some ⟨g, o, none⟩ ∧ ∀ w' : World, Sat k w' R → ∀ j (hj : j < l.length), w'.cell? ⟨g, o + j * 2, none⟩ = some (.string l[j].nm) ∧ w'.cell? ⟨g, o + j * 2 + 1, none⟩ = some l[j].v := by
  obtain ⟨⟨g, o, h1, h2⟩, _⟩ := h
  exact ⟨g, o, h1 hl, h2⟩
theorem stars_mem {α : Type} (f : α → Assn) : ∀ (P : List α) (p : α), p ∈ P → ∃ F, stars f P = f p * F
  | [], p, h => by cases h
  | x :: r, p, h => by
    rw [List.mem_cons] at h
    rcases h with rfl | h
    · exact ⟨stars f r, rfl⟩
    · obtain ⟨F, hF⟩ := stars_mem f r p h
      refine ⟨f x * F, ?_⟩
      rw [stars, hF]
      ac_rfl
theorem rds_own {k : Env} {w : World} {R : Assn} {a : Option Addr} {c : Nat} {P : List TbM} (h : Sat k w (StO (.slice a P.length c) P * R)) : RdS k (StO (.slice a P.length c) P * R) a P := by
  have he : StO (.slice a P.length c) P * R = RecS ETb 43 (.slice a P.length c) P * (stars tbR P * R) := by unfold StO; rw [star_assoc]
  rw [he] at h ⊢
  constructor
  · cases P with
    | nil => exact ⟨0, 0, fun h => absurd rfl h, fun _ _ j hj => by cases hj⟩
    | cons x r =>
      obtain ⟨g, rfl, _, _⟩ := rec_get h (by decide) 0 (by simp)
      refine ⟨g, 0, fun _ => rfl, fun w' h' j hj => ?_⟩
      obtain ⟨g', hg, _, hc⟩ := rec_get h' (by decide) j hj
      simp only [Option.some.injEq, Addr.mk.injEq, and_true] at hg
      subst hg
      rw [Nat.zero_add]
      exact ⟨hc 0 (by decide), hc 1 (by decide)⟩
  · intro p hp
    obtain ⟨F, hF⟩ := stars_mem tbR P p hp
    have e : ∀ w', Sat k w' (RecS ETb 43 (.slice a P.length c) P * (stars tbR P * R)) → Sat k w' (Rws (.slice p.a p.rows.length p.c) p.rows * (RecS ETb 43 (.slice a P.length c) P * (F * R))) := by
      intro w' q
      rw [hF] at q
      exact q.of_eq (by unfold tbR TbM.v; ac_rfl)
    exact (rdr_own (e w h)).mono e

/-- A number that can be. -/
def inB (n : Int) : Bool := decide (0 ≤ n) && decide (n ≤ 999999)
theorem within_any (w : World) (n : Int) : Calls Try.prog 32 #[.int .i64 n] w fun e w' => e = .returned (.bool (inB n)) ∧ w = w' := by
  unfold inB
  by_cases h0 : 0 ≤ n
  · by_cases h1 : n ≤ 999999
    · rw [decide_eq_true h0, decide_eq_true h1]
      go_enter Try.func32, Try.ntmps32
      go_wp2_with fail
      go_ret
      exact ⟨rfl, rfl⟩
    · rw [decide_eq_true h0, decide_eq_false h1]
      go_enter Try.func32, Try.ntmps32
      go_wp2_with fail
      go_ret
      exact ⟨rfl, rfl⟩
  · rw [decide_eq_false h0]
    go_enter Try.func32, Try.ntmps32
    go_wp2_with fail
    go_ret
    exact ⟨rfl, rfl⟩
theorem rin8_any (w : World) (n : Int) : Calls Try.prog 35 #[.int .i64 n] w fun e w' => e = .returned (.bool (inB n)) ∧ w = w' := by
  unfold inB
  by_cases h0 : 0 ≤ n
  · by_cases h1 : n ≤ 999999
    · rw [decide_eq_true h0, decide_eq_true h1]
      go_enter Try.func35, Try.ntmps35
      go_wp2_with fail
      go_ret
      exact ⟨rfl, rfl⟩
    · rw [decide_eq_true h0, decide_eq_false h1]
      go_enter Try.func35, Try.ntmps35
      go_wp2_with fail
      go_ret
      exact ⟨rfl, rfl⟩
  · rw [decide_eq_false h0]
    go_enter Try.func35, Try.ntmps35
    go_wp2_with fail
    go_ret
    exact ⟨rfl, rfl⟩

end Go.Proofs.Ytoeepbjnbgpmpaa

namespace Go.Proofs.Ytoeepbjnbgpmpaa
set_option linter.all false
open Go Go.RowKit

/-- The place of a name, or -1. -/
def findI : List TbM → ByteArray → Int → Int
  | [], _, _ => -1
  | x :: r, s, i => if x.nm = s then i else findI r s (i + 1)
theorem findI_drop (P : List TbM) (s : ByteArray) (j : Nat) (h : j < P.length) : findI (P.drop j) s j = if P[j].nm = s then (j : Int) else findI (P.drop (j + 1)) s ((j + 1 : Nat) : Int) := by
  rw [List.drop_eq_getElem_cons h, findI]; rfl

set_option maxRecDepth 100000 in
set_option maxHeartbeats 2000000 in
theorem sfind_any (k : Env) (w : World) (R : Assn) (a : Option Addr) (c : Nat) (P : List TbM) (s : ByteArray) (hr : RdS k R a P) (hl : P.length ≤ 1000000000) (h : Sat k w R) :
    Calls Try.prog 17 #[.slice a P.length c, .string s] w fun e w' => e = .returned (.int .i64 (findI P s 0)) ∧ Sat k w' R := by
  obtain ⟨res, hres⟩ : ∃ res, findI P s 0 = res := ⟨_, rfl⟩
  have HX : Hid (findI (P.drop 0) s ((0 : Nat) : Int) = res) := hres
  rw [hres]
  have HR := Lib.hid hr
  clear hres hr
  go_enter Try.func17, Try.ntmps17
  go_wp2_with fail
  go_loopw [9] (fun s9 wr => ∃ j : Nat, j ≤ P.length ∧ s9 = .int .i64 j ∧ Hid (findI (P.drop j) s j = res) ∧ Sat k wr R) (fun s9 _ => P.length - (intOf s9).toNat)
  case atStart => exact ⟨0, Nat.zero_le _, rfl, HX, h⟩
  case round =>
    clear h HX
    obtain ⟨j, hj, rfl, HS, hs⟩ := hrel
    by_cases hlt : j < P.length
    · have hlt' : (j : Int) < P.length := by omega
      obtain ⟨g, o, rfl, c0, c1⟩ := rds_get HR.out hs j hlt
      have HSN := Lib.hid (findI_drop P s j hlt)
      generalize P[j] = p at *
      obtain ⟨nm, pa, pc, rows⟩ := p
      simp only [TbM.v] at c0 c1 HSN
      have h4 := hs.alloc (.cells #[.string nm, .slice pa rows.length pc] 43)
      go_upto_region 4 with fail
      generalize wr.alloc (.cells #[.string nm, .slice pa rows.length pc] 43) = w4 at *
      generalize wr.heap.size = oo at *
      have d0 : w4.cell? ⟨oo, 0, none⟩ = some (.string nm) := h4.cell 0
      replace h4 := h4.drop
      clear c0 c1 hs
      have hcmp : (nm.toList == s.toList) = decide (nm = s) := tl_beq _ _
      by_cases hx : nm = s
      · rw [decide_eq_true hx] at hcmp
        obtain rfl : res = j := by rw [← HS.out, HSN.out, if_pos hx]
        clear HS HSN hx
        go_wp2_with fail
        go_ret
        exact ⟨rfl, h4⟩
      · rw [decide_eq_false hx] at hcmp
        have HN : Hid (findI (P.drop (j + 1)) s ((j + 1 : Nat) : Int) = res) := by unfold Hid; rw [← HS.out, HSN.out, if_neg hx]
        clear HS HSN hx
        go_wp2_with fail
        go_roundw
        case rel => exact ⟨j + 1, by omega, by go_num, HN, h4⟩
        case measure => simp [intOf]; omega
    · obtain rfl : j = P.length := by omega
      obtain rfl : res = -1 := by rw [← HS.out, List.drop_eq_nil_of_le (Nat.le_refl _)]; rfl
      clear HS
      go_wp2_with fail
      go_ret
      exact ⟨rfl, hs⟩

set_option maxRecDepth 100000 in
set_option maxHeartbeats 2000000 in
theorem rfind_any (k : Env) (w : World) (R : Assn) (a : Option Addr) (c : Nat) (P : List TbM) (s : ByteArray) (hr : RdS k R a P) (hl : P.length ≤ 1000000000) (h : Sat k w R) :
    Calls Try.prog 18 #[.slice a P.length c, .string s] w fun e w' => e = .returned (.int .i64 (findI P s 0)) ∧ Sat k w' R := by
  obtain ⟨res, hres⟩ : ∃ res, findI P s 0 = res := ⟨_, rfl⟩
  have HX : Hid (findI (P.drop 0) s ((0 : Nat) : Int) = res) := hres
  rw [hres]
  have HR := Lib.hid hr
  clear hres hr
  go_enter Try.func18, Try.ntmps18
  go_wp2_with fail
  go_loopw [5] (fun s5 wr => ∃ j : Nat, j ≤ P.length ∧ s5 = .int .i64 j ∧ Hid (findI (P.drop j) s j = res) ∧ Sat k wr R) (fun s5 _ => P.length - (intOf s5).toNat)
  case atStart => exact ⟨0, Nat.zero_le _, rfl, HX, h⟩
  case round =>
    clear h HX
    obtain ⟨j, hj, rfl, HS, hs⟩ := hrel
    by_cases hlt : j < P.length
    · have hlt' : (j : Int) < P.length := by omega
      obtain ⟨g, o, rfl, c0, c1⟩ := rds_get HR.out hs j hlt
      have HSN := Lib.hid (findI_drop P s j hlt)
      generalize P[j] = p at *
      obtain ⟨nm, pa, pc, rows⟩ := p
      simp only [TbM.v] at c0 c1 HSN
      have hcmp : (nm.toList == s.toList) = decide (nm = s) := tl_beq _ _
      by_cases hx : nm = s
      · rw [decide_eq_true hx] at hcmp
        obtain rfl : res = j := by rw [← HS.out, HSN.out, if_pos hx]
        clear HS HSN hx
        go_wp2_with fail
        go_ret
        exact ⟨rfl, hs⟩
      · rw [decide_eq_false hx] at hcmp
        have HN : Hid (findI (P.drop (j + 1)) s ((j + 1 : Nat) : Int) = res) := by unfold Hid; rw [← HS.out, HSN.out, if_neg hx]
        clear HS HSN hx
        go_wp2_with fail
        go_roundw
        case rel => exact ⟨j + 1, by omega, by go_num, HN, hs⟩
        case measure => simp [intOf]; omega
    · obtain rfl : j = P.length := by omega
      obtain rfl : res = -1 := by rw [← HS.out, List.drop_eq_nil_of_le (Nat.le_refl _)]; rfl
      clear HS
      go_wp2_with fail
      go_ret
      exact ⟨rfl, hs⟩

def lightT (p : TbM) : Bool := decide (p.nm.size ≤ 60) && decide (p.rows.length ≤ 70)
def lightS (P : List TbM) : Bool := decide (P.length ≤ 20) && P.all lightT
set_option maxRecDepth 100000 in
set_option maxHeartbeats 2000000 in
theorem light8_any (k : Env) (w : World) (R : Assn) (a : Option Addr) (c : Nat) (P : List TbM) (hr : RdS k R a P) (h : Sat k w R) :
    Calls Try.prog 14 #[.slice a P.length c] w fun e w' => e = .returned (.bool (lightS P)) ∧ Sat k w' R := by
  obtain ⟨res, hres⟩ : ∃ res, lightS P = res := ⟨_, rfl⟩
  rw [hres]
  by_cases hbig : 20 < P.length
  · have hbig' : (20 : Int) < P.length := by omega
    obtain rfl : res = false := by rw [← hres]; unfold lightS; rw [decide_eq_false (by omega)]; rfl
    clear hres
    go_enter Try.func14, Try.ntmps14
    go_wp2_with fail
    go_ret
    exact ⟨rfl, h⟩
  · have hbig' : ¬ (20 : Int) < P.length := by omega
    have HX : Hid ((P.drop 0).all lightT = res) := by
      unfold Hid; rw [← hres]; unfold lightS; rw [decide_eq_true (by omega)]; rfl
    have HR := Lib.hid hr
    clear hres hr
    go_enter Try.func14, Try.ntmps14
    go_wp2_with fail
    go_loopw [3] (fun s3 wr => ∃ j : Nat, j ≤ P.length ∧ s3 = .int .i64 j ∧ Hid ((P.drop j).all lightT = res) ∧ w = wr) (fun s3 _ => P.length - (intOf s3).toNat)
    case atStart => exact ⟨0, Nat.zero_le _, rfl, HX, rfl⟩
    case round =>
      clear HX
      obtain ⟨j, hj, rfl, HS, rfl⟩ := hrel
      by_cases hlt : j < P.length
      · have hlt' : (j : Int) < P.length := by omega
        obtain ⟨g, o, rfl, c0, c1⟩ := rds_get HR.out h j hlt
        have HSN : Hid ((P.drop j).all lightT = (lightT P[j] && (P.drop (j + 1)).all lightT)) := by
          unfold Hid; rw [List.drop_eq_getElem_cons hlt]; rfl
        generalize P[j] = p at *
        obtain ⟨nm, pa, pc, rows⟩ := p
        simp only [TbM.v, lightT] at c0 c1 HSN
        by_cases hx : 60 < nm.size
        · have hx' : (60 : Int) < nm.size := by omega
          obtain rfl : res = false := by rw [← HS.out, HSN.out, decide_eq_false (by omega)]; rfl
          clear HSN HS
          go_wp2_with fail
          go_ret
          exact ⟨rfl, h⟩
        · have hx' : ¬ (60 : Int) < nm.size := by omega
          by_cases hy : 70 < rows.length
          · have hy' : (70 : Int) < rows.length := by omega
            obtain rfl : res = false := by rw [← HS.out, HSN.out, decide_eq_false (p := rows.length ≤ 70) (by omega)]; simp
            clear HSN HS
            go_wp2_with fail
            go_ret
            exact ⟨rfl, h⟩
          · have hy' : ¬ (70 : Int) < rows.length := by omega
            have HN : Hid ((P.drop (j + 1)).all lightT = res) := by
              unfold Hid; rw [← HS.out, HSN.out, decide_eq_true (by omega), decide_eq_true (p := rows.length ≤ 70) (by omega)]; rfl
            clear HSN HS
            go_wp2_with fail
            go_roundw
            case rel => exact ⟨j + 1, by omega, by go_num, HN, trivial⟩
            case measure => simp [intOf]; omega
      · obtain rfl : j = P.length := by omega
        obtain rfl : res = true := by rw [← HS.out, List.drop_eq_nil_of_le (Nat.le_refl _)]; rfl
        clear HS
        go_wp2_with fail
        go_ret
        exact ⟨rfl, h⟩

end Go.Proofs.Ytoeepbjnbgpmpaa

namespace Go.Proofs.Ytoeepbjnbgpmpaa
set_option linter.all false
open Go Go.RowKit

theorem rw_eq (x y : Rw2) (w : World) : (Op.equalIn 10000 45 (.agg #[.int .i64 x.1, .int .i64 x.2]) (.agg #[.int .i64 y.1, .int .i64 y.2])).run Try.prog w = .ok (decide (x = y)) w := by
  obtain ⟨a, b⟩ := x
  obtain ⟨c, d⟩ := y
  have h1 : Try.prog.underlying 3 = some (.int .i64) := Try.underlying3
  have hs : Try.prog.underlying 45 = some (.struct (Try.prog.fieldsOf 45)) := by kernel_rfl
  rw [show (10000 : Nat) = 9999 + 1 from rfl, run_equalIn_agg w 9999 45 _ _ hs (by kernel_rfl)]
  simp [Program.fieldsOf, Try.underlying45, Op.eqFields, go_sem, h1]
  by_cases c0 : a = c <;> by_cases c1 : b = d <;> simp [c0, c1]

set_option maxRecDepth 100000 in
set_option maxHeartbeats 2000000 in
theorem rrows_any (k : Env) (w : World) (R : Assn) (a : Option Addr) (c : Nat) (b : Option Addr) (d : Nat) (l m : List Rw2) (ha : RdR k R a l) (hb : RdR k R b m) (hn : l.length ≤ 1000000000) (h : Sat k w R) :
    Calls Try.prog 23 #[.slice a l.length c, .slice b m.length d] w fun e w' => e = .returned (.bool (decide (l = m))) ∧ Sat k w' R := by
  obtain ⟨res, hres⟩ : ∃ res, decide (l = m) = res := ⟨_, rfl⟩
  rw [hres]
  by_cases hlm : l.length = m.length
  · have h1 : ((l.length : Int) == m.length) = true := by simp [hlm]
    have h2 : ((l.length : Int) != m.length) = false := by simp [hlm]
    have HX : Hid (decide (l.drop 0 = m.drop 0) = res) := hres
    have HA := Lib.hid ha
    have HB := Lib.hid hb
    have HLM := Lib.hid hlm
    clear ha hb hres hlm
    go_enter Try.func23, Try.ntmps23
    go_wp2_with fail
    go_loopw [5] (fun s5 wr => ∃ j : Nat, j ≤ l.length ∧ s5 = .int .i64 j ∧ Hid (decide (l.drop j = m.drop j) = res) ∧ Sat k wr R) (fun s5 _ => l.length - (intOf s5).toNat)
    case atStart => exact ⟨0, Nat.zero_le _, rfl, HX, h⟩
    case round =>
      clear h HX
      obtain ⟨j, hj, rfl, HS, hs⟩ := hrel
      by_cases hlt : j < l.length
      · have hlt' : (j : Int) < l.length := by omega
        have hltm : j < m.length := by have := HLM.out; omega
        have hltm' : (j : Int) < m.length := by omega
        obtain ⟨g, o, rfl, c0, c1⟩ := rdr_get HA.out hs j hlt
        obtain ⟨g2, o2, rfl, e0, e1⟩ := rdr_get HB.out hs j hltm
        have HSN : Hid (decide (l.drop j = m.drop j) = (decide (l[j] = m[j]) && decide (l.drop (j + 1) = m.drop (j + 1)))) := by
          unfold Hid; rw [List.drop_eq_getElem_cons hlt, List.drop_eq_getElem_cons hltm]; simp only [List.cons.injEq, Bool.decide_and]
        generalize l[j] = x at *
        generalize m[j] = y at *
        have hq := rw_eq x y
        by_cases hx : x = y
        · rw [decide_eq_true hx] at hq
          have HN : Hid (decide (l.drop (j + 1) = m.drop (j + 1)) = res) := by unfold Hid; rw [← HS.out, HSN.out, decide_eq_true hx]; rfl
          clear HS HSN hx
          go_wp2_with fail
          go_quiet (fail)
          replace hs := hs.drewN nq
          generalize wr.drewN nq = wr at *
          go_wp2_with fail
          go_roundw
          case rel => exact ⟨j + 1, by omega, by go_num, HN, hs⟩
          case measure => simp [intOf]; omega
        · rw [decide_eq_false hx] at hq
          obtain rfl : res = false := by rw [← HS.out, HSN.out, decide_eq_false hx]; rfl
          clear HS HSN hx
          go_wp2_with fail
          go_quiet (fail)
          replace hs := hs.drewN nq
          generalize wr.drewN nq = wr at *
          go_wp2_with fail
          go_ret
          exact ⟨rfl, hs⟩
      · obtain rfl : j = l.length := by omega
        obtain rfl : res = true := by
          rw [← HS.out, List.drop_eq_nil_of_le (Nat.le_refl _), List.drop_eq_nil_of_le (by have := HLM.out; omega)]; rfl
        clear HS
        go_wp2_with fail
        go_ret
        exact ⟨rfl, hs⟩
  · have h1 : ((l.length : Int) == m.length) = false := by simp; omega
    have h2 : ((l.length : Int) != m.length) = true := by rw [bne, h1]; rfl
    obtain rfl : res = false := by rw [← hres]; exact decide_eq_false (by rintro rfl; exact hlm rfl)
    clear hlm hres
    go_enter Try.func23, Try.ntmps23
    go_wp2_with fail
    go_ret
    exact ⟨rfl, h⟩

end Go.Proofs.Ytoeepbjnbgpmpaa

namespace Go.Proofs.Ytoeepbjnbgpmpaa
set_option linter.all false
open Go Go.RowKit

/-- A command. -/
structure CmdM where
  kind : Int
  tb : ByteArray
  kk : Int
  vv : Int
  kd : Bool
def cmc (x : CmdM) : List Value := [.int .i64 x.kind, .string x.tb, .int .i64 x.kk, .int .i64 x.vv, .bool x.kd]
abbrev cmV (x : CmdM) : Value := .agg #[.int .i64 x.kind, .string x.tb, .int .i64 x.kk, .int .i64 x.vv, .bool x.kd]
abbrev cmO (x : CmdM) : Obj := .cells #[.int .i64 x.kind, .string x.tb, .int .i64 x.kk, .int .i64 x.vv, .bool x.kd] 24 (0, 0)
def meansB (kd : Bool) (kk : Int) (x : Rw2) : Bool := !kd || decide (x.1 = kk)
def leftB (kd : Bool) (kk : Int) (x : Rw2) : Bool := kd && decide (x.1 ≠ kk)
theorem rws_push {k : Env} {w : World} {R : Assn} {a : Option Addr} {c : Nat} {l : List Rw2} {x : Rw2} (h : Sat k w (Own 45 2 (.slice a (l.length + 1) c) (l.length + 1) (ERw.recs l ++ [.int .i64 x.1, .int .i64 x.2]) * R)) : Sat k w (Rws (.slice a (l ++ [x]).length c) (l ++ [x]) * R) := by
  have e : (l ++ [x]).length = l.length + 1 := by simp
  rw [e]
  exact rec_push (E := ERw) h
/-- The same place for all worlds. -/
theorem rdr_at {k : Env} {R : Assn} {a : Option Addr} {l : List Rw2} (h : RdR k R a l) (j : Nat) (hj : j < l.length) :
    ∃ g o, a = some ⟨g, o, none⟩ ∧ ∀ w' : World, Sat k w' R → w'.cell? ⟨g, o + j * 2, none⟩ = some (.int .i64 l[j].1) ∧ w'.cell? ⟨g, o + j * 2 + 1, none⟩ = some (.int .i64 l[j].2) := by
  obtain ⟨g, o, h1, h2⟩ := h
  exact ⟨g, o, h1 (by rintro rfl; cases hj), fun w' q => h2 w' q j hj⟩
theorem filter_step {α : Type} (f : α → Bool) (l : List α) (j : Nat) (h : j < l.length) : (l.drop j).filter f = if f l[j] = true then l[j] :: (l.drop (j + 1)).filter f else (l.drop (j + 1)).filter f := by
  rw [List.drop_eq_getElem_cons h, List.filter_cons]


set_option maxRecDepth 100000 in
set_option maxHeartbeats 4000000 in
theorem rget_any (k : Env) (w : World) (R : Assn) (a : Option Addr) (c : Nat) (l : List Rw2) (x : CmdM) (hr : RdR k R a l) (hl : l.length ≤ 1000000) (h : Sat k w R) :
    Calls Try.prog 45 #[.slice a l.length c, cmV x] w fun e w' => ∃ v d, e = .returned (.slice v (l.filter (meansB x.kd x.kk)).length d) ∧ Sat k w' (Rws (.slice v (l.filter (meansB x.kd x.kk)).length d) (l.filter (meansB x.kd x.kk)) * R) := by
  obtain ⟨res, hres⟩ : ∃ res, l.filter (meansB x.kd x.kk) = res := ⟨_, rfl⟩
  have HX : Hid ([] ++ (l.drop 0).filter (meansB x.kd x.kk) = res) := hres
  rw [hres]
  clear hres
  (
    have h0 := h.alloc (.cells #[.int .i64 x.kind, .string x.tb, .int .i64 x.kk, .int .i64 x.vv, .bool x.kd] 24)
    have HR := Lib.hid (fun (v : Value) (L : List Rw2) => hr.mono (R' := Rws v L * (blk w.heap.size (cmO x) * R)) fun _ q => q.drop.drop)
    have hnil : Sat k (w.alloc (.cells #[.int .i64 x.kind, .string x.tb, .int .i64 x.kk, .int .i64 x.vv, .bool x.kd] 24)) (Rws (.slice none 0 0) [] * (blk w.heap.size (cmO x) * R)) := rec_nil h0
    obtain ⟨kind, tb, kk, vv, kd⟩ := x
    simp only at hnil HX h0 HR
    clear hr h h0)
  go_enter Try.func45, Try.ntmps45
  go_upto_region 1 with fail
  (
    generalize w.alloc (.cells #[.int .i64 kind, .string tb, .int .i64 kk, .int .i64 vv, .bool kd] 24) = w0 at *
    generalize w.heap.size = o at *
    go_wp2_with fail)
  go_loopw [5, 6] (fun s5 s6 wr => ∃ (j : Nat) (v : Option Addr) (d : Nat) (acc : List Rw2), j ≤ l.length ∧ s6 = .int .i64 j ∧ s5 = .slice v acc.length d ∧ acc.length ≤ j ∧ Hid (acc ++ (l.drop j).filter (meansB kd kk) = res) ∧ Sat k wr (Rws (.slice v acc.length d) acc * (blk o (.cells #[.int .i64 kind, .string tb, .int .i64 kk, .int .i64 vv, .bool kd] 24 (0, 0)) * R))) (fun _ s6 _ => l.length - (intOf s6).toNat)
  case atStart => exact ⟨0, none, 0, [], Nat.zero_le _, rfl, rfl, Nat.le_refl _, HX, hnil⟩
  case round =>
    clear hnil HX
    obtain ⟨j, v, d, acc, hj, rfl, rfl, hac, HS, hs⟩ := hrel
    by_cases hlt : j < l.length
    · have hlt' : (j : Int) < l.length := by omega
      obtain ⟨g, og, rfl, hg⟩ := rdr_at (HR.out (.slice v acc.length d) acc) j hlt
      obtain ⟨c0, c1⟩ := hg wr hs
      have HSN := Lib.hid (filter_step (meansB kd kk) l j hlt)
      have e2 : wr.cell? ⟨o, 2, none⟩ = some (.int .i64 kk) := hs.swap.cell 2
      have e4 : wr.cell? ⟨o, 4, none⟩ = some (.bool kd) := hs.swap.cell 4
      have HG := Lib.hid hg
      clear hg
      generalize l[j] = x at *
      have HB : Hid (meansB kd kk x = (!kd || decide (x.1 = kk))) := rfl
      have hcmp : ((x.1 : Int) == kk) = decide (x.1 = kk) := by rw [Bool.eq_iff_iff]; simp
      generalize decide (x.1 = kk) = eb at *
      cases hb : (!kd || eb) with
      | true =>
        have HN : Hid ((acc ++ [x]) ++ (l.drop (j + 1)).filter (meansB kd kk) = res) := by
          unfold Hid; rw [← HS.out, HSN.out, HB.out, hb, if_pos rfl]; simp
        have hkb : kd = false ∨ (kd = true ∧ eb = true) := by cases kd <;> cases eb <;> simp_all
        clear HS HSN HB hb
        rcases hkb with rfl | ⟨rfl, rfl⟩
        all_goals
          go_wp2_with fail
          go_quiet (fail)
          replace hs := hs.drewN nq
          generalize wr.drewN nq = wr at *
          clear c0 c1 e2 e4
          obtain ⟨c0, c1⟩ := HG.out wr hs
          go_upto_region 4 with (at_builtin; refine wpList_append_sat TRw (hs.alloc' _) (.tmp 26) (.tmp 31) _ 1 1 [.int .i64 x.1, .int .i64 x.2] rfl rfl rfl rfl rfl (fun _ => ⟨_, rfl, new_cells_at _ _ _ _ (by first | rfl | simp)⟩) (ERw.one _) (by simp [maxLen]; omega) (by omega) ?_; intro a7 c7 w7 h7)
          have h8 := rws_push h7
          go_wp2_with fail
          go_roundw
          case rel => exact ⟨j + 1, a7, c7, acc ++ [x], by omega, by go_num, by simp, by simp; omega, HN, h8⟩
          case measure => simp [intOf]; omega
      | false =>
        have HN : Hid (acc ++ (l.drop (j + 1)).filter (meansB kd kk) = res) := by
          unfold Hid; rw [← HS.out, HSN.out, HB.out, hb, if_neg (by decide)]
        have hkd : kd = true := by cases kd <;> simp_all
        have heb : eb = false := by cases eb <;> simp_all
        subst hkd heb
        clear HS HSN HB hb
        go_wp2_with fail
        go_quiet (fail)
        replace hs := hs.drewN nq
        generalize wr.drewN nq = wr at *
        go_wp2_with fail
        go_roundw
        case rel => exact ⟨j + 1, v, d, acc, by omega, by go_num, rfl, by omega, HN, hs⟩
        case measure => simp [intOf]; omega
    · obtain rfl : j = l.length := by omega
      obtain rfl : acc = res := by rw [← HS.out, List.drop_eq_nil_of_le (Nat.le_refl _)]; simp
      clear HS
      go_wp2_with fail
      go_ret
      exact ⟨_, _, rfl, hs.swap.drop⟩

set_option maxRecDepth 100000 in
set_option maxHeartbeats 4000000 in
theorem rwithout_any (k : Env) (w : World) (R : Assn) (a : Option Addr) (c : Nat) (l : List Rw2) (x : CmdM) (hr : RdR k R a l) (hl : l.length ≤ 1000000) (h : Sat k w R) :
    Calls Try.prog 59 #[.slice a l.length c, cmV x] w fun e w' => ∃ v d, e = .returned (.slice v (l.filter (leftB x.kd x.kk)).length d) ∧ Sat k w' (Rws (.slice v (l.filter (leftB x.kd x.kk)).length d) (l.filter (leftB x.kd x.kk)) * R) := by
  obtain ⟨res, hres⟩ : ∃ res, l.filter (leftB x.kd x.kk) = res := ⟨_, rfl⟩
  have HX : Hid ([] ++ (l.drop 0).filter (leftB x.kd x.kk) = res) := hres
  rw [hres]
  clear hres
  (
    have h0 := h.alloc (.cells #[.int .i64 x.kind, .string x.tb, .int .i64 x.kk, .int .i64 x.vv, .bool x.kd] 24)
    have HR := Lib.hid (fun (v : Value) (L : List Rw2) => hr.mono (R' := Rws v L * (blk w.heap.size (cmO x) * R)) fun _ q => q.drop.drop)
    have hnil : Sat k (w.alloc (.cells #[.int .i64 x.kind, .string x.tb, .int .i64 x.kk, .int .i64 x.vv, .bool x.kd] 24)) (Rws (.slice none 0 0) [] * (blk w.heap.size (cmO x) * R)) := rec_nil h0
    obtain ⟨kind, tb, kk, vv, kd⟩ := x
    simp only at hnil HX h0 HR
    clear hr h h0)
  go_enter Try.func59, Try.ntmps59
  go_upto_region 1 with fail
  (
    generalize w.alloc (.cells #[.int .i64 kind, .string tb, .int .i64 kk, .int .i64 vv, .bool kd] 24) = w0 at *
    generalize w.heap.size = o at *
    go_wp2_with fail)
  go_loopw [5, 6] (fun s5 s6 wr => ∃ (j : Nat) (v : Option Addr) (d : Nat) (acc : List Rw2), j ≤ l.length ∧ s6 = .int .i64 j ∧ s5 = .slice v acc.length d ∧ acc.length ≤ j ∧ Hid (acc ++ (l.drop j).filter (leftB kd kk) = res) ∧ Sat k wr (Rws (.slice v acc.length d) acc * (blk o (.cells #[.int .i64 kind, .string tb, .int .i64 kk, .int .i64 vv, .bool kd] 24 (0, 0)) * R))) (fun _ s6 _ => l.length - (intOf s6).toNat)
  case atStart => exact ⟨0, none, 0, [], Nat.zero_le _, rfl, rfl, Nat.le_refl _, HX, hnil⟩
  case round =>
    clear hnil HX
    obtain ⟨j, v, d, acc, hj, rfl, rfl, hac, HS, hs⟩ := hrel
    by_cases hlt : j < l.length
    · have hlt' : (j : Int) < l.length := by omega
      obtain ⟨g, og, rfl, hg⟩ := rdr_at (HR.out (.slice v acc.length d) acc) j hlt
      obtain ⟨c0, c1⟩ := hg wr hs
      have HSN := Lib.hid (filter_step (leftB kd kk) l j hlt)
      have e2 : wr.cell? ⟨o, 2, none⟩ = some (.int .i64 kk) := hs.swap.cell 2
      have e4 : wr.cell? ⟨o, 4, none⟩ = some (.bool kd) := hs.swap.cell 4
      have HG := Lib.hid hg
      clear hg
      generalize l[j] = x at *
      have HB : Hid (leftB kd kk x = (kd && !decide (x.1 = kk))) := by unfold Hid leftB; simp
      have hcmp : ((x.1 : Int) == kk) = decide (x.1 = kk) := by rw [Bool.eq_iff_iff]; simp
      have hcmp2 : ((x.1 : Int) != kk) = !decide (x.1 = kk) := by rw [bne, hcmp]
      generalize decide (x.1 = kk) = eb at *
      cases hb : (kd && !eb) with
      | true =>
        have HN : Hid ((acc ++ [x]) ++ (l.drop (j + 1)).filter (leftB kd kk) = res) := by
          unfold Hid; rw [← HS.out, HSN.out, HB.out, hb, if_pos rfl]; simp
        have hkb : kd = true ∧ eb = false := by cases kd <;> cases eb <;> simp_all
        clear HS HSN HB hb
        obtain ⟨rfl, rfl⟩ := hkb
        all_goals
          go_wp2_with fail
          go_quiet (fail)
          replace hs := hs.drewN nq
          generalize wr.drewN nq = wr at *
          clear c0 c1 e2 e4
          obtain ⟨c0, c1⟩ := HG.out wr hs
          go_upto_region 4 with (at_builtin; refine wpList_append_sat TRw (hs.alloc' _) (.tmp 25) (.tmp 30) _ 1 1 [.int .i64 x.1, .int .i64 x.2] rfl rfl rfl rfl rfl (fun _ => ⟨_, rfl, new_cells_at _ _ _ _ (by first | rfl | simp)⟩) (ERw.one _) (by simp [maxLen]; omega) (by omega) ?_; intro a7 c7 w7 h7)
          have h8 := rws_push h7
          go_wp2_with fail
          go_roundw
          case rel => exact ⟨j + 1, a7, c7, acc ++ [x], by omega, by go_num, by simp, by simp; omega, HN, h8⟩
          case measure => simp [intOf]; omega
      | false =>
        have HN : Hid (acc ++ (l.drop (j + 1)).filter (leftB kd kk) = res) := by
          unfold Hid; rw [← HS.out, HSN.out, HB.out, hb, if_neg (by decide)]
        have hkb : kd = false ∨ (kd = true ∧ eb = true) := by cases kd <;> cases eb <;> simp_all
        clear HS HSN HB hb
        rcases hkb with rfl | ⟨rfl, rfl⟩
        all_goals
          go_wp2_with fail
          go_quiet (fail)
          replace hs := hs.drewN nq
          generalize wr.drewN nq = wr at *
          go_wp2_with fail
          go_roundw
          case rel => exact ⟨j + 1, v, d, acc, by omega, by go_num, rfl, by omega, HN, hs⟩
          case measure => simp [intOf]; omega
    · obtain rfl : j = l.length := by omega
      obtain rfl : acc = res := by rw [← HS.out, List.drop_eq_nil_of_le (Nat.le_refl _)]; simp
      clear HS
      go_wp2_with fail
      go_ret
      exact ⟨_, _, rfl, hs.swap.drop⟩

end Go.Proofs.Ytoeepbjnbgpmpaa

namespace Go.Proofs.Ytoeepbjnbgpmpaa
set_option linter.all false
open Go Go.RowKit

def cutR (x : Int) : List Rw2 → List Rw2
  | [] => []
  | y :: r => if y.1 = x then r else y :: r
def headB (k : Int) : List Rw2 → Bool
  | [] => false
  | y :: _ => decide (y.1 = k)
/-- Rows with a row more, or another value. -/
def putR (l : List Rw2) (x : Rw2) : List Rw2 := l.takeWhile (fun y => decide (y.1 < x.1)) ++ x :: cutR x.1 (l.dropWhile fun y => decide (y.1 < x.1))
theorem putR_at {x : Rw2} {p q : List Rw2} (h : ∀ y ∈ p, y.1 < x.1) (hq : q = [] ∨ ∃ y r, q = y :: r ∧ ¬ y.1 < x.1) : putR (p ++ q) x = p ++ x :: cutR x.1 q := by
  unfold putR
  have hp : ∀ y ∈ p, (fun y : Rw2 => decide (y.1 < x.1)) y = true := fun y hy => decide_eq_true (h y hy)
  rw [List.takeWhile_append_of_pos hp, List.dropWhile_append_of_pos hp]
  rcases hq with rfl | ⟨y, r, rfl, hy⟩
  · simp
  · rw [List.takeWhile_cons, List.dropWhile_cons, if_neg (by simpa using hy), if_neg (by simpa using hy)]; simp
theorem rws_of {k : Env} {w : World} {R : Assn} {v v' : Value} {n : Nat} {xs : List Value} {L : List Rw2} (h : Sat k w (Own 45 2 v' n xs * R)) (hn : v' = v ∧ n = L.length) (hx : xs = ERw.recs L) : Sat k w (Rws v L * R) := by
  obtain ⟨rfl, rfl⟩ := hn
  subst hx; exact h
theorem rdr_news {k : Env} {w : World} {R : Assn} {a : Option Addr} {l : List Rw2} (h : RdR k R a l) (hs : Sat k w R) (i : Nat) (hi : i < l.length) : ∃ g o, a = some ⟨g, o, none⟩ ∧ ∀ j u, (ERw.recs (l.drop i))[j]? = some u → w.cell? ((⟨g, o + i * 2, none⟩ : Addr).add j) = some u := by
  obtain ⟨g, o, h1, h2⟩ := h
  refine ⟨g, o, h1 (by rintro rfl; cases hi), fun j u hu => ?_⟩
  have hl : (ERw.recs (l.drop i)).length = (l.length - i) * 2 := by rw [ERw.recs_len, List.length_drop]; rfl
  have hj : j < (l.length - i) * 2 := by
    have := (List.getElem?_eq_some_iff.1 hu).1
    omega
  have hj2 : j / 2 < (l.drop i).length := by rw [List.length_drop]; omega
  have hj3 : i + j / 2 < l.length := by omega
  obtain ⟨c0, c1⟩ := h2 w hs (i + j / 2) hj3
  have hg : (ERw.recs (l.drop i))[j / 2 * 2 + j % 2]? = (rwc (l.drop i)[j / 2])[j % 2]? := ERw.recs_get (l.drop i) (j / 2) (j % 2) hj2 (by show j % 2 < 2; omega)
  have ej : j / 2 * 2 + j % 2 = j := by omega
  rw [ej, hu, List.getElem_drop] at hg
  rw [Addr.add_lit, hg]
  have h3 : j % 2 = 0 ∨ j % 2 = 1 := by omega
  rcases h3 with q | q
  · rw [q, show o + i * 2 + j = o + (i + j / 2) * 2 by omega, c0]; rfl
  · rw [q, show o + i * 2 + j = o + (i + j / 2) * 2 + 1 by omega, c1]; rfl

set_option maxRecDepth 100000 in
set_option maxHeartbeats 4000000 in
theorem rput8_any (k : Env) (w : World) (R : Assn) (a : Option Addr) (c : Nat) (l : List Rw2) (x : Rw2) (hr : RdR k R a l) (hl : l.length ≤ 1000000) (hc : l.length ≤ c) (h : Sat k w R) :
    Calls Try.prog 58 #[.slice a l.length c, .agg #[.int .i64 x.1, .int .i64 x.2]] w fun e w' => ∃ v d, e = .returned (.slice v (putR l x).length d) ∧ Sat k w' (Rws (.slice v (putR l x).length d) (putR l x) * R) := by
  obtain ⟨res, hres⟩ : ∃ res, putR l x = res := ⟨_, rfl⟩
  have HX := Lib.hid hres
  rw [hres]
  have h0 := h.alloc (.cells #[.int .i64 x.1, .int .i64 x.2] 45)
  have HR := Lib.hid (fun (v : Value) (L : List Rw2) => hr.mono (R' := Rws v L * (blk w.heap.size (.cells #[.int .i64 x.1, .int .i64 x.2] 45) * R)) fun _ q => q.drop.drop)
  have hnil : Sat k (w.alloc (.cells #[.int .i64 x.1, .int .i64 x.2] 45)) (Rws (.slice none 0 0) [] * (blk w.heap.size (.cells #[.int .i64 x.1, .int .i64 x.2] 45) * R)) := rec_nil h0
  clear hr h h0 hres
  go_enter Try.func58, Try.ntmps58
  go_upto_region 1 with fail
  generalize w.alloc (.cells #[.int .i64 x.1, .int .i64 x.2] 45) = w0 at *
  generalize w.heap.size = o at *
  go_upto_block 0 with fail
  go_cut [5, 6] (fun s5 s6 wx => ∃ (v : Option Addr) (d : Nat) (p q : List Rw2), s6 = .int .i64 p.length ∧ s5 = .slice v p.length d ∧ Hid (l = p ++ q) ∧ Hid (putR l x = p ++ x :: cutR x.1 q) ∧ Sat k wx (Rws (.slice v p.length d) p * (blk o (.cells #[.int .i64 x.1, .int .i64 x.2] 45) * R)))
  case first =>
    clear HX
    go_wp2_with fail
    go_loopw [5, 6] (fun s5 s6 wr => ∃ (v : Option Addr) (d : Nat) (p q : List Rw2), s6 = .int .i64 p.length ∧ s5 = .slice v p.length d ∧ p.length + q.length = l.length ∧ Hid (l = p ++ q) ∧ Hid (∀ y ∈ p, y.1 < x.1) ∧ Sat k wr (Rws (.slice v p.length d) p * (blk o (.cells #[.int .i64 x.1, .int .i64 x.2] 45) * R))) (fun _ s6 _ => l.length - (intOf s6).toNat)
    case atStart => exact ⟨none, 0, [], l, rfl, rfl, by simp, rfl, (by intro y hy; cases hy), hnil⟩
    case round =>
      clear hnil
      obtain ⟨v, d, p, q, rfl, rfl, hpq, HL, HLT, hs⟩ := hrel
      have e0 : wr.cell? ⟨o, 0, none⟩ = some (.int .i64 x.1) := hs.swap.cell 0
      cases q with
      | nil =>
        have hple : ¬ (p.length : Int) < l.length := by simp at hpq; omega
        have hple2 : ¬ p.length < l.length := by omega
        have HI : Hid (putR l x = p ++ x :: cutR x.1 []) := by
          unfold Hid; rw [HL.out]; exact putR_at HLT.out (.inl rfl)
        clear HLT
        go_wp2_with fail
        go_quiet (fail)
        replace hs := hs.drewN nq
        generalize wr.drewN nq = wr at *
        go_wp2_with fail
        go_meet
        case rel => exact ⟨v, d, p, [], rfl, rfl, HL, HI, hs⟩
      | cons y r =>
        have hple : (p.length : Int) < l.length := by simp at hpq; omega
        have hpn : p.length < l.length := by omega
        obtain ⟨g, og, rfl, hg⟩ := rdr_at (HR.out (.slice v p.length d) p) p.length hpn
        have hy : l[p.length] = y := by
          have := HL.out
          subst this
          simp
        rw [hy] at hg
        obtain ⟨c0, c1⟩ := hg wr hs
        have HG := Lib.hid hg
        clear hg hy
        by_cases hlt : y.1 < x.1
        · have HLT2 : Hid (∀ z ∈ p ++ [y], z.1 < x.1) := by
            intro z hz
            rw [List.mem_append, List.mem_singleton] at hz
            rcases hz with hz | rfl
            · exact HLT.out z hz
            · exact hlt
          have HL2 : Hid (l = (p ++ [y]) ++ r) := by unfold Hid; rw [HL.out]; simp
          clear HL HLT
          go_wp2_with fail
          go_quiet (fail)
          replace hs := hs.drewN nq
          generalize wr.drewN nq = wr at *
          clear c0 c1 e0
          obtain ⟨c0, c1⟩ := HG.out wr hs
          go_upto_region 5 with (at_builtin; refine wpList_append_sat TRw (hs.alloc' _) (.tmp 21) (.tmp 26) _ 1 1 [.int .i64 y.1, .int .i64 y.2] rfl rfl rfl rfl rfl (fun _ => ⟨_, rfl, new_cells_at _ _ _ _ (by first | rfl | simp)⟩) (ERw.one _) (by simp [maxLen]; omega) (by omega) ?_; intro a7 c7 w7 h7)
          have h8 := rws_push h7
          have hln : (p ++ [y]).length = p.length + 1 := by simp
          have HLN := Lib.hid hln
          clear hln
          go_wp2_with fail
          go_roundw
          case rel => exact ⟨a7, c7, p ++ [y], r, by rw [HLN.out]; go_num, by rw [HLN.out], by rw [HLN.out]; simp at hpq; omega, HL2, HLT2, h8⟩
          case measure => simp [intOf]; omega
        · have HI : Hid (putR l x = p ++ x :: cutR x.1 (y :: r)) := by
            unfold Hid; rw [HL.out]; exact putR_at HLT.out (.inr ⟨y, r, rfl, hlt⟩)
          clear HLT
          go_wp2_with fail
          go_quiet (fail)
          replace hs := hs.drewN nq
          generalize wr.drewN nq = wr at *
          go_wp2_with fail
          go_meet
          case rel => exact ⟨v, d, p, y :: r, rfl, rfl, HL, HI, hs⟩
  case rest => as_aux_lemma =>
    clear hnil
    obtain ⟨v, d, p, q, rfl, rfl, HL, HI, hs⟩ := hcut
    have e0 : wc.cell? ⟨o, 0, none⟩ = some (.int .i64 x.1) := hs.swap.cell 0
    have e1 : wc.cell? ⟨o, 1, none⟩ = some (.int .i64 x.2) := hs.swap.cell 1
    have hpl : p.length + q.length = l.length := by rw [HL.out]; simp
    go_upto_region 7 with (at_builtin; refine wpList_append_sat TRw (hs.alloc' _) (.tmp 30) (.tmp 32) _ 1 1 [.int .i64 x.1, .int .i64 x.2] rfl rfl rfl rfl rfl (fun _ => ⟨_, rfl, new_cells_at _ _ _ _ (by first | rfl | simp)⟩) (ERw.one _) (by simp [maxLen]; omega) (by omega) ?_; intro a8 c8 w8 h8)
    have h9 := rws_push h8
    obtain ⟨u, hu⟩ : ∃ u, u = p ++ [x] := ⟨_, rfl⟩
    have hul : u.length = p.length + 1 := by rw [hu]; simp
    have hue : p.length + 1 = u.length := hul.symm
    rw [← hu] at h9
    rw [hue]
    obtain ⟨n0, hn0⟩ : ∃ n0, p.length = n0 := ⟨_, rfl⟩
    have HU : Hid (res = u ++ cutR x.1 q) := by unfold Hid; rw [← HX.out, HI.out, hu]; simp
    obtain ⟨eb, heb⟩ : ∃ eb : Bool, headB x.1 q = eb := ⟨_, rfl⟩
    have HEB := Lib.hid heb
    have hul2 : u.length ≤ 1000001 := by omega
    clear heb h8 hs e0 e1 HI HX hu
    go_cut [47] (fun s47 wx => s47 = .bool eb ∧ Sat k wx (Rws (.slice a8 u.length c8) u * (blk o (.cells #[.int .i64 x.1, .int .i64 x.2] 45) * R)))
    case first =>
      have e0 : w8.cell? ⟨o, 0, none⟩ = some (.int .i64 x.1) := h9.swap.cell 0
      cases q with
      | nil =>
        obtain rfl : eb = false := HEB.out.symm
        have hple : ¬ (p.length : Int) < l.length := by simp at hpl; omega
        have hple2 : ¬ p.length < l.length := by omega
        clear hn0
        go_quiet (fail)
        replace h9 := h9.drewN nq
        generalize w8.drewN nq = wq at *
        go_wp2_with fail
        go_meet
        case rel => exact ⟨rfl, h9⟩
      | cons y r =>
        have hple : (p.length : Int) < l.length := by simp at hpl; omega
        have hpn : p.length < l.length := by omega
        obtain ⟨g, og, rfl, hg⟩ := rdr_at (HR.out (.slice a8 u.length c8) u) p.length hpn
        have hy : l[p.length] = y := by
          have := HL.out
          subst this
          simp
        rw [hy] at hg
        obtain ⟨c0, c1⟩ := hg w8 h9
        have hcmp : ((y.1 : Int) == x.1) = decide (y.1 = x.1) := by rw [Bool.eq_iff_iff]; simp
        have heb : decide (y.1 = x.1) = eb := HEB.out
        rw [heb] at hcmp
        clear hg hy heb hn0
        cases eb
        all_goals
          go_quiet (fail)
          replace h9 := h9.drewN nq
          generalize w8.drewN nq = wq at *
          go_wp2_with fail
          go_meet
          case rel => exact ⟨rfl, h9⟩
    case rest => as_aux_lemma =>
      clear h9
      obtain ⟨rfl, h9⟩ := hcut
      have hs2 : ∃ (i : Nat) (tl : List Rw2), i ≤ l.length ∧ l.drop i = tl ∧ cutR x.1 q = tl ∧ i = (if eb = true then p.length + 1 else p.length) := by
        have hd : ∀ z : List Rw2, (p ++ z).drop p.length = z := fun z => by simp
        cases q with
        | nil =>
          have : eb = false := HEB.out.symm
          subst this
          exact ⟨p.length, [], by omega, by rw [HL.out]; simp, rfl, rfl⟩
        | cons y r =>
          have hy : decide (y.1 = x.1) = eb := HEB.out
          cases eb with
          | true =>
            refine ⟨p.length + 1, r, by simp at hpl; omega, ?_, ?_, rfl⟩
            · rw [HL.out, ← List.drop_drop, hd]; rfl
            · show (if y.1 = x.1 then r else y :: r) = r
              rw [if_pos (of_decide_eq_true hy)]
          | false =>
            refine ⟨p.length, y :: r, by omega, by rw [HL.out, hd], ?_, rfl⟩
            show (if y.1 = x.1 then r else y :: r) = y :: r
            rw [if_neg (of_decide_eq_false hy)]
      obtain ⟨i, tl, hil, htl, hct, hi⟩ := hs2
      rw [hct] at HU
      have HI2 := Lib.hid hi
      have hwi : IntKind.i64.wrap ((p.length : Int) + 1) = ((p.length + 1 : Nat) : Int) := by rw [IntWalk.i64_in _ (by omega)]; omega
      clear HEB hct HL hpl hn0 hue hul
      have HT := Lib.hid htl
      have hlen : l.length - i = tl.length := by rw [← htl, List.length_drop]
      have HLEN := Lib.hid hlen
      obtain ⟨pn, hpn⟩ : ∃ pn, p.length = pn := ⟨_, rfl⟩
      have HPN := Lib.hid hpn
      cases eb
      case' true =>
        have hwi2 : IntKind.i64.wrap ((p.length : Int) + 1) = i := by have := HI2.out; rw [if_pos rfl] at this; rw [hwi, this]
        clear hwi htl hi hpn hlen
        go_upto_region 9 with fail
      case' false =>
        have hi2 : p.length = i := by have := HI2.out; rw [if_neg (by decide)] at this; exact this.symm
        clear hwi htl hi hpn hlen
        rw [hi2]
        go_upto_region 9 with fail
      all_goals
        have hic : (i : Int) ≤ c := by omega
        have hil' : (i : Int) ≤ l.length := by omega
        cases tl with
        | nil =>
          have hie : i = l.length := by have := HLEN.out; simp at this; omega
          have hz : l.length - i = 0 := by omega
          cases a
          all_goals
            go_wp2_with (at_builtin; refine wpList_append_sat TRw h9 (.tmp 50) (.tmp 53) _ 0 _ [] rfl rfl rfl rfl rfl (fun h => absurd h (Nat.lt_irrefl 0)) (fun u hu => by simp at hu) (by simp [maxLen]; omega) (by omega) ?_; intro a4 c4 w4 h4)
          all_goals
            have h5 : Sat k w4 (Rws (.slice a4 res.length c4) res * R) := by
              refine Sat.drop (Sat.swap (rws_of h4 ?_ ?_))
              · have e2 : u.length + 0 = res.length := by rw [HU.out]; simp
                exact ⟨by rw [← e2], e2⟩
              · rw [HU.out]; simp [ERw.recs_append]
            have e2 : u.length + 0 = res.length := by rw [HU.out]; simp
            go_ret
            exact ⟨a4, c4, by rw [← e2]; rfl, h5⟩
        | cons z r =>
          have hilt : i < l.length := by have := HLEN.out; simp at this; omega
          obtain ⟨g, og, rfl, hnw⟩ := rdr_news (HR.out (.slice a8 u.length c8) u) h9 i hilt
          rw [HT.out] at hnw
          have HNW := Lib.hid hnw
          clear hnw
          have hilc : i < c := by omega
          have HL2 : Hid ((ERw.recs (z :: r)).length = (l.length - i) * 2) := by unfold Hid; rw [HLEN.out, ERw.recs_len]; rfl
          go_wp2_with (at_builtin; refine wpList_append_sat TRw h9 (.tmp 50) (.tmp 53) (some ⟨g, og + i * 2, none⟩) (l.length - i) (c - i) (ERw.recs (z :: r)) rfl rfl rfl rfl HL2.out (fun _ => ⟨_, rfl, HNW.out⟩) (ERw.recs_ones _) (by simp [maxLen]; omega) (by omega) ?_; intro a4 c4 w4 h4)
          all_goals
            have e2 : u.length + (l.length - i) = res.length := by rw [HU.out, HLEN.out]; simp
            have h5 : Sat k w4 (Rws (.slice a4 res.length c4) res * R) := by
              refine Sat.drop (Sat.swap (rws_of h4 ?_ ?_))
              · exact ⟨by rw [← e2], e2⟩
              · rw [HU.out, ERw.recs_append]
            go_ret
            exact ⟨a4, c4, by rw [← e2]; rfl, h5⟩

end Go.Proofs.Ytoeepbjnbgpmpaa
