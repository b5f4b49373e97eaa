/- What the law FillHonest is handed: things that are done; whether they are light; whether names meet. -/
import Derived.Test.YtbeidnddahglbaaFillK
import Derived.Test.YtbeidnddahglbaaStrsW
import Derived.Test.YtbeidnddahglbaaCacheL
namespace Go.Proofs.Ytbeidnddahglbaa
set_option linter.all false
open Go Go.RowKit

set_option maxHeartbeats 1000000 in
theorem in_any (k : Env) (w : World) (R : Assn) (a : Option Addr) (cap : Nat) (l : List ByteArray) (s : ByteArray) (hr : Rd k R a l) (hn : l.length ≤ 1000000000) (h : Sat k w R) :
    Calls Try.prog 34 #[.slice a l.length cap, .string s] w fun e w' => e = .returned (.bool (memB s l)) ∧ Sat k w' R := by
  have HR := Lib.hid hr
  clear hr
  go_enter Try.func34, Try.ntmps34
  go_wp2_with fail
  go_loopw [5] (fun i wr => ∃ j : Nat, j ≤ l.length ∧ i = .int .i64 j ∧ Hid (memB s (l.take j) = false) ∧ Sat k wr R) (fun i _ => l.length - (intOf i).toNat)
  case atStart => exact ⟨0, Nat.zero_le _, rfl, rfl, h⟩
  case round =>
    clear h
    obtain ⟨j, hj, rfl, HB, hs⟩ := hrel
    by_cases hlt : j < l.length
    · have hlt' : (j : Int) < l.length := by omega
      obtain ⟨g, o, rfl, d⟩ := rd_get HR.out hs j hlt
      have HSN : Hid (memB s (l.take (j + 1)) = (memB s (l.take j) || decide (l[j] = s))) := by
        have hsn : l.take (j + 1) = l.take j ++ [l[j]] := by rw [List.take_succ]; simp [hlt]
        unfold Hid; rw [hsn, memB_snoc]
      have HM : Hid (l[j] ∈ l) := List.getElem_mem hlt
      generalize l[j] = x at *
      have hcmp : (x.toList == s.toList) = decide (x = s) := tl_beq _ _
      by_cases hx : x = s
      · rw [decide_eq_true hx] at hcmp
        have HX := Lib.hid hx
        clear hx
        have HT : Hid (memB s l = true) := by
          have h1 := HM.out
          have h2 := HX.out
          rw [h2] at h1
          exact memB_iff.2 h1
        go_wp2_with fail
        go_ret
        exact ⟨by rw [HT.out]; rfl, hs⟩
      · rw [decide_eq_false hx] at hcmp
        rw [decide_eq_false hx] at HSN
        have HX := Lib.hid hx
        clear hx
        go_wp2_with fail
        go_roundw
        case rel => exact ⟨j + 1, by omega, by go_num, by unfold Hid; rw [HSN.out, HB.out]; rfl, hs⟩
        case measure => simp [intOf]; omega
    · have hjl : j = l.length := by omega
      subst hjl
      rw [List.take_length] at HB
      go_wp2_with fail
      go_ret
      exact ⟨by rw [HB.out]; rfl, hs⟩

def meetB (la lb : List ByteArray) : Bool := la.any fun x => memB x lb
theorem meetB_snoc (la lb : List ByteArray) (x : ByteArray) : meetB (la ++ [x]) lb = (meetB la lb || memB x lb) := by simp [meetB]
theorem meetB_iff {la lb : List ByteArray} : meetB la lb = true ↔ ∃ x ∈ la, x ∈ lb := by simp [meetB, memB_iff]

set_option maxHeartbeats 1000000 in
theorem meets_any (k : Env) (w : World) (R : Assn) (a : Option Addr) (cap : Nat) (la : List ByteArray) (b : Option Addr) (cb : Nat) (lb : List ByteArray) (ha : Rd k R a la) (hb : Rd k R b lb) (hn : la.length ≤ 1000000000) (hm : lb.length ≤ 1000000000) (h : Sat k w R) :
    Calls Try.prog 13 #[.slice a la.length cap, .slice b lb.length cb] w fun e w' => e = .returned (.bool (meetB la lb)) ∧ Sat k w' R := by
  have HR := Lib.hid ha
  have C := Lib.hid (fun w' s h' => in_any k w' R b cb lb s hb hm h')
  clear ha hb
  go_enter Try.func13, Try.ntmps13
  go_wp2_with fail
  go_loopw [5] (fun i wr => ∃ j : Nat, j ≤ la.length ∧ i = .int .i64 j ∧ Hid (meetB (la.take j) lb = false) ∧ Sat k wr R) (fun i _ => la.length - (intOf i).toNat)
  case atStart => exact ⟨0, Nat.zero_le _, rfl, rfl, h⟩
  case round =>
    clear h
    obtain ⟨j, hj, rfl, HB, hs⟩ := hrel
    by_cases hlt : j < la.length
    · have hlt' : (j : Int) < la.length := by omega
      obtain ⟨g, o, rfl, d⟩ := rd_get HR.out hs j hlt
      have HSN : Hid (meetB (la.take (j + 1)) lb = (meetB (la.take j) lb || memB la[j] lb)) := by
        have hsn : la.take (j + 1) = la.take j ++ [la[j]] := by rw [List.take_succ]; simp [hlt]
        unfold Hid; rw [hsn, meetB_snoc]
      have HM : Hid (la[j] ∈ la) := List.getElem_mem hlt
      generalize la[j] = x at *
      cases hx : memB x lb with
      | true =>
        have HT : Hid (meetB la lb = true) := meetB_iff.2 ⟨x, HM.out, memB_iff.1 hx⟩
        have HX := Lib.hid hx
        clear hx
        have CC := C.out wr x hs
        rw [HX.out] at CC
        go_wp2_with fail
        refine CC.mono ?_
        rintro e w2 ⟨rfl, h2⟩
        go_wp2_with fail
        go_ret
        exact ⟨by rw [HT.out]; rfl, h2⟩
      | false =>
        rw [hx] at HSN
        have HX := Lib.hid hx
        clear hx
        have CC := C.out wr x hs
        rw [HX.out] at CC
        go_wp2_with fail
        refine CC.mono ?_
        rintro e w2 ⟨rfl, h2⟩
        go_wp2_with fail
        go_roundw
        case rel => exact ⟨j + 1, by omega, by go_num, by unfold Hid; rw [HSN.out, HB.out]; rfl, h2⟩
        case measure => simp [intOf]; omega
    · have hjl : j = la.length := by omega
      subst hjl
      rw [List.take_length] at HB
      go_wp2_with fail
      go_ret
      exact ⟨by rw [HB.out]; rfl, hs⟩

/-- Something that is done, as it came in. -/
structure OpF where
  kind : Int
  y : Ky
  v : ByteArray
  cl : Int
  na : Option Addr
  nn : Nat
  nc : Nat
  now : Int
  ep : Int
  sa : Option Addr
  sn : Nat
  sc : Nat
  ia : Option Addr
  ilen : Nat
  ic : Nat
def opf (o : OpF) : List Value := [.int .i64 o.kind, .string o.y.db, .string o.y.ro, .int .i64 o.y.fm, .string o.y.nm, .string o.v, .int .i64 o.cl, .slice o.na o.nn o.nc, .int .i64 o.now, .int .i64 o.ep, .slice o.sa o.sn o.sc, .slice o.ia o.ilen o.ic]
def okOpF (W : World) (cs : List Value) : Prop := ∃ o : OpF, cs = opf o ∧ okKy o.y ∧ o.v.size ≤ 140737488351232 ∧ (∃ xs, IsRecs W o.na o.nn o.nc 1 okStr xs) ∧ ∃ xs, IsRecs W o.sa o.sn o.sc 1 okStr xs

section
variable {H : Type} {enc : TypeId × Value → H} {P : Program} {w : World} {base : Nat} {spare : Nat → Bool} {held : Bool}
theorem trod_struct3 {t : TypeId} {f0 f1 f2 : Field} {fuel : Nat} {cs : List Value} {x : DataW H × List MemPlace} (ht : P.underlying t = some (.struct #[f0, f1, f2])) (h : DataW.trod enc P w base spare held fuel t cs = some x) :
    ∃ y0 y1 y2 n, x.1 = .agg [y0.1, y1.1, y2.1] ∧ cs.length = P.cellsOf t ∧ DataW.trod enc P w base spare held n f0.type ((cs.drop f0.offset).take (P.cellsOf f0.type)) = some y0 ∧
      DataW.trod enc P w base spare held n f1.type ((cs.drop f1.offset).take (P.cellsOf f1.type)) = some y1 ∧ DataW.trod enc P w base spare held n f2.type ((cs.drop f2.offset).take (P.cellsOf f2.type)) = some y2 := by
  obtain ⟨xs, n, _, rfl, hl, hlen, hf⟩ := DataW.trod_struct ht h
  match xs, hlen with
  | [y0, y1, y2], _ => exact ⟨y0, y1, y2, n, rfl, hl, by simpa using hf 0 f0 rfl, by simpa using hf 1 f1 rfl, by simpa using hf 2 f2 rfl⟩
theorem trod_struct7 {t : TypeId} {f0 f1 f2 f3 f4 f5 f6 : Field} {fuel : Nat} {cs : List Value} {x : DataW H × List MemPlace} (ht : P.underlying t = some (.struct #[f0, f1, f2, f3, f4, f5, f6])) (h : DataW.trod enc P w base spare held fuel t cs = some x) :
    ∃ y0 y1 y2 y3 y4 y5 y6 n, x.1 = .agg [y0.1, y1.1, y2.1, y3.1, y4.1, y5.1, y6.1] ∧ cs.length = P.cellsOf t ∧ DataW.trod enc P w base spare held n f0.type ((cs.drop f0.offset).take (P.cellsOf f0.type)) = some y0 ∧
      DataW.trod enc P w base spare held n f1.type ((cs.drop f1.offset).take (P.cellsOf f1.type)) = some y1 ∧ DataW.trod enc P w base spare held n f2.type ((cs.drop f2.offset).take (P.cellsOf f2.type)) = some y2 ∧
      DataW.trod enc P w base spare held n f3.type ((cs.drop f3.offset).take (P.cellsOf f3.type)) = some y3 ∧ DataW.trod enc P w base spare held n f4.type ((cs.drop f4.offset).take (P.cellsOf f4.type)) = some y4 ∧
      DataW.trod enc P w base spare held n f5.type ((cs.drop f5.offset).take (P.cellsOf f5.type)) = some y5 ∧ DataW.trod enc P w base spare held n f6.type ((cs.drop f6.offset).take (P.cellsOf f6.type)) = some y6 := by
  obtain ⟨xs, n, _, rfl, hl, hlen, hf⟩ := DataW.trod_struct ht h
  match xs, hlen with
  | [y0, y1, y2, y3, y4, y5, y6], _ => exact ⟨y0, y1, y2, y3, y4, y5, y6, n, rfl, hl, by simpa using hf 0 f0 rfl, by simpa using hf 1 f1 rfl, by simpa using hf 2 f2 rfl, by simpa using hf 3 f3 rfl, by simpa using hf 4 f4 rfl, by simpa using hf 5 f5 rfl, by simpa using hf 6 f6 rfl⟩
end
theorem slice_cell {H : Type} {enc : TypeId × Value → H} {P : Program} {w : World} {held : Bool} {t e : TypeId} {fuel : Nat} {cs : List Value} {x : DataW H × List MemPlace} (ht : P.underlying t = some (.slice e)) (h : DataW.trod enc P w 0 (fun _ => true) held fuel t cs = some x) : ∃ a len cap, cs = [.slice a len cap] := by
  rcases Deep.open_slice ht h with ⟨rfl, _⟩ | ⟨a, len, cap, _, _, _, _, rfl, _⟩
  · exact ⟨_, _, _, rfl⟩
  · exact ⟨_, _, _, rfl⟩
theorem len12 {α : Type} {l : List α} (h : l.length = 12) : ∃ a b c d e f g h i j k m, l = [a, b, c, d, e, f, g, h, i, j, k, m] := by
  match l, h with
  | [a, b, c, d, e, f, g, h, i, j, k, m], _ => exact ⟨a, b, c, d, e, f, g, h, i, j, k, m, rfl⟩

set_option maxRecDepth 100000 in
theorem openOp {H : Type} {enc : TypeId × Value → H} {W : World} {a : Option Addr} {len cap : Nat} {d : DataW H} {p : List MemPlace} {held : Bool} (hw : okWt Try.prog 22 d)
    (h : DataW.Trod enc Try.prog W 0 (fun _ => true) held 22 (.slice a len cap) d p) : ∃ xs, IsRecs W a len cap 12 (okOpF W) xs := by
  refine isRecs_openW Try.underlying22 (by kernel_rfl) (fun fuel cs x hx hwx => ?_) hw h
  obtain ⟨y0, y1, y2, y3, y4, y5, y6, n, hx1, hl, h0, h1, h2, h3, h4, h5, h6⟩ := trod_struct7 Try.underlying34 hx
  rw [hx1] at hwx
  obtain ⟨a0, e0, _, _⟩ := DataW.trod_int Try.underlying3 h0
  obtain ⟨z, e1, ok⟩ := openKy h1 (wt_part Try.underlying34 hwx (i := 1) rfl rfl)
  obtain ⟨b, e2, g2, _⟩ := DataW.trod_string Try.underlying9 h2
  obtain ⟨a3, e3, _, _⟩ := DataW.trod_int Try.underlying3 h3
  obtain ⟨na, nn, nc, e4⟩ := slice_cell Try.underlying27 h4
  obtain ⟨a5, e5, _, _⟩ := DataW.trod_int Try.underlying3 h5
  obtain ⟨u0, u1, u2, n2, hu, hl2, k0, k1, k2⟩ := trod_struct3 Try.underlying32 h6
  obtain ⟨a6, e6, _, _⟩ := DataW.trod_int Try.underlying3 k0
  obtain ⟨sa, sn, sc, e7⟩ := slice_cell Try.underlying27 k1
  obtain ⟨ia, il, ic, e8⟩ := slice_cell Try.underlying28 k2
  subst g2
  have s2 := wt_string (wt_part Try.underlying34 hwx (i := 2) rfl rfl)
  have wn := wt_part Try.underlying34 hwx (i := 4) rfl rfl
  have wst := wt_part Try.underlying34 hwx (i := 6) rfl rfl
  rw [hu] at wst
  have wsn := wt_part Try.underlying32 wst (i := 1) rfl rfl
  rw [e4] at h4
  rw [e7] at k1
  have o4 := openStrs wn ⟨_, h4⟩
  have o7 := openStrs wsn ⟨_, k1⟩
  have hc : Try.prog.cellsOf 34 = 12 := by kernel_rfl
  have hi : Try.prog.cellsOf 3 = 1 := by kernel_rfl
  have hs : Try.prog.cellsOf 9 = 1 := by kernel_rfl
  have hk : Try.prog.cellsOf 30 = 4 := by kernel_rfl
  have hsl : Try.prog.cellsOf 27 = 1 := by kernel_rfl
  have hil : Try.prog.cellsOf 28 = 1 := by kernel_rfl
  have hst : Try.prog.cellsOf 32 = 3 := by kernel_rfl
  rw [hc] at hl
  simp only [hi, hs, hk, hsl, hil, hst] at e0 e1 e2 e3 e4 e5 e6 e7 e8
  clear h0 h1 h2 h3 h4 h5 h6 k0 k1 k2 hx hwx hx1 h hw wn wst wsn hu hl2
  obtain ⟨c0, c1, c2, c3, c4, c5, c6, c7, c8, c9, c10, c11, rfl⟩ := len12 hl
  have e0' : c0 = _ := List.head_eq_of_cons_eq e0
  have e1' : [c1, c2, c3, c4] = kyc z := e1
  have e2' : c5 = _ := List.head_eq_of_cons_eq e2
  have e3' : c6 = _ := List.head_eq_of_cons_eq e3
  have e4' : c7 = _ := List.head_eq_of_cons_eq e4
  have e5' : c8 = _ := List.head_eq_of_cons_eq e5
  have e6' : c9 = _ := List.head_eq_of_cons_eq e6
  have e7' : c10 = _ := List.head_eq_of_cons_eq e7
  have e8' : c11 = _ := List.head_eq_of_cons_eq e8
  simp only [kyc, List.cons.injEq, and_true] at e1'
  obtain ⟨rfl, rfl, rfl, rfl⟩ := e1'
  subst e0' e2' e3' e4' e5' e6' e7' e8'
  exact ⟨⟨a0, z, b, a3, na, nn, nc, a5, a6, sa, sn, sc, ia, il, ic⟩, rfl, ok, by rw [size_list]; exact s2, o4, o7⟩

end Go.Proofs.Ytbeidnddahglbaa
