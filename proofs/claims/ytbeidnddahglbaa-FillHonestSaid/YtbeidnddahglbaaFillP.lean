/- The law FillHonest: whether a thing that is done is light; what holds of what is kept. -/
import Derived.Test.YtbeidnddahglbaaFillO
import Derived.Deep.CutBlock
import Derived.Deep.DeepCutAuto
namespace Go.Proofs.Ytbeidnddahglbaa
set_option linter.all false
open Go Go.RowKit

def opcs (o : OpF) : Array Value := #[.int .i64 o.kind, .string o.y.db, .string o.y.ro, .int .i64 o.y.fm, .string o.y.nm, .string o.v, .int .i64 o.cl, .slice o.na o.nn o.nc, .int .i64 o.now, .int .i64 o.ep, .slice o.sa o.sn o.sc, .slice o.ia o.ilen o.ic]

def lightOk (v : ByteArray) (names : List ByteArray) : Prop := v.size ≤ 500 ∧ names.length ≤ 12

set_option maxRecDepth 100000 in
set_option maxHeartbeats 4000000 in
theorem light_any (k : Env) (w : World) (R : Assn) (kd : Int) (db ro : ByteArray) (fm : Int) (nm v : ByteArray) (cl : Int) (na : Option Addr) (nc : Nat) (now ep : Int) (sa : Option Addr) (sc : Nat) (ia : Option Addr) (il ic : Nat) (names snames : List ByteArray)
    (z0 : db.size ≤ 140737488351232) (z1 : ro.size ≤ 140737488351232) (z2 : nm.size ≤ 140737488351232) (z3 : v.size ≤ 140737488351232) (hr : Rd k R na names) (hi : Rd k R sa snames) (h : Sat k w R) :
    Calls Try.prog 8 #[.agg #[.int .i64 kd, .string db, .string ro, .int .i64 fm, .string nm, .string v, .int .i64 cl, .slice na names.length nc, .int .i64 now, .int .i64 ep, .slice sa snames.length sc, .slice ia il ic]] w fun e w' => ∃ t : Bool, e = .returned (.bool t) ∧ (t = true → lightOk v names) ∧ Sat k w' R := by
  have h0 := h.alloc (.cells #[.int .i64 kd, .string db, .string ro, .int .i64 fm, .string nm, .string v, .int .i64 cl, .slice na names.length nc, .int .i64 now, .int .i64 ep, .slice sa snames.length sc, .slice ia il ic] 34)
  have HR := Lib.hid hr
  have HI := Lib.hid hi
  have hw1 : IntKind.i64.wrap ((db.size : Int) + ro.size) = db.size + ro.size := IntWalk.i64_in _ (by omega)
  have hw2 : IntKind.i64.wrap ((db.size : Int) + ro.size + nm.size) = db.size + ro.size + nm.size := IntWalk.i64_in _ (by omega)
  have hw3 : IntKind.i64.wrap ((db.size : Int) + ro.size + nm.size + v.size) = db.size + ro.size + nm.size + v.size := IntWalk.i64_in _ (by omega)
  clear h hr hi
  go_enter Try.func8, Try.ntmps8
  go_upto_region 1 with fail
  generalize w.alloc (.cells #[.int .i64 kd, .string db, .string ro, .int .i64 fm, .string nm, .string v, .int .i64 cl, .slice na names.length nc, .int .i64 now, .int .i64 ep, .slice sa snames.length sc, .slice ia il ic] 34) = w0 at *
  generalize w.heap.size = o1 at *
  have c1 : w0.cell? ⟨o1, 1, none⟩ = some (.string db) := h0.cell 1
  have c2 : w0.cell? ⟨o1, 2, none⟩ = some (.string ro) := h0.cell 2
  have c4 : w0.cell? ⟨o1, 4, none⟩ = some (.string nm) := h0.cell 4
  have c5 : w0.cell? ⟨o1, 5, none⟩ = some (.string v) := h0.cell 5
  have c7 : w0.cell? ⟨o1, 7, none⟩ = some (.slice na names.length nc) := h0.cell 7
  have c10 : w0.cell? ⟨o1, 10, none⟩ = some (.slice sa snames.length sc) := h0.cell 10
  have c11 : w0.cell? ⟨o1, 11, none⟩ = some (.slice ia il ic) := h0.cell 11
  have NO : ∀ (q : Prop), Hid (∀ t : Bool, t = false → (t = true → q)) := fun q t ht h => by rw [ht] at h; cases h
  by_cases k1 : db.size + ro.size + nm.size + v.size ≤ 500
  · have k1' : ¬ (500 : Int) < db.size + ro.size + nm.size + v.size := by omega
    by_cases k2 : names.length ≤ 12
    · have k2' : ¬ (12 : Int) < names.length := by omega
      by_cases k3 : snames.length ≤ 12
      · have k3' : ¬ (12 : Int) < snames.length := by omega
        by_cases k4 : il ≤ 12
        · have k4' : ¬ (12 : Int) < il := by omega
          go_wp2_with fail
          go_loopw [3] (fun i wr => ∃ j : Nat, j ≤ names.length ∧ i = .int .i64 j ∧ Sat k wr (blk o1 (.cells #[.int .i64 kd, .string db, .string ro, .int .i64 fm, .string nm, .string v, .int .i64 cl, .slice na names.length nc, .int .i64 now, .int .i64 ep, .slice sa snames.length sc, .slice ia il ic] 34 (0, 0)) * R)) (fun i _ => names.length - (intOf i).toNat)
          case atStart => exact ⟨0, Nat.zero_le _, rfl, h0⟩
          case round =>
            clear h0 c1 c2 c4 c5 c7 c10 c11
            obtain ⟨j, hj, rfl, hs⟩ := hrel
            have c7 : wr.cell? ⟨o1, 7, none⟩ = some (.slice na names.length nc) := hs.cell 7
            by_cases hlt : j < names.length
            · have hlt' : (j : Int) < names.length := by omega
              obtain ⟨g, o, rfl, d⟩ := rd_get HR.out hs.drop j hlt
              generalize names[j] = x at *
              by_cases kx : x.size ≤ 100
              · have kx' : ¬ (100 : Int) < x.size := by omega
                go_wp2_with fail
                go_roundw
                case rel => exact ⟨j + 1, by omega, by go_num, hs⟩
                case measure => simp [intOf]; omega
              · have kx' : (100 : Int) < x.size := by omega
                go_wp2_with fail
                go_ret
                first | exact ⟨false, rfl, fun q => (by cases q), hs.drop⟩ | exact .inl ⟨rfl, hs.drop⟩
            · have hjl : j = names.length := by omega
              subst hjl
              have c10 : wr.cell? ⟨o1, 10, none⟩ = some (.slice sa snames.length sc) := hs.cell 10
              go_wp2_with fail
              go_loopw [4] (fun i wr => ∃ j : Nat, j ≤ snames.length ∧ i = .int .i64 j ∧ Sat k wr (blk o1 (.cells #[.int .i64 kd, .string db, .string ro, .int .i64 fm, .string nm, .string v, .int .i64 cl, .slice na names.length nc, .int .i64 now, .int .i64 ep, .slice sa snames.length sc, .slice ia il ic] 34 (0, 0)) * R)) (fun i _ => snames.length - (intOf i).toNat)
              case atStart => exact ⟨0, Nat.zero_le _, rfl, hs⟩
              case round =>
                clear hs c7 c10
                obtain ⟨j, hj, rfl, hs⟩ := hrel
                have c10 : wr.cell? ⟨o1, 10, none⟩ = some (.slice sa snames.length sc) := hs.cell 10
                by_cases hlt : j < snames.length
                · have hlt' : (j : Int) < snames.length := by omega
                  obtain ⟨g, o, rfl, d⟩ := rd_get HI.out hs.drop j hlt
                  generalize snames[j] = x at *
                  by_cases kx : x.size ≤ 100
                  · have kx' : ¬ (100 : Int) < x.size := by omega
                    go_wp2_with fail
                    go_roundw
                    case rel => exact ⟨j + 1, by omega, by go_num, hs⟩
                    case measure => simp [intOf]; omega
                  · have kx' : (100 : Int) < x.size := by omega
                    go_wp2_with fail
                    go_ret
                    first | exact ⟨false, rfl, fun q => (by cases q), hs.drop⟩ | exact .inl ⟨rfl, hs.drop⟩
                · have hjl : j = snames.length := by omega
                  subst hjl
                  go_wp2_with fail
                  go_ret
                  first | exact ⟨true, rfl, fun _ => ⟨by omega, k2⟩, hs.drop⟩ | exact .inr ⟨rfl, ⟨by omega, k2⟩, hs.drop⟩
        · have k4' : (12 : Int) < il := by omega
          go_wp2_with fail
          go_ret
          first | exact ⟨false, rfl, fun q => (by cases q), h0.drop⟩ | exact .inl ⟨rfl, h0.drop⟩
      · have k3' : (12 : Int) < snames.length := by omega
        go_wp2_with fail
        go_ret
        first | exact ⟨false, rfl, fun q => (by cases q), h0.drop⟩ | exact .inl ⟨rfl, h0.drop⟩
    · have k2' : (12 : Int) < names.length := by omega
      go_wp2_with fail
      go_ret
      first | exact ⟨false, rfl, fun q => (by cases q), h0.drop⟩ | exact .inl ⟨rfl, h0.drop⟩
  · have k1' : (500 : Int) < db.size + ro.size + nm.size + v.size := by omega
    go_wp2_with fail
    go_ret
    first | exact ⟨false, rfl, fun q => (by cases q), h0.drop⟩ | exact .inl ⟨rfl, h0.drop⟩

end Go.Proofs.Ytbeidnddahglbaa
