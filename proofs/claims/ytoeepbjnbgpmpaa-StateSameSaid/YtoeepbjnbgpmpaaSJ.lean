/- Several texts in one: StFo, StTx. -/
import Derived.Test.YtoeepbjnbgpmpaaSI
namespace Go.Proofs.Ytoeepbjnbgpmpaa
set_option linter.all false
open Go Go.RowKit

/-- A form as it lies. -/
structure FrM where
  kind : Int
  kd : Bool
  a : Option Addr
  c : Nat
  ws : List ByteArray
def FrM.v (f : FrM) : Value := .slice f.a f.ws.length f.c
def frc (f : FrM) : List Value := [.int .i64 f.kind, .bool f.kd, f.v]
def EFr : Enc FrM := ⟨frc, 3, fun _ => rfl, fun x u hu => by simp [frc, FrM.v] at hu; rcases hu with rfl | rfl | rfl <;> rfl⟩
def FrM.p (f : FrM) : Int × Bool × List ByteArray := (f.kind, f.kd, f.ws)
def frR (f : FrM) : Assn := Strs f.v f.ws
def FrO (v : Value) (F : List FrM) : Assn := RecS EFr 54 v F * stars frR F
/-- A form of the document as it lies: its words alone. -/
def EWs : Enc FrM := ⟨fun f => [f.v], 1, fun _ => rfl, fun x u hu => by simp [FrM.v] at hu; subst hu; rfl⟩
def WsO (v : Value) (F : List FrM) : Assn := RecS EWs 52 v F * stars frR F
abbrev fmL : List (Int × Bool × List ByteArray) := [(1, false, [⟨#[115, 101, 108, 101, 99, 116]⟩, ⟨#[42]⟩, ⟨#[102, 114, 111, 109]⟩, ⟨#[84]⟩]), (1, true, [⟨#[115, 101, 108, 101, 99, 116]⟩, ⟨#[42]⟩, ⟨#[102, 114, 111, 109]⟩, ⟨#[84]⟩, ⟨#[119, 104, 101, 114, 101]⟩, ⟨#[107]⟩, ⟨#[61]⟩, ⟨#[75]⟩]), (2, true, [⟨#[105, 110, 115, 101, 114, 116]⟩, ⟨#[105, 110, 116, 111]⟩, ⟨#[84]⟩, ⟨#[118, 97, 108, 117, 101, 115]⟩, ⟨#[40]⟩, ⟨#[75]⟩, ⟨#[44]⟩, ⟨#[86]⟩, ⟨#[41]⟩]), (3, true, [⟨#[117, 112, 100, 97, 116, 101]⟩, ⟨#[84]⟩, ⟨#[115, 101, 116]⟩, ⟨#[118]⟩, ⟨#[61]⟩, ⟨#[118]⟩, ⟨#[43]⟩, ⟨#[49]⟩, ⟨#[119, 104, 101, 114, 101]⟩, ⟨#[107]⟩, ⟨#[61]⟩, ⟨#[75]⟩]), (4, false, [⟨#[100, 101, 108, 101, 116, 101]⟩, ⟨#[102, 114, 111, 109]⟩, ⟨#[84]⟩]), (4, true, [⟨#[100, 101, 108, 101, 116, 101]⟩, ⟨#[102, 114, 111, 109]⟩, ⟨#[84]⟩, ⟨#[119, 104, 101, 114, 101]⟩, ⟨#[107]⟩, ⟨#[61]⟩, ⟨#[75]⟩]), (5, false, [⟨#[99, 114, 101, 97, 116, 101]⟩, ⟨#[116, 97, 98, 108, 101]⟩, ⟨#[84]⟩])]
theorem strs_lay {k : Env} {w : World} {R : Assn} (l : List ByteArray) (cs : Array Value) (hcs : cs = (strs l).toArray) (hl : l.length ≤ maxLen) (h : Sat k w R) (g : Nat) (hg : w.heap.size = g) :
    Sat k (w.alloc (.cells cs 9)) (Strs (.slice (some ⟨g, 0, none⟩) l.length l.length) l * R) := by
  subst hg hcs
  exact own_mk (h.alloc _) (Nat.le_refl _) hl (by simp [strs]) (by simp [strs]) (List.take_of_length_le (by simp [strs]))

set_option maxRecDepth 100000 in
set_option maxHeartbeats 8000000 in
theorem forms_any (k : Env) (w : World) (R : Assn) (h : Sat k w R) :
    Calls Try.prog 27 #[] w fun e w' => ∃ v c F, e = .returned (.slice v F.length c) ∧ F.map FrM.p = fmL ∧ Sat k w' (FrO (.slice v F.length c) F * R) := by
  have h1 := strs_lay ([⟨#[115, 101, 108, 101, 99, 116]⟩, ⟨#[42]⟩, ⟨#[102, 114, 111, 109]⟩, ⟨#[84]⟩] : List ByteArray) (#[.string ⟨#[115, 101, 108, 101, 99, 116]⟩, .string ⟨#[42]⟩, .string ⟨#[102, 114, 111, 109]⟩, .string ⟨#[84]⟩] : Array Value) rfl (by decide) h (w.heap.size) (by first | rfl | simp)
  have h2 := strs_lay ([⟨#[115, 101, 108, 101, 99, 116]⟩, ⟨#[42]⟩, ⟨#[102, 114, 111, 109]⟩, ⟨#[84]⟩, ⟨#[119, 104, 101, 114, 101]⟩, ⟨#[107]⟩, ⟨#[61]⟩, ⟨#[75]⟩] : List ByteArray) (#[.string ⟨#[115, 101, 108, 101, 99, 116]⟩, .string ⟨#[42]⟩, .string ⟨#[102, 114, 111, 109]⟩, .string ⟨#[84]⟩, .string ⟨#[119, 104, 101, 114, 101]⟩, .string ⟨#[107]⟩, .string ⟨#[61]⟩, .string ⟨#[75]⟩] : Array Value) rfl (by decide) h1 (w.heap.size + 1) (by first | rfl | simp)
  have h3 := strs_lay ([⟨#[105, 110, 115, 101, 114, 116]⟩, ⟨#[105, 110, 116, 111]⟩, ⟨#[84]⟩, ⟨#[118, 97, 108, 117, 101, 115]⟩, ⟨#[40]⟩, ⟨#[75]⟩, ⟨#[44]⟩, ⟨#[86]⟩, ⟨#[41]⟩] : List ByteArray) (#[.string ⟨#[105, 110, 115, 101, 114, 116]⟩, .string ⟨#[105, 110, 116, 111]⟩, .string ⟨#[84]⟩, .string ⟨#[118, 97, 108, 117, 101, 115]⟩, .string ⟨#[40]⟩, .string ⟨#[75]⟩, .string ⟨#[44]⟩, .string ⟨#[86]⟩, .string ⟨#[41]⟩] : Array Value) rfl (by decide) h2 (w.heap.size + 1 + 1) (by first | rfl | simp)
  have h4 := strs_lay ([⟨#[117, 112, 100, 97, 116, 101]⟩, ⟨#[84]⟩, ⟨#[115, 101, 116]⟩, ⟨#[118]⟩, ⟨#[61]⟩, ⟨#[118]⟩, ⟨#[43]⟩, ⟨#[49]⟩, ⟨#[119, 104, 101, 114, 101]⟩, ⟨#[107]⟩, ⟨#[61]⟩, ⟨#[75]⟩] : List ByteArray) (#[.string ⟨#[117, 112, 100, 97, 116, 101]⟩, .string ⟨#[84]⟩, .string ⟨#[115, 101, 116]⟩, .string ⟨#[118]⟩, .string ⟨#[61]⟩, .string ⟨#[118]⟩, .string ⟨#[43]⟩, .string ⟨#[49]⟩, .string ⟨#[119, 104, 101, 114, 101]⟩, .string ⟨#[107]⟩, .string ⟨#[61]⟩, .string ⟨#[75]⟩] : Array Value) rfl (by decide) h3 (w.heap.size + 1 + 1 + 1) (by first | rfl | simp)
  have h5 := strs_lay ([⟨#[100, 101, 108, 101, 116, 101]⟩, ⟨#[102, 114, 111, 109]⟩, ⟨#[84]⟩] : List ByteArray) (#[.string ⟨#[100, 101, 108, 101, 116, 101]⟩, .string ⟨#[102, 114, 111, 109]⟩, .string ⟨#[84]⟩] : Array Value) rfl (by decide) h4 (w.heap.size + 1 + 1 + 1 + 1) (by first | rfl | simp)
  have h6 := strs_lay ([⟨#[100, 101, 108, 101, 116, 101]⟩, ⟨#[102, 114, 111, 109]⟩, ⟨#[84]⟩, ⟨#[119, 104, 101, 114, 101]⟩, ⟨#[107]⟩, ⟨#[61]⟩, ⟨#[75]⟩] : List ByteArray) (#[.string ⟨#[100, 101, 108, 101, 116, 101]⟩, .string ⟨#[102, 114, 111, 109]⟩, .string ⟨#[84]⟩, .string ⟨#[119, 104, 101, 114, 101]⟩, .string ⟨#[107]⟩, .string ⟨#[61]⟩, .string ⟨#[75]⟩] : Array Value) rfl (by decide) h5 (w.heap.size + 1 + 1 + 1 + 1 + 1) (by first | rfl | simp)
  have h7 := strs_lay ([⟨#[99, 114, 101, 97, 116, 101]⟩, ⟨#[116, 97, 98, 108, 101]⟩, ⟨#[84]⟩] : List ByteArray) (#[.string ⟨#[99, 114, 101, 97, 116, 101]⟩, .string ⟨#[116, 97, 98, 108, 101]⟩, .string ⟨#[84]⟩] : Array Value) rfl (by decide) h6 (w.heap.size + 1 + 1 + 1 + 1 + 1 + 1) (by first | rfl | simp)
  have h8 := h7.alloc (.cells #[.int .i64 1, .bool false, .slice (some ⟨w.heap.size, 0, none⟩) 4 4, .int .i64 1, .bool true, .slice (some ⟨w.heap.size + 1, 0, none⟩) 8 8, .int .i64 2, .bool true, .slice (some ⟨w.heap.size + 1 + 1, 0, none⟩) 9 9, .int .i64 3, .bool true, .slice (some ⟨w.heap.size + 1 + 1 + 1, 0, none⟩) 12 12, .int .i64 4, .bool false, .slice (some ⟨w.heap.size + 1 + 1 + 1 + 1, 0, none⟩) 3 3, .int .i64 4, .bool true, .slice (some ⟨w.heap.size + 1 + 1 + 1 + 1 + 1, 0, none⟩) 7 7, .int .i64 5, .bool false, .slice (some ⟨w.heap.size + 1 + 1 + 1 + 1 + 1 + 1, 0, none⟩) 3 3] 54)
  have hsz : (((((((w.alloc (.cells #[.string ⟨#[115, 101, 108, 101, 99, 116]⟩, .string ⟨#[42]⟩, .string ⟨#[102, 114, 111, 109]⟩, .string ⟨#[84]⟩] 9)).alloc (.cells #[.string ⟨#[115, 101, 108, 101, 99, 116]⟩, .string ⟨#[42]⟩, .string ⟨#[102, 114, 111, 109]⟩, .string ⟨#[84]⟩, .string ⟨#[119, 104, 101, 114, 101]⟩, .string ⟨#[107]⟩, .string ⟨#[61]⟩, .string ⟨#[75]⟩] 9)).alloc (.cells #[.string ⟨#[105, 110, 115, 101, 114, 116]⟩, .string ⟨#[105, 110, 116, 111]⟩, .string ⟨#[84]⟩, .string ⟨#[118, 97, 108, 117, 101, 115]⟩, .string ⟨#[40]⟩, .string ⟨#[75]⟩, .string ⟨#[44]⟩, .string ⟨#[86]⟩, .string ⟨#[41]⟩] 9)).alloc (.cells #[.string ⟨#[117, 112, 100, 97, 116, 101]⟩, .string ⟨#[84]⟩, .string ⟨#[115, 101, 116]⟩, .string ⟨#[118]⟩, .string ⟨#[61]⟩, .string ⟨#[118]⟩, .string ⟨#[43]⟩, .string ⟨#[49]⟩, .string ⟨#[119, 104, 101, 114, 101]⟩, .string ⟨#[107]⟩, .string ⟨#[61]⟩, .string ⟨#[75]⟩] 9)).alloc (.cells #[.string ⟨#[100, 101, 108, 101, 116, 101]⟩, .string ⟨#[102, 114, 111, 109]⟩, .string ⟨#[84]⟩] 9)).alloc (.cells #[.string ⟨#[100, 101, 108, 101, 116, 101]⟩, .string ⟨#[102, 114, 111, 109]⟩, .string ⟨#[84]⟩, .string ⟨#[119, 104, 101, 114, 101]⟩, .string ⟨#[107]⟩, .string ⟨#[61]⟩, .string ⟨#[75]⟩] 9)).alloc (.cells #[.string ⟨#[99, 114, 101, 97, 116, 101]⟩, .string ⟨#[116, 97, 98, 108, 101]⟩, .string ⟨#[84]⟩] 9)).heap.size = w.heap.size + 1 + 1 + 1 + 1 + 1 + 1 + 1 := by simp
  rw [hsz] at h8
  obtain ⟨F, hF⟩ : ∃ F : List FrM, F = [⟨1, false, some ⟨w.heap.size, 0, none⟩, 4, [⟨#[115, 101, 108, 101, 99, 116]⟩, ⟨#[42]⟩, ⟨#[102, 114, 111, 109]⟩, ⟨#[84]⟩]⟩, ⟨1, true, some ⟨w.heap.size + 1, 0, none⟩, 8, [⟨#[115, 101, 108, 101, 99, 116]⟩, ⟨#[42]⟩, ⟨#[102, 114, 111, 109]⟩, ⟨#[84]⟩, ⟨#[119, 104, 101, 114, 101]⟩, ⟨#[107]⟩, ⟨#[61]⟩, ⟨#[75]⟩]⟩, ⟨2, true, some ⟨w.heap.size + 1 + 1, 0, none⟩, 9, [⟨#[105, 110, 115, 101, 114, 116]⟩, ⟨#[105, 110, 116, 111]⟩, ⟨#[84]⟩, ⟨#[118, 97, 108, 117, 101, 115]⟩, ⟨#[40]⟩, ⟨#[75]⟩, ⟨#[44]⟩, ⟨#[86]⟩, ⟨#[41]⟩]⟩, ⟨3, true, some ⟨w.heap.size + 1 + 1 + 1, 0, none⟩, 12, [⟨#[117, 112, 100, 97, 116, 101]⟩, ⟨#[84]⟩, ⟨#[115, 101, 116]⟩, ⟨#[118]⟩, ⟨#[61]⟩, ⟨#[118]⟩, ⟨#[43]⟩, ⟨#[49]⟩, ⟨#[119, 104, 101, 114, 101]⟩, ⟨#[107]⟩, ⟨#[61]⟩, ⟨#[75]⟩]⟩, ⟨4, false, some ⟨w.heap.size + 1 + 1 + 1 + 1, 0, none⟩, 3, [⟨#[100, 101, 108, 101, 116, 101]⟩, ⟨#[102, 114, 111, 109]⟩, ⟨#[84]⟩]⟩, ⟨4, true, some ⟨w.heap.size + 1 + 1 + 1 + 1 + 1, 0, none⟩, 7, [⟨#[100, 101, 108, 101, 116, 101]⟩, ⟨#[102, 114, 111, 109]⟩, ⟨#[84]⟩, ⟨#[119, 104, 101, 114, 101]⟩, ⟨#[107]⟩, ⟨#[61]⟩, ⟨#[75]⟩]⟩, ⟨5, false, some ⟨w.heap.size + 1 + 1 + 1 + 1 + 1 + 1, 0, none⟩, 3, [⟨#[99, 114, 101, 97, 116, 101]⟩, ⟨#[116, 97, 98, 108, 101]⟩, ⟨#[84]⟩]⟩] := ⟨_, rfl⟩
  have h9 := own_mk (n := 7) (xs := EFr.recs F) (size := 3) (cap := 7) h8 (Nat.le_refl _) (by decide) (Nat.le_refl _) (by rw [hF]; rfl) (by rw [hF]; rfl)
  have h10 := h9.of_eq (show _ = FrO (.slice (some ⟨w.heap.size + 1 + 1 + 1 + 1 + 1 + 1 + 1, 0, none⟩) F.length 7) F * R by
    rw [hF]
    unfold FrO RecS
    simp only [stars, star_emp]
    show Own _ 3 _ 7 _ * _ = Own _ 3 _ 7 _ * (Strs _ _ * (Strs _ _ * (Strs _ _ * (Strs _ _ * (Strs _ _ * (Strs _ _ * Strs _ _)))))) * R
    ac_rfl)
  have hlen : F.length = 7 := by rw [hF]; rfl
  have hp : F.map FrM.p = fmL := by rw [hF]; rfl
  have HL := Lib.hid hlen
  have HPF := Lib.hid hp
  clear h h1 h2 h3 h4 h5 h6 h7 h8 h9 hsz hF hlen hp
  go_enter Try.func27, Try.ntmps27
  go_wp2_with fail
  go_ret
  exact ⟨_, _, F, by rw [HL.out]; rfl, HPF.out, h10⟩

set_option maxRecDepth 100000 in
set_option maxHeartbeats 8000000 in
theorem rforms_any (k : Env) (w : World) (R : Assn) (h : Sat k w R) :
    Calls Try.prog 29 #[] w fun e w' => ∃ v c F, e = .returned (.slice v F.length c) ∧ F.map FrM.p = fmL ∧ Sat k w' (WsO (.slice v F.length c) F * R) := by
  have h1 := strs_lay ([⟨#[115, 101, 108, 101, 99, 116]⟩, ⟨#[42]⟩, ⟨#[102, 114, 111, 109]⟩, ⟨#[84]⟩] : List ByteArray) (#[.string ⟨#[115, 101, 108, 101, 99, 116]⟩, .string ⟨#[42]⟩, .string ⟨#[102, 114, 111, 109]⟩, .string ⟨#[84]⟩] : Array Value) rfl (by decide) h (w.heap.size) (by first | rfl | simp)
  have h2 := strs_lay ([⟨#[115, 101, 108, 101, 99, 116]⟩, ⟨#[42]⟩, ⟨#[102, 114, 111, 109]⟩, ⟨#[84]⟩, ⟨#[119, 104, 101, 114, 101]⟩, ⟨#[107]⟩, ⟨#[61]⟩, ⟨#[75]⟩] : List ByteArray) (#[.string ⟨#[115, 101, 108, 101, 99, 116]⟩, .string ⟨#[42]⟩, .string ⟨#[102, 114, 111, 109]⟩, .string ⟨#[84]⟩, .string ⟨#[119, 104, 101, 114, 101]⟩, .string ⟨#[107]⟩, .string ⟨#[61]⟩, .string ⟨#[75]⟩] : Array Value) rfl (by decide) h1 (w.heap.size + 1) (by first | rfl | simp)
  have h3 := strs_lay ([⟨#[105, 110, 115, 101, 114, 116]⟩, ⟨#[105, 110, 116, 111]⟩, ⟨#[84]⟩, ⟨#[118, 97, 108, 117, 101, 115]⟩, ⟨#[40]⟩, ⟨#[75]⟩, ⟨#[44]⟩, ⟨#[86]⟩, ⟨#[41]⟩] : List ByteArray) (#[.string ⟨#[105, 110, 115, 101, 114, 116]⟩, .string ⟨#[105, 110, 116, 111]⟩, .string ⟨#[84]⟩, .string ⟨#[118, 97, 108, 117, 101, 115]⟩, .string ⟨#[40]⟩, .string ⟨#[75]⟩, .string ⟨#[44]⟩, .string ⟨#[86]⟩, .string ⟨#[41]⟩] : Array Value) rfl (by decide) h2 (w.heap.size + 1 + 1) (by first | rfl | simp)
  have h4 := strs_lay ([⟨#[117, 112, 100, 97, 116, 101]⟩, ⟨#[84]⟩, ⟨#[115, 101, 116]⟩, ⟨#[118]⟩, ⟨#[61]⟩, ⟨#[118]⟩, ⟨#[43]⟩, ⟨#[49]⟩, ⟨#[119, 104, 101, 114, 101]⟩, ⟨#[107]⟩, ⟨#[61]⟩, ⟨#[75]⟩] : List ByteArray) (#[.string ⟨#[117, 112, 100, 97, 116, 101]⟩, .string ⟨#[84]⟩, .string ⟨#[115, 101, 116]⟩, .string ⟨#[118]⟩, .string ⟨#[61]⟩, .string ⟨#[118]⟩, .string ⟨#[43]⟩, .string ⟨#[49]⟩, .string ⟨#[119, 104, 101, 114, 101]⟩, .string ⟨#[107]⟩, .string ⟨#[61]⟩, .string ⟨#[75]⟩] : Array Value) rfl (by decide) h3 (w.heap.size + 1 + 1 + 1) (by first | rfl | simp)
  have h5 := strs_lay ([⟨#[100, 101, 108, 101, 116, 101]⟩, ⟨#[102, 114, 111, 109]⟩, ⟨#[84]⟩] : List ByteArray) (#[.string ⟨#[100, 101, 108, 101, 116, 101]⟩, .string ⟨#[102, 114, 111, 109]⟩, .string ⟨#[84]⟩] : Array Value) rfl (by decide) h4 (w.heap.size + 1 + 1 + 1 + 1) (by first | rfl | simp)
  have h6 := strs_lay ([⟨#[100, 101, 108, 101, 116, 101]⟩, ⟨#[102, 114, 111, 109]⟩, ⟨#[84]⟩, ⟨#[119, 104, 101, 114, 101]⟩, ⟨#[107]⟩, ⟨#[61]⟩, ⟨#[75]⟩] : List ByteArray) (#[.string ⟨#[100, 101, 108, 101, 116, 101]⟩, .string ⟨#[102, 114, 111, 109]⟩, .string ⟨#[84]⟩, .string ⟨#[119, 104, 101, 114, 101]⟩, .string ⟨#[107]⟩, .string ⟨#[61]⟩, .string ⟨#[75]⟩] : Array Value) rfl (by decide) h5 (w.heap.size + 1 + 1 + 1 + 1 + 1) (by first | rfl | simp)
  have h7 := strs_lay ([⟨#[99, 114, 101, 97, 116, 101]⟩, ⟨#[116, 97, 98, 108, 101]⟩, ⟨#[84]⟩] : List ByteArray) (#[.string ⟨#[99, 114, 101, 97, 116, 101]⟩, .string ⟨#[116, 97, 98, 108, 101]⟩, .string ⟨#[84]⟩] : Array Value) rfl (by decide) h6 (w.heap.size + 1 + 1 + 1 + 1 + 1 + 1) (by first | rfl | simp)
  have h8 := h7.alloc (.cells #[.slice (some ⟨w.heap.size, 0, none⟩) 4 4, .slice (some ⟨w.heap.size + 1, 0, none⟩) 8 8, .slice (some ⟨w.heap.size + 1 + 1, 0, none⟩) 9 9, .slice (some ⟨w.heap.size + 1 + 1 + 1, 0, none⟩) 12 12, .slice (some ⟨w.heap.size + 1 + 1 + 1 + 1, 0, none⟩) 3 3, .slice (some ⟨w.heap.size + 1 + 1 + 1 + 1 + 1, 0, none⟩) 7 7, .slice (some ⟨w.heap.size + 1 + 1 + 1 + 1 + 1 + 1, 0, none⟩) 3 3] 52)
  have hsz : (((((((w.alloc (.cells #[.string ⟨#[115, 101, 108, 101, 99, 116]⟩, .string ⟨#[42]⟩, .string ⟨#[102, 114, 111, 109]⟩, .string ⟨#[84]⟩] 9)).alloc (.cells #[.string ⟨#[115, 101, 108, 101, 99, 116]⟩, .string ⟨#[42]⟩, .string ⟨#[102, 114, 111, 109]⟩, .string ⟨#[84]⟩, .string ⟨#[119, 104, 101, 114, 101]⟩, .string ⟨#[107]⟩, .string ⟨#[61]⟩, .string ⟨#[75]⟩] 9)).alloc (.cells #[.string ⟨#[105, 110, 115, 101, 114, 116]⟩, .string ⟨#[105, 110, 116, 111]⟩, .string ⟨#[84]⟩, .string ⟨#[118, 97, 108, 117, 101, 115]⟩, .string ⟨#[40]⟩, .string ⟨#[75]⟩, .string ⟨#[44]⟩, .string ⟨#[86]⟩, .string ⟨#[41]⟩] 9)).alloc (.cells #[.string ⟨#[117, 112, 100, 97, 116, 101]⟩, .string ⟨#[84]⟩, .string ⟨#[115, 101, 116]⟩, .string ⟨#[118]⟩, .string ⟨#[61]⟩, .string ⟨#[118]⟩, .string ⟨#[43]⟩, .string ⟨#[49]⟩, .string ⟨#[119, 104, 101, 114, 101]⟩, .string ⟨#[107]⟩, .string ⟨#[61]⟩, .string ⟨#[75]⟩] 9)).alloc (.cells #[.string ⟨#[100, 101, 108, 101, 116, 101]⟩, .string ⟨#[102, 114, 111, 109]⟩, .string ⟨#[84]⟩] 9)).alloc (.cells #[.string ⟨#[100, 101, 108, 101, 116, 101]⟩, .string ⟨#[102, 114, 111, 109]⟩, .string ⟨#[84]⟩, .string ⟨#[119, 104, 101, 114, 101]⟩, .string ⟨#[107]⟩, .string ⟨#[61]⟩, .string ⟨#[75]⟩] 9)).alloc (.cells #[.string ⟨#[99, 114, 101, 97, 116, 101]⟩, .string ⟨#[116, 97, 98, 108, 101]⟩, .string ⟨#[84]⟩] 9)).heap.size = w.heap.size + 1 + 1 + 1 + 1 + 1 + 1 + 1 := by simp
  rw [hsz] at h8
  obtain ⟨F, hF⟩ : ∃ F : List FrM, F = [⟨1, false, some ⟨w.heap.size, 0, none⟩, 4, [⟨#[115, 101, 108, 101, 99, 116]⟩, ⟨#[42]⟩, ⟨#[102, 114, 111, 109]⟩, ⟨#[84]⟩]⟩, ⟨1, true, some ⟨w.heap.size + 1, 0, none⟩, 8, [⟨#[115, 101, 108, 101, 99, 116]⟩, ⟨#[42]⟩, ⟨#[102, 114, 111, 109]⟩, ⟨#[84]⟩, ⟨#[119, 104, 101, 114, 101]⟩, ⟨#[107]⟩, ⟨#[61]⟩, ⟨#[75]⟩]⟩, ⟨2, true, some ⟨w.heap.size + 1 + 1, 0, none⟩, 9, [⟨#[105, 110, 115, 101, 114, 116]⟩, ⟨#[105, 110, 116, 111]⟩, ⟨#[84]⟩, ⟨#[118, 97, 108, 117, 101, 115]⟩, ⟨#[40]⟩, ⟨#[75]⟩, ⟨#[44]⟩, ⟨#[86]⟩, ⟨#[41]⟩]⟩, ⟨3, true, some ⟨w.heap.size + 1 + 1 + 1, 0, none⟩, 12, [⟨#[117, 112, 100, 97, 116, 101]⟩, ⟨#[84]⟩, ⟨#[115, 101, 116]⟩, ⟨#[118]⟩, ⟨#[61]⟩, ⟨#[118]⟩, ⟨#[43]⟩, ⟨#[49]⟩, ⟨#[119, 104, 101, 114, 101]⟩, ⟨#[107]⟩, ⟨#[61]⟩, ⟨#[75]⟩]⟩, ⟨4, false, some ⟨w.heap.size + 1 + 1 + 1 + 1, 0, none⟩, 3, [⟨#[100, 101, 108, 101, 116, 101]⟩, ⟨#[102, 114, 111, 109]⟩, ⟨#[84]⟩]⟩, ⟨4, true, some ⟨w.heap.size + 1 + 1 + 1 + 1 + 1, 0, none⟩, 7, [⟨#[100, 101, 108, 101, 116, 101]⟩, ⟨#[102, 114, 111, 109]⟩, ⟨#[84]⟩, ⟨#[119, 104, 101, 114, 101]⟩, ⟨#[107]⟩, ⟨#[61]⟩, ⟨#[75]⟩]⟩, ⟨5, false, some ⟨w.heap.size + 1 + 1 + 1 + 1 + 1 + 1, 0, none⟩, 3, [⟨#[99, 114, 101, 97, 116, 101]⟩, ⟨#[116, 97, 98, 108, 101]⟩, ⟨#[84]⟩]⟩] := ⟨_, rfl⟩
  have h9 := own_mk (n := 7) (xs := EWs.recs F) (size := 1) (cap := 7) h8 (Nat.le_refl _) (by decide) (Nat.le_refl _) (by rw [hF]; rfl) (by rw [hF]; rfl)
  have h10 := h9.of_eq (show _ = WsO (.slice (some ⟨w.heap.size + 1 + 1 + 1 + 1 + 1 + 1 + 1, 0, none⟩) F.length 7) F * R by
    rw [hF]
    unfold WsO RecS
    simp only [stars, star_emp]
    show Own _ 1 _ 7 _ * _ = Own _ 1 _ 7 _ * (Strs _ _ * (Strs _ _ * (Strs _ _ * (Strs _ _ * (Strs _ _ * (Strs _ _ * Strs _ _)))))) * R
    ac_rfl)
  have hlen : F.length = 7 := by rw [hF]; rfl
  have hp : F.map FrM.p = fmL := by rw [hF]; rfl
  have HL := Lib.hid hlen
  have HPF := Lib.hid hp
  clear h h1 h2 h3 h4 h5 h6 h7 h8 h9 hsz hF hlen hp
  go_enter Try.func29, Try.ntmps29
  go_wp2_with fail
  go_ret
  exact ⟨_, _, F, by rw [HL.out]; rfl, HPF.out, h10⟩

end Go.Proofs.Ytoeepbjnbgpmpaa

namespace Go.Proofs.Ytoeepbjnbgpmpaa
set_option linter.all false
open Go Go.RowKit

abbrev cT : ByteArray := ⟨#[84]⟩
abbrev cK : ByteArray := ⟨#[75]⟩
abbrev cV : ByteArray := ⟨#[86]⟩
def guardB (c : CmdM) : Bool := nameB c.tb && (inB c.kk && (inB c.vv && ((c.kd || decide (c.kk = 0)) && (decide (c.kind = 2) || decide (c.vv = 0)))))
def formOf (kind : Int) (kd : Bool) : List (Int × Bool × List ByteArray) → Option (List ByteArray)
  | [] => none
  | f :: r => if f.1 = kind ∧ f.2.1 = kd then some f.2.2 else formOf kind kd r
def subW (c : CmdM) (w : ByteArray) : ByteArray := if w = cT then c.tb else if w = cK then mk (decL c.kk.toNat) else if w = cV then mk (decL c.vv.toNat) else w
def joinL : List ByteArray → List UInt8
  | [] => []
  | x :: r => bl x ++ r.flatMap fun y => 32 :: bl y
def textB (c : CmdM) : ByteArray := if guardB c = true then (match formOf c.kind c.kd fmL with | some ws => mk (joinL (ws.map (subW c))) | none => ⟨#[]⟩) else ⟨#[]⟩
theorem joinL_snoc (l : List ByteArray) (x : ByteArray) : joinL (l ++ [x]) = if l = [] then bl x else joinL l ++ 32 :: bl x := by
  cases l with
  | nil => simp [joinL]
  | cons y r => simp [joinL]

/-- What the guard tells: no, or yes. -/
def GdP (t : Bool) (c : CmdM) : Prop := t = !guardB c
theorem tl_T (s : ByteArray) : (s.toList == [84]) = decide (s = cT) := tl_const s cT _ (by decide +kernel)
theorem tl_K (s : ByteArray) : (s.toList == [75]) = decide (s = cK) := tl_const s cK _ (by decide +kernel)
theorem tl_V (s : ByteArray) : (s.toList == [86]) = decide (s = cV) := tl_const s cV _ (by decide +kernel)


set_option maxRecDepth 100000 in
set_option maxHeartbeats 8000000 in
theorem stext_any (k : Env) (w : World) (R : Assn) (x : CmdM) (hs : x.tb.size ≤ 100000) (h : Sat k w R) :
    Calls Try.prog 12 #[cmV x] w fun e w' => e = .returned (.string (textB x)) ∧ Sat k w' R := by
  obtain ⟨res, hres⟩ : ∃ res, textB x = res := ⟨_, rfl⟩
  rw [hres]
  have h0 := h.alloc (.cells #[.int .i64 x.kind, .string x.tb, .int .i64 x.kk, .int .i64 x.vv, .bool x.kd] 24)
  obtain ⟨kind, tb, kk, vv, kd⟩ := x
  simp only at h0 hs
  have HRES := Lib.hid hres
  have HS := Lib.hid hs
  clear h hres hs
  go_enter Try.func12, Try.ntmps12
  go_upto_region 1 with fail
  generalize w.alloc (.cells #[.int .i64 kind, .string tb, .int .i64 kk, .int .i64 vv, .bool kd] 24) = w0 at *
  generalize w.heap.size = o at *
  go_cut [43] (fun s43 wx => ∃ t, s43 = .bool t ∧ Hid (GdP t ⟨kind, tb, kk, vv, kd⟩) ∧ Sat k wx (blk o (cmO ⟨kind, tb, kk, vv, kd⟩) * R))
  case first =>
    have c1 : w0.cell? ⟨o, 1, none⟩ = some (.string tb) := h0.cell 1
    have HCE : Hid (∀ {w' : World} {R' : Assn}, Sat k w' (blk o (cmO ⟨kind, tb, kk, vv, kd⟩) * R') → w'.cell? ⟨o, 0, none⟩ = some (.int .i64 kind) ∧ w'.cell? ⟨o, 2, none⟩ = some (.int .i64 kk) ∧ w'.cell? ⟨o, 3, none⟩ = some (.int .i64 vv) ∧ w'.cell? ⟨o, 4, none⟩ = some (.bool kd)) := fun q => ⟨q.cell 0, q.cell 2, q.cell 3, q.cell 4⟩
    have C1 := word8_any k w0 _ tb HS.out h0
    have C2 := fun w => within_any w kk
    have C3 := fun w => within_any w vv
    have hg : guardB ⟨kind, tb, kk, vv, kd⟩ = (nameB tb && (inB kk && (inB vv && ((kd || decide (kk = 0)) && (decide (kind = 2) || decide (vv = 0)))))) := rfl
    have hi2 := inB_iff kk
    have hi3 := inB_iff vv
    generalize nameB tb = b1 at *
    generalize inB kk = b2 at *
    generalize inB vv = b3 at *
    have D1 := Lib.hid C1
    have C2' := Lib.hid C2
    have C3' := Lib.hid C3
    have hgd : ∀ t, t = !(b1 && (b2 && (b3 && ((kd || decide (kk = 0)) && (decide (kind = 2) || decide (vv = 0)))))) → Hid (GdP t ⟨kind, tb, kk, vv, kd⟩) := by
      intro t ht
      unfold Hid GdP
      rw [hg, ht]
    have HGD := Lib.hid hgd
    clear C1 C2 C3 hg hgd h0
    have C2 := C2'
    have C3 := C3'
    clear C2' C3'
    cases b1 with
    | false =>
      have HG := HGD.out true rfl
      clear hi2 hi3
      go_wp2_with (
        (first | (go_at_call 31; (with_reducible refine (D1.out).mono ?_); rintro e w1 ⟨rfl, h1⟩; obtain ⟨c0, c2, c3, c4⟩ := HCE.out h1) | (go_at_call 32; (first | (with_reducible refine (C2.out _).mono ?_) | (with_reducible refine (C3.out _).mono ?_)); rintro e w5 ⟨rfl, rfl⟩)))
      (
        go_meet
        case rel => first | exact ⟨_, rfl, HG, h1⟩ | exact ⟨_, rfl, by rw [hvd]; exact HG, h1⟩)
    | true =>
      cases b2 with
      | false =>
        have HG := HGD.out true rfl
        clear hi2 hi3
        go_wp2_with (
          (first | (go_at_call 31; (with_reducible refine (D1.out).mono ?_); rintro e w1 ⟨rfl, h1⟩; obtain ⟨c0, c2, c3, c4⟩ := HCE.out h1) | (go_at_call 32; (first | (with_reducible refine (C2.out _).mono ?_) | (with_reducible refine (C3.out _).mono ?_)); rintro e w5 ⟨rfl, rfl⟩)))
        (
          go_meet
          case rel => first | exact ⟨_, rfl, HG, h1⟩ | exact ⟨_, rfl, by rw [hvd]; exact HG, h1⟩)
      | true =>
        cases b3 with
        | false =>
          have HG := HGD.out true rfl
          clear hi2 hi3
          go_wp2_with (
            (first | (go_at_call 31; (with_reducible refine (D1.out).mono ?_); rintro e w1 ⟨rfl, h1⟩; obtain ⟨c0, c2, c3, c4⟩ := HCE.out h1) | (go_at_call 32; (first | (with_reducible refine (C2.out _).mono ?_) | (with_reducible refine (C3.out _).mono ?_)); rintro e w5 ⟨rfl, rfl⟩)))
          (
            go_meet
            case rel => first | exact ⟨_, rfl, HG, h1⟩ | exact ⟨_, rfl, by rw [hvd]; exact HG, h1⟩)
        | true =>
          have hkk := (hi2.1 rfl).1
          have hvv := (hi3.1 rfl).1
          clear hi2 hi3
          cases kd with
          | true =>
            by_cases hk2 : kind = 2
            · have e1 : ((kind : Int) == 2) = true := by simp [hk2]
              have e2 : ((kind : Int) != 2) = false := by simp [hk2]
              have HG := HGD.out false (by rw [decide_eq_true hk2]; rfl)
              clear hk2
              go_wp2_with (
                (first | (go_at_call 31; (with_reducible refine (D1.out).mono ?_); rintro e w1 ⟨rfl, h1⟩; obtain ⟨c0, c2, c3, c4⟩ := HCE.out h1) | (go_at_call 32; (first | (with_reducible refine (C2.out _).mono ?_) | (with_reducible refine (C3.out _).mono ?_)); rintro e w5 ⟨rfl, rfl⟩)))
              (
                go_meet
                case rel => first | exact ⟨_, rfl, HG, h1⟩ | exact ⟨_, rfl, by rw [hvd]; exact HG, h1⟩)
            · have e1 : ((kind : Int) == 2) = false := by simp [hk2]
              have e2 : ((kind : Int) != 2) = true := by simp [hk2]
              by_cases hv : 0 < vv
              · have HG := HGD.out true (by rw [decide_eq_false hk2, decide_eq_false (show ¬ vv = 0 by omega)]; rfl)
                clear hk2
                go_wp2_with (
                  (first | (go_at_call 31; (with_reducible refine (D1.out).mono ?_); rintro e w1 ⟨rfl, h1⟩; obtain ⟨c0, c2, c3, c4⟩ := HCE.out h1) | (go_at_call 32; (first | (with_reducible refine (C2.out _).mono ?_) | (with_reducible refine (C3.out _).mono ?_)); rintro e w5 ⟨rfl, rfl⟩)))
                (
                  go_meet
                  case rel => first | exact ⟨_, rfl, HG, h1⟩ | exact ⟨_, rfl, by rw [hvd]; exact HG, h1⟩)
              · have hv0 : vv = 0 := by omega
                have hvd : decide (0 < vv) = false := decide_eq_false hv
                have HG := HGD.out false (by rw [decide_eq_false hk2, decide_eq_true hv0]; rfl)
                clear hk2 hv0
                go_wp2_with (
                  (first | (go_at_call 31; (with_reducible refine (D1.out).mono ?_); rintro e w1 ⟨rfl, h1⟩; obtain ⟨c0, c2, c3, c4⟩ := HCE.out h1) | (go_at_call 32; (first | (with_reducible refine (C2.out _).mono ?_) | (with_reducible refine (C3.out _).mono ?_)); rintro e w5 ⟨rfl, rfl⟩)))
                (
                  go_meet
                  case rel => first | exact ⟨_, rfl, HG, h1⟩ | exact ⟨_, rfl, by rw [hvd]; exact HG, h1⟩)
          | false =>
            by_cases hk : 0 < kk
            · have HG := HGD.out true (by rw [decide_eq_false (show ¬ kk = 0 by omega)]; rfl)
              go_wp2_with (
                (first | (go_at_call 31; (with_reducible refine (D1.out).mono ?_); rintro e w1 ⟨rfl, h1⟩; obtain ⟨c0, c2, c3, c4⟩ := HCE.out h1) | (go_at_call 32; (first | (with_reducible refine (C2.out _).mono ?_) | (with_reducible refine (C3.out _).mono ?_)); rintro e w5 ⟨rfl, rfl⟩)))
              (
                go_meet
                case rel => first | exact ⟨_, rfl, HG, h1⟩ | exact ⟨_, rfl, by rw [hvd]; exact HG, h1⟩)
            · have hk0 : decide (kk = 0) = true := decide_eq_true (by omega)
              have hkd : decide (0 < kk) = false := decide_eq_false hk
              by_cases hk2 : kind = 2
              · have e1 : ((kind : Int) == 2) = true := by simp [hk2]
                have e2 : ((kind : Int) != 2) = false := by simp [hk2]
                have HG := HGD.out false (by rw [decide_eq_true hk2]; rw [hk0]; rfl)
                clear hk2
                go_wp2_with (
                  (first | (go_at_call 31; (with_reducible refine (D1.out).mono ?_); rintro e w1 ⟨rfl, h1⟩; obtain ⟨c0, c2, c3, c4⟩ := HCE.out h1) | (go_at_call 32; (first | (with_reducible refine (C2.out _).mono ?_) | (with_reducible refine (C3.out _).mono ?_)); rintro e w5 ⟨rfl, rfl⟩)))
                (
                  go_meet
                  case rel => first | exact ⟨_, rfl, HG, h1⟩ | exact ⟨_, rfl, by rw [hvd]; exact HG, h1⟩)
              · have e1 : ((kind : Int) == 2) = false := by simp [hk2]
                have e2 : ((kind : Int) != 2) = true := by simp [hk2]
                by_cases hv : 0 < vv
                · have HG := HGD.out true (by rw [decide_eq_false hk2, decide_eq_false (show ¬ vv = 0 by omega)]; rw [hk0]; rfl)
                  clear hk2
                  go_wp2_with (
                    (first | (go_at_call 31; (with_reducible refine (D1.out).mono ?_); rintro e w1 ⟨rfl, h1⟩; obtain ⟨c0, c2, c3, c4⟩ := HCE.out h1) | (go_at_call 32; (first | (with_reducible refine (C2.out _).mono ?_) | (with_reducible refine (C3.out _).mono ?_)); rintro e w5 ⟨rfl, rfl⟩)))
                  (
                    go_meet
                    case rel => first | exact ⟨_, rfl, HG, h1⟩ | exact ⟨_, rfl, by rw [hvd]; exact HG, h1⟩)
                · have hv0 : vv = 0 := by omega
                  have hvd : decide (0 < vv) = false := decide_eq_false hv
                  have HG := HGD.out false (by rw [decide_eq_false hk2, decide_eq_true hv0]; rw [hk0]; rfl)
                  clear hk2 hv0
                  go_wp2_with (
                    (first | (go_at_call 31; (with_reducible refine (D1.out).mono ?_); rintro e w1 ⟨rfl, h1⟩; obtain ⟨c0, c2, c3, c4⟩ := HCE.out h1) | (go_at_call 32; (first | (with_reducible refine (C2.out _).mono ?_) | (with_reducible refine (C3.out _).mono ?_)); rintro e w5 ⟨rfl, rfl⟩)))
                  (
                    go_meet
                    case rel => first | exact ⟨_, rfl, HG, h1⟩ | exact ⟨_, rfl, by rw [hvd]; exact HG, h1⟩)
  case rest =>
    clear h0
    obtain ⟨t, rfl, HG, h0⟩ := hcut
    cases t with
    | true =>
      obtain rfl : res = ⟨#[]⟩ := by
        have hg := HG.out
        unfold GdP at hg
        rw [← HRES.out]
        unfold textB
        rw [if_neg (by intro q; rw [q] at hg; cases hg)]
      clear HG
      go_wp2_with fail
      go_ret
      exact ⟨rfl, h0.drop⟩
    | false =>
      have hgd : guardB ⟨kind, tb, kk, vv, kd⟩ = true := by
        have hg := HG.out
        unfold GdP at hg
        cases q : guardB ⟨kind, tb, kk, vv, kd⟩ with
        | true => rfl
        | false => rw [q] at hg; cases hg
      have HGD := Lib.hid hgd
      clear HG hgd
      have D1 := Lib.hid (forms_any k _ _ h0)
      have hfm : formOf kind kd fmL = formOf kind kd fmL := rfl
      go_upto_block 0 with (go_at_call 27; (refine (D1.out).mono ?_); rintro e w1 ⟨v, c, F, rfl, hF, h1⟩)
      clear D1 h0 hfm
      have hFl : F.length = 7 := by have := congrArg List.length hF; rwa [List.length_map] at this
      have HX : Hid (formOf kind kd ((F.drop 0).map FrM.p) = formOf kind kd fmL) := by unfold Hid; rw [List.drop_zero, hF]
      obtain ⟨B, hB, h2⟩ : ∃ B, B = _ ∧ Sat k w1 B := ⟨_, rfl, h1⟩
      have HBB : Hid (∀ {w' : World}, Sat k w' B → Sat k w' (FrO (.slice v F.length c) F * (blk o (cmO ⟨kind, tb, kk, vv, kd⟩) * R))) := by
        unfold Hid
        intro w' q
        rw [hB] at q
        exact q
      have HFL : Hid (F.length = 7) := hFl
      have HMEM : Hid (∀ f ∈ F, f.ws.length ≤ 12 ∧ ∀ s ∈ f.ws, s.size ≤ 6) := by
        intro f hf
        have hm : f.p ∈ fmL := by rw [← hF]; exact List.mem_map_of_mem hf
        have hall : ∀ q ∈ fmL, q.2.2.length ≤ 12 ∧ ∀ s ∈ q.2.2, s.size ≤ 6 := by decide +kernel
        exact hall _ hm
      have HTB : Hid (tb.size ≤ 30 ∧ (0 ≤ kk ∧ kk ≤ 999999) ∧ 0 ≤ vv ∧ vv ≤ 999999) := by
        have hg := HGD.out
        unfold guardB nameB at hg
        simp only [Bool.and_eq_true, decide_eq_true_eq] at hg
        exact ⟨hg.1.2.1, (inB_iff kk).1 hg.2.1, (inB_iff vv).1 hg.2.2.1⟩
      have HTX : Hid (res = match formOf kind kd fmL with | some ws => mk (joinL (ws.map (subW ⟨kind, tb, kk, vv, kd⟩))) | none => ⟨#[]⟩) := by
        unfold Hid
        rw [← HRES.out]
        unfold textB
        rw [if_pos HGD.out]
      have HV := Lib.hid (rec_val (E := EFr) (h2.of_eq hB |>.of_eq (by unfold FrO; rw [star_assoc])))
      have hF7 : F.length ≤ 1000 := by have := HFL.out; omega
      clear hF hFl hB h1
      go_wp2_with fail
      go_loopw [46] (fun s46 wr => ∃ i : Nat, i ≤ F.length ∧ s46 = .int .i64 i ∧ Hid (formOf kind kd ((F.drop i).map FrM.p) = formOf kind kd fmL) ∧ Sat k wr B) (fun s46 _ => F.length - (intOf s46).toNat)
      case atStart => exact ⟨0, Nat.zero_le _, rfl, HX, h2⟩
      case round =>
        clear h2 HX
        obtain ⟨i, hi, rfl, HS, hs⟩ := hrel
        by_cases hlt : i < F.length
        · have hlt' : (i : Int) < F.length := by omega
          have hs0 : Sat k wr (RecS EFr 54 (.slice v F.length c) F * (stars frR F * (blk o (cmO ⟨kind, tb, kk, vv, kd⟩) * R))) := (HBB.out hs).of_eq (by unfold FrO; rw [star_assoc])
          obtain ⟨g, hg, _, hcl⟩ := rec_get hs0 (by decide) i hlt
          subst hg
          obtain ⟨f, hf⟩ : ∃ f, F[i] = f := ⟨_, rfl⟩
          have hmem := HMEM.out f (hf ▸ List.getElem_mem hlt)
          have RW : Hid (Rd k B f.a f.ws) := by
            unfold Hid
            obtain ⟨Fz, hFz⟩ := stars_mem frR F f (hf ▸ List.getElem_mem hlt)
            have e : ∀ w', Sat k w' B → Sat k w' (Strs (.slice f.a f.ws.length f.c) f.ws * (RecS EFr 54 (.slice (some ⟨g, 0, none⟩) F.length c) F * (Fz * (blk o (cmO ⟨kind, tb, kk, vv, kd⟩) * R)))) := by
              intro w' q
              have q1 := HBB.out q
              refine q1.of_eq ?_
              unfold FrO
              rw [hFz]
              show RecS _ _ _ _ * (Strs f.v f.ws * Fz) * _ = _
              unfold FrM.v
              ac_rfl
            exact (rd_own (e wr hs)).mono e
          have HSN : Hid (formOf kind kd ((F.drop i).map FrM.p) = if f.kind = kind ∧ f.kd = kd then some f.ws else formOf kind kd ((F.drop (i + 1)).map FrM.p)) := by
            unfold Hid
            rw [List.drop_eq_getElem_cons hlt, List.map_cons, formOf, hf]; rfl
          rw [hf] at hcl
          obtain ⟨fk, fd, fa, fc, fw⟩ := f
          simp only at hmem RW HSN
          have d0 : wr.cell? ⟨g, i * 3, none⟩ = some (.int .i64 fk) := hcl 0 (by decide)
          have d1 : wr.cell? ⟨g, i * 3 + 1, none⟩ = some (.bool fd) := hcl 1 (by decide)
          have d2 : wr.cell? ⟨g, i * 3 + 2, none⟩ = some (.slice fa fw.length fc) := hcl 2 (by decide)
          have h4 := hs.alloc (.cells #[.int .i64 fk, .bool fd, .slice fa fw.length fc] 54)
          have HMM := Lib.hid hmem
          clear hcl hs0 hf hmem
          go_upto_region 6 with fail
          generalize wr.alloc (.cells #[.int .i64 fk, .bool fd, .slice fa fw.length fc] 54) = w4 at *
          generalize wr.heap.size = oo at *
          clear d0 d1 d2 hs
          have e0 : w4.cell? ⟨oo, 0, none⟩ = some (.int .i64 fk) := h4.cell 0
          have e1 : w4.cell? ⟨oo, 1, none⟩ = some (.bool fd) := h4.cell 1
          have e2 : w4.cell? ⟨oo, 2, none⟩ = some (.slice fa fw.length fc) := h4.cell 2
          have b0 : w4.cell? ⟨o, 0, none⟩ = some (.int .i64 kind) := (HBB.out h4.drop).swap.cell 0
          have b4 : w4.cell? ⟨o, 4, none⟩ = some (.bool kd) := (HBB.out h4.drop).swap.cell 4
          by_cases hk : fk = kind
          · have q1 : ((fk : Int) == kind) = true := by simp [hk]
            have q2 : ((fk : Int) != kind) = false := by simp [hk]
            by_cases hd : fd = kd
            · have HFM : Hid (formOf kind kd fmL = some fw) := by unfold Hid; rw [← HS.out, HSN.out, if_pos ⟨hk, hd⟩]
              have HRW : Hid (res = mk (joinL (fw.map (subW ⟨kind, tb, kk, vv, kd⟩)))) := by unfold Hid; rw [HTX.out, HFM.out]
              have q3 : (fd == kd) = true := by simp [hd]
              have q4 : (fd != kd) = false := by simp [hd]
              clear HS HSN HTX HFM hk hd
              have hw12 := HMM.out.1
              go_wp2_with fail
              go_loopw [65, 5] (fun s65 s5 wr => ∃ (j : Nat) (st : ByteArray), j ≤ fw.length ∧ s65 = .int .i64 j ∧ s5 = .string st ∧ Hid (st = mk (joinL ((fw.take j).map (subW ⟨kind, tb, kk, vv, kd⟩)))) ∧ st.size ≤ 40 * j ∧ Sat k wr (blk oo (.cells #[.int .i64 fk, .bool fd, .slice fa fw.length fc] 54 (0, 0)) * B)) (fun s65 _ _ => fw.length - (intOf s65).toNat)
              case atStart => exact ⟨0, ⟨#[]⟩, Nat.zero_le _, rfl, rfl, rfl, Nat.le_refl _, h4⟩
              case round =>
                clear h4 e0 e1 e2 b0 b4
                obtain ⟨j, st, hj, rfl, rfl, HST, hsz, hs⟩ := hrel
                by_cases hjl : j < fw.length
                · have hjl' : (j : Int) < fw.length := by omega
                  obtain ⟨gw, ow, rfl, d1⟩ := rd_get RW.out hs.drop j hjl
                  have HWS := HMM.out.2 fw[j] (List.getElem_mem hjl)
                  have HTK : Hid ((fw.take (j + 1)).map (subW ⟨kind, tb, kk, vv, kd⟩) = (fw.take j).map (subW ⟨kind, tb, kk, vv, kd⟩) ++ [subW ⟨kind, tb, kk, vv, kd⟩ fw[j]]) := by
                    unfold Hid; rw [List.take_succ_eq_append_getElem hjl, List.map_append]; rfl
                  generalize fw[j] = ww at *
                  obtain ⟨sw, hsw⟩ : ∃ sw, subW ⟨kind, tb, kk, vv, kd⟩ ww = sw := ⟨_, rfl⟩
                  have HSW : Hid ((if ww = cT then tb else if ww = cK then mk (decL kk.toNat) else if ww = cV then mk (decL vv.toNat) else ww) = sw) := hsw
                  rw [hsw] at HTK
                  have q5 := tl_T ww
                  have q6 := tl_K ww
                  have q7 := tl_V ww
                  clear hsw
                  go_upto_block 4 with fail
                  go_cut [7] (fun s7 wx => s7 = .string sw ∧ Sat k wx (blk oo (.cells #[.int .i64 fk, .bool fd, .slice (some ⟨gw, ow, none⟩) fw.length fc] 54 (0, 0)) * B))
                  case first =>
                    have b1 : wr.cell? ⟨o, 1, none⟩ = some (.string tb) := (HBB.out hs.drop).swap.cell 1
                    have b2 : wr.cell? ⟨o, 2, none⟩ = some (.int .i64 kk) := (HBB.out hs.drop).swap.cell 2
                    have b3 : wr.cell? ⟨o, 3, none⟩ = some (.int .i64 vv) := (HBB.out hs.drop).swap.cell 3
                    clear HTK HST
                    by_cases hT : ww = cT
                    · rw [decide_eq_true hT] at q5
                      obtain rfl : sw = tb := by rw [← HSW.out, if_pos hT]
                      clear HSW hT
                      go_wp2_with fail
                      go_meet
                      case rel => exact ⟨rfl, hs⟩
                    · rw [decide_eq_false hT] at q5
                      by_cases hK : ww = cK
                      · rw [decide_eq_true hK] at q6
                        obtain rfl : sw = mk (decL kk.toNat) := by rw [← HSW.out, if_neg hT, if_pos hK]
                        have hkk : ((kk.toNat : Nat) : Int) = kk := Int.toNat_of_nonneg HTB.out.2.1.1
                        have D := dec_any k 5 kk.toNat wr _ (by have := HTB.out.2.1.2; omega) (by decide) hs
                        rw [hkk] at D
                        have D9 := Lib.hid D
                        clear HSW hT hK hkk D
                        go_wp2_with (go_at_call 33; (with_reducible refine (D9.out).mono ?_); rintro e w9 ⟨rfl, h9⟩)
                        go_meet
                        case rel => exact ⟨rfl, h9⟩
                      · rw [decide_eq_false hK] at q6
                        by_cases hV : ww = cV
                        · rw [decide_eq_true hV] at q7
                          obtain rfl : sw = mk (decL vv.toNat) := by rw [← HSW.out, if_neg hT, if_neg hK, if_pos hV]
                          have hkk : ((vv.toNat : Nat) : Int) = vv := Int.toNat_of_nonneg HTB.out.2.2.1
                          have D := dec_any k 5 vv.toNat wr _ (by have := HTB.out.2.2.2; omega) (by decide) hs
                          rw [hkk] at D
                          have D9 := Lib.hid D
                          clear HSW hT hK hV hkk D
                          go_wp2_with (go_at_call 33; (with_reducible refine (D9.out).mono ?_); rintro e w9 ⟨rfl, h9⟩)
                          go_meet
                          case rel => exact ⟨rfl, h9⟩
                        · rw [decide_eq_false hV] at q7
                          obtain rfl : sw = ww := by rw [← HSW.out, if_neg hT, if_neg hK, if_neg hV]
                          clear HSW hT hK hV
                          go_wp2_with fail
                          go_meet
                          case rel => exact ⟨rfl, hs⟩
                  case rest =>
                    clear hs q5 q6 q7
                    obtain ⟨rfl, hs⟩ := hcut
                    have hsw : sw.size ≤ 40 - 9 := by
                      rw [← HSW.out]
                      have hd := fun n => decF_len 5 n
                      split
                      · have := HTB.out.1; omega
                      · split
                        · rw [mk_size]; have := hd kk.toNat; unfold decL; omega
                        · split
                          · rw [mk_size]; have := hd vv.toNat; unfold decL; omega
                          · omega
                    clear HSW
                    rcases Nat.eq_zero_or_pos j with hj0 | hjp
                    · have z1 : ¬ 9223372036854775807 < st.size + sw.size := by omega
                      have z2 : ¬ (0 : Int) < (j : Int) := by omega
                      have z3 : ¬ 0 < j := by omega
                      have HN : Hid (st ++ sw = mk (joinL ((fw.take (j + 1)).map (subW ⟨kind, tb, kk, vv, kd⟩)))) := by
                        unfold Hid
                        rw [HTK.out, joinL_snoc, HST.out]
                        subst hj0
                        simp only [List.take_zero, List.map_nil, if_true]
                        apply ByteArray.ext
                        simp [mk, joinL]
                      have HSZ : Hid ((st ++ sw).size = st.size + sw.size) := ByteArray.size_append
                      clear HST HTK hj0
                      go_wp2_with fail
                      go_roundw
                      case rel => exact ⟨j + 1, st ++ sw, by omega, by go_num, rfl, HN, by rw [HSZ.out]; omega, hs⟩
                      case measure => simp [intOf]; omega
                    · have z1 : ¬ 9223372036854775807 < st.size + 1 := by omega
                      have z4 : ¬ 9223372036854775807 < st.size + 1 + sw.size := by omega
                      have z2 : (0 : Int) < (j : Int) := by omega
                      have HN : Hid (st ++ ⟨#[32]⟩ ++ sw = mk (joinL ((fw.take (j + 1)).map (subW ⟨kind, tb, kk, vv, kd⟩)))) := by
                        unfold Hid
                        rw [HTK.out, joinL_snoc, HST.out]
                        have hne : (fw.take j).map (subW ⟨kind, tb, kk, vv, kd⟩) ≠ [] := by
                          intro q
                          have := congrArg List.length q
                          rw [List.length_map, List.length_take, List.length_nil] at this
                          omega
                        rw [if_neg hne]
                        apply ByteArray.ext
                        simp [mk]
                      have HSZ : Hid ((st ++ ⟨#[32]⟩ ++ sw).size = st.size + 1 + sw.size) := by unfold Hid; rw [ByteArray.size_append, ByteArray.size_append]; rfl
                      clear HST HTK
                      go_wp2_with fail
                      go_roundw
                      case rel => exact ⟨j + 1, st ++ ⟨#[32]⟩ ++ sw, by omega, by go_num, rfl, HN, by rw [HSZ.out]; omega, hs⟩
                      case measure => simp [intOf]; omega
                · obtain rfl : j = fw.length := by omega
                  obtain rfl : st = res := by rw [HST.out, HRW.out, List.take_of_length_le (Nat.le_refl _)]
                  clear HST HRW
                  go_wp2_with fail
                  go_ret
                  exact ⟨rfl, (HBB.out hs.drop).drop.drop⟩
            · have HN : Hid (formOf kind kd ((F.drop (i + 1)).map FrM.p) = formOf kind kd fmL) := by unfold Hid; rw [← HS.out, HSN.out, if_neg (fun z => hd z.2)]
              have q3 : (fd == kd) = false := by simp [hd]
              have q4 : (fd != kd) = true := by simp [hd]
              clear HS HSN hk hd
              go_wp2_with fail
              go_roundw
              case rel => exact ⟨i + 1, by omega, by go_num, HN, h4.drop⟩
              case measure => simp [intOf]; omega
          · have HN : Hid (formOf kind kd ((F.drop (i + 1)).map FrM.p) = formOf kind kd fmL) := by unfold Hid; rw [← HS.out, HSN.out, if_neg (fun z => hk z.1)]
            have q1 : ((fk : Int) == kind) = false := by simp [hk]
            have q2 : ((fk : Int) != kind) = true := by simp [hk]
            clear HS HSN hk
            go_wp2_with fail
            go_roundw
            case rel => exact ⟨i + 1, by omega, by go_num, HN, h4.drop⟩
            case measure => simp [intOf]; omega
        · obtain rfl : i = F.length := by omega
          obtain rfl : res = ⟨#[]⟩ := by rw [HTX.out, ← HS.out, List.drop_eq_nil_of_le (Nat.le_refl _)]; rfl
          clear HS HTX
          go_wp2_with fail
          go_ret
          exact ⟨rfl, (HBB.out hs).drop.drop⟩

end Go.Proofs.Ytoeepbjnbgpmpaa
