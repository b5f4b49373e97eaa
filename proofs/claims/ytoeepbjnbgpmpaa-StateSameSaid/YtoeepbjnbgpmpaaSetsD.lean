/- Contracts of package sets: the closures of Reads and Writes. -/
import Derived.Test.YtoeepbjnbgpmpaaSetsC
namespace Go.Proofs.Ytoeepbjnbgpmpaa
set_option linter.all false
open Go Go.RowKit

abbrev pq (b : Nat) : Value := .pointer (some ⟨b, 0, none⟩)

def addS (S : List ByteArray) (a : ByteArray) : List ByteArray := if memB a S = true then S else S ++ [a]
def addAll (S l : List ByteArray) : List ByteArray := l.foldl addS S
theorem addAll_cons (S : List ByteArray) (x : ByteArray) (r : List ByteArray) : addAll S (x :: r) = addAll (addS S x) r := rfl
theorem addAll_app (S a b : List ByteArray) : addAll S (a ++ b) = addAll (addAll S a) b := List.foldl_append ..
theorem addS_mem (S : List ByteArray) (a x : ByteArray) : x ∈ addS S a ↔ x ∈ S ∨ x = a := by
  unfold addS
  by_cases hm : memB a S = true
  · rw [if_pos hm]
    constructor
    · exact .inl
    · rintro (q | rfl)
      · exact q
      · exact memB_iff.1 hm
  · rw [if_neg hm]; simp
theorem addAll_mem : ∀ (l S : List ByteArray) (x : ByteArray), x ∈ addAll S l ↔ x ∈ S ∨ x ∈ l
  | [], S, x => by simp [addAll]
  | y :: r, S, x => by
    rw [addAll_cons, addAll_mem r (addS S y) x, addS_mem, List.mem_cons]
    constructor
    · rintro ((q | q) | q)
      · exact .inl q
      · exact .inr (.inl q)
      · exact .inr (.inr q)
    · rintro (q | q | q)
      · exact .inl (.inl q)
      · exact .inl (.inr q)
      · exact .inr q
theorem mput_keysL {V : Type} (a : ByteArray) (v : V) : ∀ l : List (ByteArray × V), (mput a v l).map (·.1) = addS (l.map (·.1)) a
  | [] => rfl
  | (b, u) :: r => by
    have ih := mput_keysL a v r
    rw [mput]
    by_cases hb : b = a
    · rw [if_pos hb]
      have : memB a (((b, u) :: r).map (·.1)) = true := by rw [memB_iff]; simp [hb]
      unfold addS
      rw [if_pos this]
      simp [hb]
    · rw [if_neg hb, List.map_cons, ih]
      unfold addS
      have e : memB a (((b, u) :: r).map (·.1)) = memB a (r.map (·.1)) := by
        unfold memB
        rw [List.map_cons, List.any_cons, decide_eq_false hb, Bool.false_or]
      rw [e]
      split
      · rfl
      · simp
/-- A variable that holds a map with just these keys. -/
def KS (b m : Nat) (S : List ByteArray) : Assn := ex fun L : List (ByteArray × Int) => pur (L.map (·.1) = S) * (blk b (.cells #[.map (some m)] 99 (0, 0)) * MapK Value.string m (hents L))
theorem ks_open {k : Env} {w : World} {R : Assn} {b m : Nat} {S : List ByteArray} (h : Sat k w (KS b m S * R)) : ∃ L : List (ByteArray × Int), L.map (·.1) = S ∧ Sat k w (blk b (.cells #[.map (some m)] 99 (0, 0)) * (MapK Value.string m (hents L) * R)) := by
  obtain ⟨L, h⟩ := Sat.ex.1 h
  rw [star_assoc] at h
  obtain ⟨h1, h2⟩ := Sat.pure.1 h
  rw [star_assoc] at h2
  exact ⟨L, h1, h2⟩
theorem ks_close {k : Env} {w : World} {R : Assn} {b m : Nat} {S : List ByteArray} {L : List (ByteArray × Int)} (hL : L.map (·.1) = S) (h : Sat k w (blk b (.cells #[.map (some m)] 99 (0, 0)) * (MapK Value.string m (hents L) * R))) : Sat k w (KS b m S * R) := by
  refine Sat.ex.2 ⟨L, ?_⟩
  rw [star_assoc]
  refine Sat.pure.2 ⟨hL, ?_⟩
  rw [star_assoc]
  exact h

set_option maxHeartbeats 4000000 in
theorem radd_any (k : Env) (w : World) (R : Assn) (b m : Nat) (S : List ByteArray) (s : ByteArray) (h : Sat k w (KS b m S * R)) :
    Calls Try.prog 75 #[.string s, pq b] w fun e w' => e = .returned (.bool true) ∧ Sat k w' (KS b m (addS S s) * R) := by
  obtain ⟨L, rfl, h1⟩ := ks_open h
  have c0 : w.cell? ⟨b, 0, none⟩ = some (.map (some m)) := h1.cell 0
  have hl := run_lookup_sat KStrT mapHa zeroInt h1.swap s
  have hv : ∃ z : Int, ((mget s (hents L)).getD (.int .i64 0)) = .int .i64 z := by
    rw [hents_get]
    cases mget s L with
    | none => exact ⟨0, rfl⟩
    | some z => exact ⟨z, rfl⟩
  obtain ⟨z, hz⟩ := hv
  rw [hz] at hl
  clear hz h
  go_enter Try.func75, Try.ntmps75
  go_wp2_with (at_mapUpdate; refine wpList_update_sat KStrT mapHa h1.swap s (.int .i64 (wrap64 (z + 1))) (.tmp 4) (.tmp 5) (.tmp 7) rfl rfl rfl rfl rfl ?_; intro w6 h6; rw [hents_put] at h6)
  go_ret
  exact ⟨rfl, ks_close (mput_keysL s _ L) h6.swap⟩

end Go.Proofs.Ytoeepbjnbgpmpaa
