/- Contracts of package expiry: how a queue lies in memory; there, less, swap. -/
import Derived.Test.YtlilogcojeoelaaSlruD
import Derived.Test.YtlilogcojeoelaaMA
import Derived.Test.YtlilogcojeoelaaMB
import Derived.StillTailTactics
import Derived.BigRegion
namespace Go.Proofs.Ytlilogcojeoelaa
set_option linter.all false
open Go Go.RowKit

def itc (x : It) : List Value := [.string x.k, .int .i64 x.at_, .int .i64 x.num]
def EIt : Enc It := ⟨itc, 3, fun _ => rfl, fun x u hu => by simp [itc] at hu; rcases hu with rfl | rfl | rfl <;> rfl⟩
theorem TIt : SliceT Try.prog 130 137 (.agg #[.string ByteArray.empty, .int .i64 0, .int .i64 0]) 3 32 := ⟨Try.underlying130, by kernel_rfl, rfl, by decide⟩

/-- Where each key stands. -/
def PlOK (H : List It) (P : List (ByteArray × Int)) : Prop := ∀ a v, mget a P = some v ↔ ∃ j : Nat, j < H.length ∧ v = j ∧ (hat H j).k = a

theorem PlOK.inj {H : List It} {P : List (ByteArray × Int)} (h : PlOK H P) {i j : Nat} (hi : i < H.length) (hj : j < H.length) (e : (hat H i).k = (hat H j).k) : i = j := by
  have h1 := (h (hat H i).k i).2 ⟨i, hi, rfl, rfl⟩
  have h2 := (h (hat H i).k j).2 ⟨j, hj, rfl, e.symm⟩
  rw [h1] at h2
  cases h2; omega
theorem PlOK.swap {H : List It} {P : List (ByteArray × Int)} (h : PlOK H P) {i k : Nat} (hi : i < H.length) (hk : k < H.length) : PlOK (swapL H i k) (mput (hat H i).k (k : Int) (mput (hat H k).k (i : Int) P)) := by
  intro a v
  rw [mget_put, mget_put, swapL_len]
  have S := fun j => hat_swap (j := j) hi hk
  by_cases h1 : (hat H i).k = a
  · rw [if_pos h1]
    constructor
    · intro e; cases e
      exact ⟨k, hk, rfl, by rw [S, if_pos rfl]; exact h1⟩
    · rintro ⟨j, hj, rfl, e⟩
      rw [S] at e
      by_cases e1 : j = k
      · subst e1; rfl
      · rw [if_neg e1] at e
        by_cases e2 : j = i
        · rw [if_pos e2] at e
          have := h.inj hi hk (h1.trans e.symm)
          omega
        · rw [if_neg e2] at e
          have := h.inj hi hj (h1.trans e.symm)
          omega
  · rw [if_neg h1]
    by_cases h2 : (hat H k).k = a
    · rw [if_pos h2]
      constructor
      · intro e; cases e
        refine ⟨i, hi, rfl, ?_⟩
        rw [S]
        by_cases e1 : i = k
        · subst e1; exact absurd h2 h1
        · rw [if_neg e1, if_pos rfl]; exact h2
      · rintro ⟨j, hj, rfl, e⟩
        rw [S] at e
        by_cases e1 : j = k
        · rw [if_pos e1] at e; exact absurd e h1
        · rw [if_neg e1] at e
          by_cases e2 : j = i
          · rw [e2]
          · rw [if_neg e2] at e
            have := h.inj hk hj (h2.trans e.symm)
            omega
    · rw [if_neg h2, h a v]
      constructor
      · rintro ⟨j, hj, rfl, e⟩
        refine ⟨j, hj, rfl, ?_⟩
        rw [S, if_neg (by rintro rfl; exact h2 e), if_neg (by rintro rfl; exact h1 e)]
        exact e
      · rintro ⟨j, hj, rfl, e⟩
        rw [S] at e
        by_cases e1 : j = k
        · rw [if_pos e1] at e; exact absurd e h1
        · rw [if_neg e1] at e
          by_cases e2 : j = i
          · rw [if_pos e2] at e; exact absurd e h2
          · rw [if_neg e2] at e
            exact ⟨j, hj, rfl, e⟩

def cellsQ (v : Value) (m : Nat) (s : Int) : Array Value := #[v, .map (some m), .int .i64 s]
def QueueC (b : Nat) (H : List It) (s : Int) (P : List (ByteArray × Int)) : Assn :=
  ex fun p : Value × Nat => blk b (.cells (cellsQ p.1 p.2 s) 132 (0, 0)) * (Own 137 3 p.1 H.length (EIt.recs H) * MapK Value.string p.2 (plv P))
/-- A queue in memory. -/
def QueueR (b : Nat) (H : List It) (s : Int) : Assn := ex fun P : List (ByteArray × Int) => pur (PlOK H P) * QueueC b H s P

section
variable {k : Env} {w : World} {b : Nat} {H : List It} {s : Int} {R : Assn}
theorem qc_open {P : List (ByteArray × Int)} (h : Sat k w (QueueC b H s P * R)) : ∃ a c m, Sat k w (blk b (.cells (cellsQ (.slice a H.length c) m s) 132 (0, 0)) * (Own 137 3 (.slice a H.length c) H.length (EIt.recs H) * (MapK Value.string m (plv P) * R))) := by
  obtain ⟨⟨v, m⟩, h⟩ := Sat.ex.1 h
  simp only [star_assoc] at h
  obtain ⟨a, c, rfl⟩ := own_val h.swap
  exact ⟨a, c, m, h⟩
theorem qc_close {P : List (ByteArray × Int)} {cs : Array Value} {v : Value} {m n : Nat} {xs : List Value} {l : List (ByteArray × Value)} (h : Sat k w (blk b (.cells cs 132 (0, 0)) * (Own 137 3 v n xs * (MapK Value.string m l * R))))
    (h0 : cs = cellsQ v m s) (h1 : n = H.length) (h2 : xs = EIt.recs H) (h3 : l = plv P) : Sat k w (QueueC b H s P * R) := by
  subst h0 h1 h2 h3
  exact Sat.ex.2 ⟨(v, m), by simp only [star_assoc]; exact h⟩
theorem queue_open (h : Sat k w (QueueR b H s * R)) : ∃ P, PlOK H P ∧ Sat k w (QueueC b H s P * R) := by
  obtain ⟨P, h⟩ := Sat.ex.1 h
  rw [star_assoc] at h
  obtain ⟨h1, h⟩ := Sat.pure.1 h
  exact ⟨P, h1, h⟩
theorem queue_close {P : List (ByteArray × Int)} (h : Sat k w (QueueC b H s P * R)) (hp : PlOK H P) : Sat k w (QueueR b H s * R) :=
  Sat.ex.2 ⟨P, by rw [star_assoc]; exact Sat.pure.2 ⟨hp, h⟩⟩

theorem it_addr {a : Option Addr} {n c : Nat} (h : Sat k w (Own 137 3 (.slice a n c) n (EIt.recs H) * R)) {i : Nat} (hi : i < n) : ∃ g, a = some ⟨g, 0, none⟩ := by
  obtain ⟨g, e, _⟩ := own_get h (by omega)
  exact ⟨g, e⟩
theorem it_cells {g n c : Nat} (h : Sat k w (Own 137 3 (.slice (some ⟨g, 0, none⟩) n c) n (EIt.recs H) * R)) {i : Nat} (hi : i < H.length) (hn : n = H.length) :
    g < w.heap.size ∧ w.cell? ⟨g, i * 3, none⟩ = some (.string (hat H i).k) ∧ w.cell? ⟨g, i * 3 + 1, none⟩ = some (.int .i64 (hat H i).at_) ∧ w.cell? ⟨g, i * 3 + 2, none⟩ = some (.int .i64 (hat H i).num) ∧ ∀ j, w.frozen? ⟨g, j, none⟩ = false := by
  subst hn
  obtain ⟨g', e, hg, hc, hf⟩ := own_get h (by omega)
  simp only [Option.some.injEq, Addr.mk.injEq, and_true] at e
  subst e
  have hr := fun j (hj : j < 3) => (hc (i * 3 + j) (by omega)).trans (EIt.recs_get H i j hi hj)
  rw [hat_get hi]
  exact ⟨hg, (hr 0 (by decide)).trans rfl, (hr 1 (by decide)).trans rfl, (hr 2 (by decide)).trans rfl, hf⟩
theorem it_set {g n c : Nat} (h : Sat k w (Own 137 3 (.slice (some ⟨g, 0, none⟩) n c) n (EIt.recs H) * R)) {i : Nat} (hi : i < H.length) (x : It) :
    Sat k (((w.setCell ⟨g, i * 3, none⟩ (.string x.k)).setCell ⟨g, i * 3 + 1, none⟩ (.int .i64 x.at_)).setCell ⟨g, i * 3 + 2, none⟩ (.int .i64 x.num)) (Own 137 3 (.slice (some ⟨g, 0, none⟩) n c) n (EIt.recs (H.set i x)) * R) := by
  have h3 := own_set (own_set (own_set h (i * 3 + 0) (.string x.k)) (i * 3 + 1) (.int .i64 x.at_)) (i * 3 + 2) (.int .i64 x.num)
  have e0 := EIt.recs_set H i 0 (.string x.k) ⟨x.k, H[i].at_, H[i].num⟩ hi (by decide) rfl
  have e1 := EIt.recs_set (H.set i ⟨x.k, H[i].at_, H[i].num⟩) i 1 (.int .i64 x.at_) ⟨x.k, x.at_, H[i].num⟩ (by simpa using hi) (by decide) (by simp [EIt, itc])
  have e2 := EIt.recs_set (H.set i ⟨x.k, x.at_, H[i].num⟩) i 2 (.int .i64 x.num) ⟨x.k, x.at_, x.num⟩ (by simpa using hi) (by decide) (by simp [EIt, itc])
  rw [List.set_set] at e1 e2
  rw [show EIt.n = 3 from rfl] at e0 e1 e2
  rw [e0, e1, e2] at h3
  exact h3
end

theorem qthere_any (w : World) (b m : Nat) (h : w.cell? ⟨b, 1, none⟩ = some (.map (some m))) :
    Calls Try.prog 78 #[.pointer (some ⟨b, 0, none⟩)] w fun e w' => e = .returned (.bool true) ∧ w = w' := by
  have hm := fun (w : World) (r : Option Nat) => run_neq_map_nil (P := Try.prog) w 122 _ _ r mapT
  go_enter Try.func78, Try.ntmps78
  go_wp2
  go_ret
  exact ⟨rfl, rfl⟩
theorem qthere_zero (w : World) (b : Nat) (h : w.cell? ⟨b, 1, none⟩ = some (.map none)) :
    Calls Try.prog 78 #[.pointer (some ⟨b, 0, none⟩)] w fun e w' => e = .returned (.bool false) ∧ w = w' := by
  have hm := fun (w : World) (r : Option Nat) => run_neq_map_nil (P := Try.prog) w 122 _ _ r mapT
  go_enter Try.func78, Try.ntmps78
  go_wp2
  go_ret
  exact ⟨rfl, rfl⟩
theorem qthere_nil (w : World) : Calls Try.prog 78 #[.pointer none] w fun e w' => e = .returned (.bool false) ∧ w = w' := by
  go_enter Try.func78, Try.ntmps78
  go_wp2
  go_ret
  exact ⟨rfl, rfl⟩

theorem ilt_t {x y : It} (h : x.at_ < y.at_ ∨ (x.at_ = y.at_ ∧ x.num < y.num)) : decide (ilt x y) = true := decide_eq_true h
theorem ilt_f {x y : It} (h : ¬ (x.at_ < y.at_ ∨ (x.at_ = y.at_ ∧ x.num < y.num))) : decide (ilt x y) = false := decide_eq_false h

set_option maxRecDepth 100000 in
set_option maxHeartbeats 1000000 in
theorem qless_any (k : Env) (w : World) (R : Assn) (b : Nat) (H : List It) (s : Int) (i j : Nat) (hi : i < H.length) (hj : j < H.length) (h : Sat k w (QueueR b H s * R)) :
    Calls Try.prog 92 #[.pointer (some ⟨b, 0, none⟩), .int .i64 i, .int .i64 j] w fun e w' => e = .returned (.bool (decide (ilt (hat H i) (hat H j)))) ∧ Sat k w' (QueueR b H s * R) := by
  obtain ⟨P, hp, hc⟩ := queue_open h
  obtain ⟨a, c, m, hs⟩ := qc_open hc
  obtain ⟨g, rfl⟩ := it_addr hs.swap hi
  obtain ⟨hg, d0, d1, d2, hf⟩ := it_cells hs.swap hi rfl
  obtain ⟨_, e0, e1, e2, _⟩ := it_cells hs.swap hj rfl
  have c0 : w.cell? ⟨b, 0, none⟩ = some (.slice (some ⟨g, 0, none⟩) H.length c) := hs.cell 0
  have hb := hs.lt
  have HQ := Lib.hid (fun w' (f : Far w w') => h.far f)
  have n1 : w.heap.size ≠ g := by omega
  have n2 : w.heap.size + 1 ≠ g := by omega
  have n3 : w.heap.size ≠ b := by omega
  have n4 : w.heap.size + 1 ≠ b := by omega
  have hi' : (i : Int) < H.length := by omega
  have hj' : (j : Int) < H.length := by omega
  generalize hat H i = x at *
  generalize hat H j = y at *
  clear hs hc h hp
  go_enter Try.func92, Try.ntmps92
  go_wp2_with fail
  go_region_held3 (fun w' => w'.cell? ⟨b, 0, none⟩ = some (.slice (some ⟨g, 0, none⟩) H.length c) ∧ w'.cell? ⟨g, i * 3, none⟩ = some (.string x.k) ∧ w'.cell? ⟨g, i * 3 + 1, none⟩ = some (.int .i64 x.at_) ∧ w'.cell? ⟨g, i * 3 + 2, none⟩ = some (.int .i64 x.num) ∧
    w'.cell? ⟨g, j * 3, none⟩ = some (.string y.k) ∧ w'.cell? ⟨g, j * 3 + 1, none⟩ = some (.int .i64 y.at_) ∧ w'.cell? ⟨g, j * 3 + 2, none⟩ = some (.int .i64 y.num)) (go_keep) (fail)
  all_goals
    by_cases k1 : x.at_ < y.at_
    · go_wp2_with fail
      go_ret
      exact ⟨by rw [ilt_t (.inl k1)]; rfl, HQ.out _ (by repeat (first | exact Far.refl _ | apply Far.drew | apply Far.alloc | refine Far.set ?_ _ _ _ (by simp [World.size_setCell]))) ⟩
    · by_cases k2 : x.at_ = y.at_
      · have k2' : (x.at_ == y.at_) = true := by simpa using k2
        by_cases k3 : x.num < y.num
        · go_wp2_with fail
          go_ret
          exact ⟨by rw [ilt_t (.inr ⟨k2, k3⟩)]; rfl, HQ.out _ (by repeat (first | exact Far.refl _ | apply Far.drew | apply Far.alloc | refine Far.set ?_ _ _ _ (by simp [World.size_setCell])))⟩
        · go_wp2_with fail
          go_ret
          exact ⟨by rw [ilt_f (by omega)]; rfl, HQ.out _ (by repeat (first | exact Far.refl _ | apply Far.drew | apply Far.alloc | refine Far.set ?_ _ _ _ (by simp [World.size_setCell])))⟩
      · have k2' : (x.at_ == y.at_) = false := by simpa using k2
        go_wp2_with fail
        go_ret
        exact ⟨by rw [ilt_f (by omega)]; rfl, HQ.out _ (by repeat (first | exact Far.refl _ | apply Far.drew | apply Far.alloc | refine Far.set ?_ _ _ _ (by simp [World.size_setCell])))⟩

theorem own_cell_set {k : Env} {w : World} {R : Assn} {e : TypeId} {size n g c : Nat} {xs : List Value} (h : Sat k w (Own e size (.slice (some ⟨g, 0, none⟩) n c) n xs * R)) (p q : Nat) (v : Value) (hq : q < n * size) : ∃ u, (w.setCell ⟨g, p, none⟩ v).cell? ⟨g, q, none⟩ = some u := by
  have h1 := own_set h p v
  have hl := own_len h1
  have hn : 0 < n := by
    rcases Nat.eq_zero_or_pos n with rfl | h0
    · simp at hq
    · exact h0
  obtain ⟨g', e1, _, hc, _⟩ := own_get h1 hn
  simp only [Option.some.injEq, Addr.mk.injEq, and_true] at e1
  subst e1
  rw [hc q hq]
  exact ⟨_, List.getElem?_eq_getElem (by omega)⟩

set_option maxRecDepth 100000 in
set_option maxHeartbeats 2000000 in
theorem qswap_any (k : Env) (w : World) (R : Assn) (b : Nat) (H : List It) (s : Int) (i j : Nat) (hi : i < H.length) (hj : j < H.length) (h : Sat k w (QueueR b H s * R)) :
    Calls Try.prog 93 #[.pointer (some ⟨b, 0, none⟩), .int .i64 i, .int .i64 j] w fun e w' => e = .returned (.tuple #[]) ∧ Sat k w' (QueueR b (swapL H i j) s * R) := by
  obtain ⟨P, hp, hc⟩ := queue_open h
  obtain ⟨a, c, m, hs⟩ := qc_open hc
  obtain ⟨g, rfl⟩ := it_addr hs.swap hi
  obtain ⟨hg, d0, d1, d2, hf⟩ := it_cells hs.swap hi rfl
  obtain ⟨_, e0, e1, e2, _⟩ := it_cells hs.swap hj rfl
  have c0 : w.cell? ⟨b, 0, none⟩ = some (.slice (some ⟨g, 0, none⟩) H.length c) := hs.cell 0
  have c1 : w.cell? ⟨b, 1, none⟩ = some (.map (some m)) := hs.cell 1
  have hb := hs.lt
  obtain ⟨hbg, hgb⟩ := own_ne hs
  have hi' : (i : Int) < H.length := by omega
  have hj' : (j : Int) < H.length := by omega
  have hw := it_set (it_set hs.swap hi (hat H j)) (H := H.set i (hat H j)) (by simpa using hj) (hat H i)
  obtain ⟨u0, q0⟩ := own_cell_set hs.swap (i * 3) (j * 3) (.string (hat H j).k) (by omega)
  obtain ⟨u1, q1⟩ := own_cell_set hs.swap (i * 3 + 1) (j * 3 + 1) (.int .i64 (hat H j).at_) (by omega)
  obtain ⟨u2, q2⟩ := own_cell_set hs.swap (i * 3 + 2) (j * 3 + 2) (.int .i64 (hat H j).num) (by omega)
  obtain ⟨u3, q3⟩ := RowKit.cell?_setCell_some (p := ⟨g, i * 3 + 1, none⟩) (x := .int .i64 (hat H j).at_) (RowKit.cell?_setCell_some (p := ⟨g, i * 3, none⟩) (x := .string (hat H j).k) e1).choose_spec
  obtain ⟨u4, q4⟩ := RowKit.cell?_setCell_some (p := ⟨g, i * 3 + 2, none⟩) (x := .int .i64 (hat H j).num) (RowKit.cell?_setCell_some (p := ⟨g, i * 3, none⟩) (x := .string (hat H j).k) e2).choose_spec
  obtain ⟨u5, q5⟩ := RowKit.cell?_setCell_some (p := ⟨g, i * 3 + 2, none⟩) (x := .int .i64 (hat H j).num) (RowKit.cell?_setCell_some (p := ⟨g, i * 3 + 1, none⟩) (x := .int .i64 (hat H j).at_) (RowKit.cell?_setCell_some (p := ⟨g, i * 3, none⟩) (x := .string (hat H j).k) e2).choose_spec).choose_spec
  have HKI : Hid ((hat (swapL H i j) i).k = (hat H j).k) := by
    unfold Hid
    rw [hat_swap hi hj]
    by_cases e : i = j
    · subst e; simp
    · rw [if_neg e, if_pos rfl]
  have HKJ : Hid ((hat (swapL H i j) j).k = (hat H i).k) := by
    unfold Hid
    rw [hat_swap hi hj, if_pos rfl]
  have HW : Hid ((H.set i (hat H j)).set j (hat H i) = swapL H i j) := rfl
  have hp2 := hp.swap hi hj
  go_enter Try.func93, Try.ntmps93
  go_wp2_with fail
  go_region
  replace hw := hw.drew
  generalize ((((((w.setCell ⟨g, i * 3, none⟩ (.string (hat H j).k)).setCell ⟨g, i * 3 + 1, none⟩ (.int .i64 (hat H j).at_)).setCell ⟨g, i * 3 + 2, none⟩ (.int .i64 (hat H j).num)).setCell ⟨g, j * 3, none⟩ (.string (hat H i).k)).setCell ⟨g, j * 3 + 1, none⟩ (.int .i64 (hat H i).at_)).setCell ⟨g, j * 3 + 2, none⟩ (.int .i64 (hat H i).num)).drew = w2 at hw ⊢
  replace hw := hw.swap
  rw [HW.out] at hw
  have hl : (swapL H i j).length = H.length := swapL_len H i j
  have hil : i < (swapL H i j).length := by omega
  have hjl : j < (swapL H i j).length := by omega
  clear HW q0 q1 q2 q3 q4 q5 d0 d1 d2 e0 e1 e2 hf c0 c1 hc h hs hg
  obtain ⟨hg, d0, _, _, hf⟩ := it_cells hw.swap hil hl.symm
  rw [HKI.out] at d0
  have c0 : w2.cell? ⟨b, 0, none⟩ = some (.slice (some ⟨g, 0, none⟩) H.length c) := hw.cell 0
  have c1 : w2.cell? ⟨b, 1, none⟩ = some (.map (some m)) := hw.cell 1
  obtain ⟨w3, hrun, h3⟩ := run_update_sat KStr mapT hw.drew.get3 (hat H j).k (.int .i64 i)
  go_wp2_with fail
  go_region_held3 (fun w' => w'.cell? ⟨b, 0, none⟩ = some (.slice (some ⟨g, 0, none⟩) H.length c) ∧ w'.cell? ⟨b, 1, none⟩ = some (.map (some m)) ∧ w'.cell? ⟨g, i * 3, none⟩ = some (.string (hat H j).k)) (first | exact ⟨c0, c1, d0⟩ | exact ⟨(h3.swap.cell 0).trans rfl, (h3.swap.cell 1).trans rfl, (it_cells h3.get3 hil hl.symm).2.1.trans (by rw [HKI.out])⟩ | fail) (fail)
  have c0 : w3.cell? ⟨b, 0, none⟩ = some (.slice (some ⟨g, 0, none⟩) H.length c) := h3.swap.cell 0
  have c1 : w3.cell? ⟨b, 1, none⟩ = some (.map (some m)) := h3.swap.cell 1
  obtain ⟨hg, d0, _, _, hf⟩ := it_cells h3.get3 hjl hl.symm
  rw [HKJ.out] at d0
  clear hrun
  obtain ⟨w4, hrun, h4⟩ := run_update_sat KStr mapT h3.drew (hat H i).k (.int .i64 j)
  go_wp2_with fail
  go_region_held3 (fun w' => w'.cell? ⟨b, 0, none⟩ = some (.slice (some ⟨g, 0, none⟩) H.length c) ∧ w'.cell? ⟨b, 1, none⟩ = some (.map (some m)) ∧ w'.cell? ⟨g, j * 3, none⟩ = some (.string (hat H i).k)) (first | exact ⟨c0, c1, d0⟩ | exact ⟨(h4.swap.cell 0).trans rfl, (h4.swap.cell 1).trans rfl, (it_cells h4.get3 hjl hl.symm).2.1.trans (by rw [HKJ.out])⟩ | fail) (fail)
  go_wp2_with fail
  go_end0
  rw [plv_put, plv_put] at h4
  exact ⟨rfl, queue_close (qc_close h4.put3 rfl hl.symm rfl rfl) hp2⟩

end Go.Proofs.Ytlilogcojeoelaa
