/- Package vers: how tables' numbers lie in memory, and what is so of them. -/
import Derived.Test.YtbeidnddahglbaaMA
import Derived.Test.YtbeidnddahglbaaSlruA
import Derived.StillTailTactics
namespace Go.Proofs.Ytbeidnddahglbaa
set_option linter.all false
open Go Go.RowKit


abbrev pv (b : Nat) : Value := .pointer (some ⟨b, 0, none⟩)
structure Tb where
  name : ByteArray
  t : Nat
  m : Nat
  num : Int
  ds : List (Int × Int)

def tents (L : List Tb) : List (ByteArray × Value) := L.map fun x => (x.name, pv x.t)
def dents (l : List (Int × Int)) : List (Int × Value) := l.map fun x => (x.1, .int .i64 x.2)
def hents (l : List (ByteArray × Int)) : List (ByteArray × Value) := l.map fun x => (x.1, .int .i64 x.2)
def tbR (x : Tb) : Assn := blk x.t (.cells #[.int .i64 x.num, .map (some x.m)] 97 (0, 0)) * MapK (Value.int .i64) x.m (dents x.ds)
def VersR (b : Nat) (ep : Int) (L : List Tb) : Assn := ex fun m : Nat => blk b (.cells #[.int .i64 ep, .map (some m)] 91 (0, 0)) * (MapK Value.string m (tents L) * stars tbR L)

theorem dents_get (c : Int) (l : List (Int × Int)) : mget c (dents l) = (mget c l).map (Value.int .i64) := mget_map (Value.int .i64) c l
theorem dents_put (c v : Int) (l : List (Int × Int)) : mput c (.int .i64 v) (dents l) = dents (mput c v l) := mput_map (Value.int .i64) c v l
theorem dents_del (c : Int) (l : List (Int × Int)) : mdel c (dents l) = dents (mdel c l) := mdel_map (Value.int .i64) c l
theorem hents_get (c : ByteArray) (l : List (ByteArray × Int)) : mget c (hents l) = (mget c l).map (Value.int .i64) := mget_map (Value.int .i64) c l
theorem hents_put (c : ByteArray) (v : Int) (l : List (ByteArray × Int)) : mput c (.int .i64 v) (hents l) = hents (mput c v l) := mput_map (Value.int .i64) c v l

def tget (s : ByteArray) : List Tb → Option Tb
  | [] => none
  | x :: r => if x.name = s then some x else tget s r
theorem tents_get (s : ByteArray) (L : List Tb) : mget s (tents L) = (tget s L).map fun x => pv x.t := by
  induction L with
  | nil => rfl
  | cons x r ih =>
    show (if x.name = s then some (pv x.t) else mget s (tents r)) = _
    rw [ih, tget]
    split <;> rfl
theorem tget_name {s : ByteArray} {L : List Tb} {x : Tb} (h : tget s L = some x) : x.name = s := by
  induction L with
  | nil => cases h
  | cons y r ih =>
    rw [tget] at h
    split at h
    · cases h; assumption
    · exact ih h
theorem tget_split {s : ByteArray} {L : List Tb} {x : Tb} (h : tget s L = some x) : ∃ p q, L = p ++ x :: q := by
  induction L with
  | nil => cases h
  | cons y r ih =>
    rw [tget] at h
    split at h
    · cases h; exact ⟨[], r, rfl⟩
    · obtain ⟨p, q, rfl⟩ := ih h
      exact ⟨y :: p, q, rfl⟩
theorem tget_none {s : ByteArray} {L : List Tb} : tget s L = none ↔ s ∉ L.map (·.name) := by
  induction L with
  | nil => simp [tget]
  | cons y r ih =>
    rw [tget]
    split
    · rename_i h; simp [h]
    · rename_i h
      rw [ih]
      simp only [List.map_cons, List.mem_cons, not_or]
      exact ⟨fun q => ⟨fun e => h e.symm, q⟩, fun q => q.2⟩
theorem tget_mid {p q : List Tb} {x x' : Tb} (hn : ((p ++ x :: q).map (·.name)).Nodup) (he : x'.name = x.name) (s : ByteArray) :
    tget s (p ++ x' :: q) = if x.name = s then some x' else tget s (p ++ x :: q) := by
  induction p with
  | nil =>
    simp only [List.nil_append, tget, he]
    split <;> rfl
  | cons y r ih =>
    simp only [List.cons_append, List.map_cons, List.nodup_cons] at hn
    rw [List.cons_append, List.cons_append, tget, tget, ih hn.2]
    by_cases hy : y.name = s
    · rw [if_pos hy, if_pos hy]
      rw [if_neg]
      intro hx
      exact hn.1 (by rw [hy, ← hx]; simp)
    · rw [if_neg hy, if_neg hy]
theorem tget_snoc {L : List Tb} {x : Tb} (h : tget x.name L = none) (s : ByteArray) : tget s (L ++ [x]) = if x.name = s then some x else tget s L := by
  induction L with
  | nil => simp [tget]
  | cons y r ih =>
    rw [tget] at h
    split at h
    · cases h
    · rename_i hy
      rw [List.cons_append, tget, ih h, tget]
      by_cases hs : y.name = s
      · rw [if_pos hs, if_pos hs, if_neg (fun e => hy (hs.trans e.symm))]
      · rw [if_neg hs, if_neg hs]
theorem tget_at {p q : List Tb} {x : Tb} (hn : ((p ++ x :: q).map (·.name)).Nodup) : tget x.name (p ++ x :: q) = some x := by
  rw [tget_mid hn rfl, if_pos rfl]

/-- What has changed, and who is changing what. -/
structure VS where
  ep : Int
  N : ByteArray → Int
  D : ByteArray → Int → Bool

structure Tie (L : List Tb) (V : VS) (n : Nat) : Prop where
  nd : (L.map (·.name)).Nodup
  num : ∀ s, V.N s = (tget s L).elim 0 (·.num)
  dir : ∀ s c, V.D s c = (tget s L).elim false fun x => (mget c x.ds).isSome
  b : ∀ x ∈ L, 0 ≤ x.num ∧ x.num ≤ n ∧ ∀ c v, mget c x.ds = some v → 0 ≤ v ∧ v ≤ n
  e : 0 ≤ V.ep ∧ V.ep ≤ n

theorem Tie.more {L : List Tb} {V : VS} {n m : Nat} (h : Tie L V n) (hm : n ≤ m) : Tie L V m :=
  ⟨h.nd, h.num, h.dir, fun x hx => by
    obtain ⟨h1, h2, h3⟩ := h.b x hx
    exact ⟨h1, by omega, fun c v hv => by have := h3 c v hv; omega⟩, by have := h.e; omega⟩
theorem Tie.new {L : List Tb} {V : VS} {n : Nat} (h : Tie L V n) {x : Tb} (hx : tget x.name L = none) (h0 : x.num = 0) (hd : x.ds = []) : Tie (L ++ [x]) V n := by
  refine ⟨?_, fun s => ?_, fun s c => ?_, fun y hy => ?_, h.e⟩
  · rw [List.map_append, List.nodup_append]
    refine ⟨h.nd, by simp, ?_⟩
    intro a ha b hb
    simp only [List.map_cons, List.map_nil, List.mem_singleton] at hb
    subst hb
    rintro rfl
    exact tget_none.1 hx ha
  · rw [tget_snoc hx, h.num]
    by_cases e : x.name = s
    · subst e; rw [if_pos rfl, hx]; exact h0.symm
    · rw [if_neg e]
  · rw [tget_snoc hx, h.dir]
    by_cases e : x.name = s
    · subst e; rw [if_pos rfl, hx]
      show false = (mget c x.ds).isSome
      rw [hd]; rfl
    · rw [if_neg e]
  · rcases List.mem_append.1 hy with hy | hy
    · exact h.b y hy
    · simp only [List.mem_singleton] at hy
      subst hy
      rw [h0, hd]
      exact ⟨by omega, by omega, fun c v hv => by cases hv⟩
theorem Tie.upd {p q : List Tb} {x x' : Tb} {V V' : VS} {n m : Nat} (h : Tie (p ++ x :: q) V n) (he : x'.name = x.name) (hm : n ≤ m) (hN : ∀ s, V'.N s = if x.name = s then x'.num else V.N s)
    (hD : ∀ s c, V'.D s c = if x.name = s then (mget c x'.ds).isSome else V.D s c) (hp : V'.ep = V.ep) (hb : 0 ≤ x'.num ∧ x'.num ≤ m ∧ ∀ c v, mget c x'.ds = some v → 0 ≤ v ∧ v ≤ m) : Tie (p ++ x' :: q) V' m := by
  have h' := h.more hm
  refine ⟨?_, fun s => ?_, fun s c => ?_, fun y hy => ?_, by rw [hp]; exact h'.e⟩
  · have := h.nd
    simp only [List.map_append, List.map_cons] at this ⊢
    rw [he]; exact this
  · rw [tget_mid h.nd he, hN, h.num]
    split <;> rfl
  · rw [tget_mid h.nd he, hD, h.dir]
    split <;> rfl
  · rw [List.mem_append, List.mem_cons] at hy
    rcases hy with hy | rfl | hy
    · exact h'.b y (by simp [hy])
    · exact hb
    · exact h'.b y (by simp [hy])

def VersV (b : Nat) (V : VS) (n : Nat) : Assn := ex fun L : List Tb => pur (Tie L V n) * VersR b V.ep L

section
variable {k : Env} {w : World} {b n : Nat} {V : VS} {L : List Tb} {ep : Int} {R : Assn}
theorem vr_open (h : Sat k w (VersR b ep L * R)) : ∃ m, Sat k w (blk b (.cells #[.int .i64 ep, .map (some m)] 91 (0, 0)) * (MapK Value.string m (tents L) * (stars tbR L * R))) := by
  obtain ⟨m, h⟩ := Sat.ex.1 h
  simp only [star_assoc] at h
  exact ⟨m, h⟩
theorem vr_close {m : Nat} {l : List (ByteArray × Value)} (h : Sat k w (blk b (.cells #[.int .i64 ep, .map (some m)] 91 (0, 0)) * (MapK Value.string m l * (stars tbR L * R)))) (hl : l = tents L) : Sat k w (VersR b ep L * R) := by
  subst hl
  exact Sat.ex.2 ⟨m, by simp only [star_assoc]; exact h⟩
theorem vv_open (h : Sat k w (VersV b V n * R)) : ∃ L, Tie L V n ∧ Sat k w (VersR b V.ep L * R) := by
  obtain ⟨L, h⟩ := Sat.ex.1 h
  rw [star_assoc] at h
  obtain ⟨h1, h⟩ := Sat.pure.1 h
  exact ⟨L, h1, h⟩
theorem vv_close (h : Sat k w (VersR b ep L * R)) (ht : Tie L V n) (he : ep = V.ep) : Sat k w (VersV b V n * R) := by
  subst he
  exact Sat.ex.2 ⟨L, by rw [star_assoc]; exact Sat.pure.2 ⟨ht, h⟩⟩
theorem vv_more {m : Nat} (h : Sat k w (VersV b V n * R)) (hm : n ≤ m) : Sat k w (VersV b V m * R) := by
  obtain ⟨L, h1, h2⟩ := vv_open h
  exact vv_close h2 (h1.more hm) rfl
/-- One table's cells. -/
theorem vr_at {p q : List Tb} {x : Tb} (h : Sat k w (VersR b ep (p ++ x :: q) * R)) : ∃ m, Sat k w (blk b (.cells #[.int .i64 ep, .map (some m)] 91 (0, 0)) * (blk x.t (.cells #[.int .i64 x.num, .map (some x.m)] 97 (0, 0)) * (MapK (Value.int .i64) x.m (dents x.ds) * (MapK Value.string m (tents (p ++ x :: q)) * (stars tbR (p ++ q) * R))))) := by
  obtain ⟨m, h⟩ := vr_open h
  rw [stars_mid] at h
  exact ⟨m, h.of_eq (by unfold tbR; ac_rfl)⟩
theorem vr_at_close {p q : List Tb} {x : Tb} {m t mm : Nat} {num : Int} {l : List (ByteArray × Value)} {d : List (Int × Value)} (h : Sat k w (blk b (.cells #[.int .i64 ep, .map (some m)] 91 (0, 0)) * (blk t (.cells #[.int .i64 num, .map (some mm)] 97 (0, 0)) * (MapK (Value.int .i64) mm d * (MapK Value.string m l * (stars tbR (p ++ q) * R))))))
    (ht : t = x.t) (hm : mm = x.m) (hnum : num = x.num) (hd : d = dents x.ds) (hl : l = tents (p ++ x :: q)) : Sat k w (VersR b ep (p ++ x :: q) * R) := by
  subst ht hm hnum hd hl
  refine vr_close (m := m) (h.of_eq ?_) rfl
  rw [stars_mid]; unfold tbR; ac_rfl
end

theorem KStrT : KeyT Try.prog 9 Value.string := keyT_string Try.underlying9
theorem KIntT : KeyT Try.prog 3 (Value.int .i64) := keyT_int Try.underlying3
theorem mapTb : Try.prog.underlying 84 = some (.map 9 94) := Try.underlying84
theorem mapDi : Try.prog.underlying 95 = some (.map 3 3) := Try.underlying95
theorem mapHa : Try.prog.underlying 109 = some (.map 9 3) := Try.underlying109
theorem zeroTb (w : World) : (zeroValue 94).run Try.prog w = .ok (.pointer none) w := by kernel_rfl
theorem zeroInt (w : World) : (zeroValue 3).run Try.prog w = .ok (.int .i64 0) w := by kernel_rfl

/-- What a slice of strings that is handed in reads as, whatever else is done. -/
def Rd (k : Env) (R : Assn) (a : Option Addr) (l : List ByteArray) : Prop :=
  ∃ g o, (l ≠ [] → a = some ⟨g, o, none⟩) ∧ ∀ w' : World, Sat k w' R → ∀ j (hj : j < l.length), w'.cell? ⟨g, o + j, none⟩ = some (.string l[j])
theorem rd_nil (k : Env) (R : Assn) (a : Option Addr) : Rd k R a [] := ⟨0, 0, fun h => absurd rfl h, fun _ _ j hj => by cases hj⟩
theorem rd_own {k : Env} {w : World} {R : Assn} {a : Option Addr} {c : Nat} {l : List ByteArray} (h : Sat k w (Strs (.slice a l.length c) l * R)) : Rd k (Strs (.slice a l.length c) l * R) a l := by
  cases l with
  | nil => exact rd_nil k _ a
  | cons x r =>
    obtain ⟨g, rfl, _, _⟩ := strs_get h 0 (by simp)
    refine ⟨g, 0, fun _ => rfl, fun w' h' j hj => ?_⟩
    obtain ⟨g', hg, _, hc⟩ := strs_get h' j hj
    simp only [Option.some.injEq, Addr.mk.injEq, and_true] at hg
    subst hg
    rw [Nat.zero_add]; exact hc
theorem Rd.mono {k : Env} {R R' : Assn} {a : Option Addr} {l : List ByteArray} (h : Rd k R a l) (hm : ∀ w', Sat k w' R' → Sat k w' R) : Rd k R' a l := by
  obtain ⟨g, o, h1, h2⟩ := h
  exact ⟨g, o, h1, fun w' h' => h2 w' (hm w' h')⟩

end Go.Proofs.Ytbeidnddahglbaa
