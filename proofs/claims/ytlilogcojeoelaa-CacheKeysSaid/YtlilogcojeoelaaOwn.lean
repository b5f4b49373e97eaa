/- Slices whose array the world holds: reading, appending. -/
import Derived.Test.YtlilogcojeoelaaSl
import Derived.Deep.RegionLaw
import Derived.BigQuiet
namespace Go.Proofs.Ytlilogcojeoelaa
set_option linter.all false
open Go Go.RowKit

/-- A slice value that owns its elements' cells. -/
def OwnB (e : TypeId) (size : Nat) (a : Option Addr) (n cap : Nat) (xs : List Value) : Assn :=
  match a with
  | none => pur (n = 0 ∧ cap = 0 ∧ xs = [])
  | some ad => ex fun cur : Array Value => pur (ad = ⟨ad.block, 0, none⟩ ∧ n ≤ cap ∧ cap ≤ maxLen ∧ cap * size ≤ cur.size ∧ xs.length = n * size ∧ cur.toList.take (n * size) = xs) * blk ad.block (.cells cur e (0, 0))
def Own (e : TypeId) (size : Nat) (v : Value) (n : Nat) (xs : List Value) : Assn :=
  ex fun p : Option Addr × Nat => pur (v = .slice p.1 n p.2) * OwnB e size p.1 n p.2 xs

section
variable {k : Env} {w : World} {e size n : Nat} {v : Value} {xs : List Value} {R : Assn}

theorem own_val (h : Sat k w (Own e size v n xs * R)) : ∃ a cap, v = .slice a n cap := by
  obtain ⟨p, h⟩ := Sat.ex.1 h
  rw [star_assoc] at h
  exact ⟨p.1, p.2, (Sat.pure.1 h).1⟩

theorem own_block {ad : Option Addr} {cap : Nat} (h : Sat k w (Own e size (.slice ad n cap) n xs * R)) :
    (ad = none ∧ n = 0 ∧ cap = 0 ∧ xs = [] ∧ Sat k w R) ∨
    ∃ g cur, ad = some ⟨g, 0, none⟩ ∧ n ≤ cap ∧ cap ≤ maxLen ∧ cap * size ≤ cur.size ∧ xs.length = n * size ∧ cur.toList.take (n * size) = xs ∧ Sat k w (blk g (.cells cur e (0, 0)) * R) := by
  obtain ⟨⟨a, c⟩, h⟩ := Sat.ex.1 h
  rw [star_assoc] at h
  obtain ⟨hv, h⟩ := Sat.pure.1 h
  simp only [Value.slice.injEq] at hv
  obtain ⟨rfl, _, rfl⟩ := hv
  cases ad with
  | none =>
    obtain ⟨⟨h1, h2, h3⟩, h⟩ := Sat.pure.1 h
    exact .inl ⟨rfl, h1, h2, h3, h⟩
  | some ad =>
    obtain ⟨cur, h⟩ := Sat.ex.1 h
    rw [star_assoc] at h
    obtain ⟨⟨h0, h1, h2, h3, h4, h5⟩, h⟩ := Sat.pure.1 h
    exact .inr ⟨ad.block, cur, by rw [← h0], h1, h2, h3, h4, h5, h⟩

theorem own_nil (h : Sat k w R) : Sat k w (Own e size (.slice none 0 0) 0 [] * R) :=
  Sat.ex.2 ⟨(none, 0), by rw [star_assoc]; exact Sat.pure.2 ⟨rfl, Sat.pure.2 ⟨⟨rfl, rfl, rfl⟩, h⟩⟩⟩

theorem own_mk {g cap : Nat} {cur : Array Value} (h : Sat k w (blk g (.cells cur e (0, 0)) * R)) (h1 : n ≤ cap) (h2 : cap ≤ maxLen) (h3 : cap * size ≤ cur.size) (h4 : xs.length = n * size) (h5 : cur.toList.take (n * size) = xs) :
    Sat k w (Own e size (.slice (some ⟨g, 0, none⟩) n cap) n xs * R) :=
  Sat.ex.2 ⟨(some ⟨g, 0, none⟩, cap), by
    rw [star_assoc]
    refine Sat.pure.2 ⟨rfl, ?_⟩
    show Sat k w (ex _ * R)
    exact Sat.ex.2 ⟨cur, by rw [star_assoc]; exact Sat.pure.2 ⟨⟨rfl, h1, h2, h3, h4, h5⟩, h⟩⟩⟩

theorem own_len (h : Sat k w (Own e size v n xs * R)) : xs.length = n * size := by
  obtain ⟨a, c, rfl⟩ := own_val h
  rcases own_block h with ⟨_, rfl, _, rfl, _⟩ | ⟨_, _, _, _, _, _, h, _⟩
  · simp
  · exact h

theorem own_cap {ad : Option Addr} {cap : Nat} (h : Sat k w (Own e size (.slice ad n cap) n xs * R)) : n ≤ cap ∧ cap ≤ maxLen := by
  rcases own_block h with ⟨_, rfl, rfl, rfl, _⟩ | ⟨_, _, _, h, h', _⟩
  · simp [maxLen]
  · exact ⟨h, h'⟩

theorem own_get {ad : Option Addr} {cap : Nat} (h : Sat k w (Own e size (.slice ad n cap) n xs * R)) (hn : 0 < n) :
    ∃ g, ad = some ⟨g, 0, none⟩ ∧ g < w.heap.size ∧ (∀ j, j < n * size → w.cell? ⟨g, j, none⟩ = xs[j]?) ∧ ∀ j, w.frozen? ⟨g, j, none⟩ = false := by
  rcases own_block h with ⟨_, rfl, _⟩ | ⟨g, cur, rfl, _, _, _, hl, ht, hs⟩
  · omega
  · refine ⟨g, rfl, hs.lt, fun j hj => ?_, fun j => hs.frozen j⟩
    rw [hs.cell, ← ht, List.getElem?_take, if_pos hj]; simp

theorem own_sub {ad : Option Addr} {cap : Nat} (h : Sat k w (Own e size (.slice ad n cap) n xs * R)) {m c : Nat} (hn : 0 < n) (hm : m ≤ c) (hc : c ≤ cap) (hmn : m ≤ n) :
    Sat k w (Own e size (.slice ad m c) m (xs.take (m * size)) * R) := by
  rcases own_block h with ⟨_, rfl, _⟩ | ⟨g, cur, rfl, h1, h2, h3, hl, ht, hs⟩
  · omega
  · have hms : m * size ≤ n * size := Nat.mul_le_mul_right _ hmn
    exact own_mk hs hm (Nat.le_trans hc h2) (Nat.le_trans (Nat.mul_le_mul_right _ hc) h3) (by rw [List.length_take, hl]; omega) (by rw [← ht, List.take_take, Nat.min_eq_left hms])

/-- What a slice type is, in a program. -/
structure SliceT (P : Program) (t e : TypeId) (z : Value) (size bytes : Nat) : Prop where
  und : P.underlying t = some (.slice e)
  info : (P.info? e).map (fun i => (i.zero, i.size, i.bytes)) = some (some z, size, bytes)
  zs : z.cells.size = size
  pos : 0 < size

theorem Sat.grown {w' : World} {row : Option Nat} (h : Sat k w R) (hg : w.grownBy w' row) (hr : row = none) : Sat k w' R := by
  subst hr
  obtain ⟨e, x, hx, r⟩ := h
  refine ⟨?_, x, fun i o hi => ?_, r⟩
  · rw [← e]; simp only [World.env, hg.os, hg.tape, hg.output]
  · have := hx i o hi
    rw [hg.block i (Array.getElem?_eq_some_iff.1 this).1 (by simp)]
    exact this

/-- New blocks that a world has got. -/
theorem Sat.grownNew {w' : World} {g : Nat} {o : Obj} (h : Sat k w R) (hg : w.grownBy w' none) (hb : w.heap.size ≤ g) (ho : w'.heap[g]? = some o) : Sat k w' (blk g o * R) := by
  obtain ⟨e, x, hx, r⟩ := h
  have hn : x g = none := by
    cases hxg : x g with
    | none => rfl
    | some o' => have := (Array.getElem?_eq_some_iff.1 (hx g o' hxg)).1; omega
  refine ⟨?_, Hp.join (Hp.one g o) x, fun i o' hi => ?_, Hp.one g o, x, fun i => ?_, rfl, rfl, r⟩
  · rw [← e]; simp only [World.env, hg.os, hg.tape, hg.output]
  · by_cases hig : i = g
    · subst hig
      simp [Hp.join, Hp.one] at hi
      rw [ho, hi]
    · simp [Hp.join, Hp.one, hig] at hi
      have := hx i o' hi
      rw [hg.block i (Array.getElem?_eq_some_iff.1 this).1 (by simp)]
      exact this
  · by_cases hig : i = g
    · subst hig; exact .inr hn
    · left; simp [Hp.one, hig]

theorem own_of_ownsRow {w' : World} {v' : Value} (h : Sat k w R) (hg : w.grownBy w' none) (ho : w'.ownsRow w.heap.size e size v' n xs) : Sat k w' (Own e size v' n xs * R) := by
  obtain ⟨hl, ⟨rfl, rfl⟩ | ⟨g, cap, cur, rfl, hb, hh, h1, h2, h3, h4⟩⟩ := ho
  · obtain rfl : xs = [] := List.length_eq_zero_iff.1 (by simpa using hl)
    exact own_nil (h.grown hg rfl)
  · exact own_mk (h.grownNew hg hb hh) h1 h2 (by omega) hl h4

theorem run_append_sat {P : Program} {t : TypeId} {z : Value} {bytes : Nat} (ty : TypeId) (T : SliceT P t e z size bytes) (h : Sat k w (Own e size v n xs * R))
    (a : Addr) (m c : Nat) (news : List Value) (hl : news.length = m * size) (hnews : ∀ j u, news[j]? = some u → w.cell? (a.add j) = some u) (h1 : ∀ u ∈ news, u.oneCell' = true)
    (h63 : n + m ≤ maxLen) (hbytes : (n + m) * bytes ≤ 140737488355328) :
    ∃ v' w', (Builtin.append_ #[t, t] ty #[v, .slice (some a) m c]).run P w = .ok v' w' ∧ Sat k w' (Own e size v' (n + m) (xs ++ news) * R) := by
  obtain ⟨i, hi, hz0, hz1, hz2⟩ := info_parts T.info
  obtain ⟨ad, cap, rfl⟩ := own_val h
  rcases own_block h with ⟨rfl, rfl, rfl, rfl, hR⟩ | ⟨g, cur, rfl, hc1, hc2, hc3, hlx, ht, hs⟩
  · obtain ⟨v', w', hr, ho, hg, _⟩ := run_append_own (P := P) w w.heap.size t ty e i z size bytes T.und hi hz0 hz1 hz2 T.zs T.pos _ 0 [] (World.ownsRow_nil _ _ _ _) a m c news hl hnews h1 h63 hbytes (Nat.le_refl _)
    exact ⟨v', w', hr, own_of_ownsRow hR hg ho⟩
  · by_cases hroom : n + m ≤ cap
    · have hmul : (n + m) * size ≤ cap * size := Nat.mul_le_mul_right _ hroom
      have hadd : (n + m) * size = n * size + m * size := Nat.add_mul _ _ _
      have hr := run_append_room (P := P) w t ty e i T.und hi g n cap cur hs.get a m c news (by rw [hz1]; exact hl) hnews h1 hroom (by rw [hz1, hl]; omega)
      rw [hz1] at hr
      refine ⟨_, _, hr, own_mk (hs.turn rfl (setRow_heap w g cur _ e _ hs.get) (fun j hj _ => setRow_other w g j _ hj)) hroom hc2 ?_ (by simp [hlx, hl, hadd]) ?_⟩
      · simp only [List.size_toArray, List.length_append, List.length_take, List.length_drop, Array.length_toList]
        omega
      · rw [hadd, ht, ← hlx, ← hl, ← List.length_append]
        exact List.take_left
    · obtain ⟨v', w', hr, ho, hg⟩ := run_append_arg_grows (P := P) w t ty e i z size bytes T.und hi hz0 hz1 hz2 T.zs T.pos ⟨g, 0, none⟩ n cap xs hlx (by
        intro j u hu
        rw [Addr.add_lit, Nat.zero_add, hs.cell]
        rw [← ht, List.getElem?_take] at hu
        split at hu
        · simpa using hu
        · cases hu) a m c news hl hnews (by omega) h63 hbytes
      exact ⟨v', w', hr, own_of_ownsRow hs.drop hg ho⟩

/-- append, from whatever source: a source that is nil or empty adds nothing. -/
theorem run_append_sat_any {P : Program} {t : TypeId} {z : Value} {bytes : Nat} (ty : TypeId) (T : SliceT P t e z size bytes) (h : Sat k w (Own e size v n xs * R))
    (a : Option Addr) (m c : Nat) (news : List Value) (hl : news.length = m * size) (hnews : 0 < m → ∃ ad, a = some ad ∧ ∀ j u, news[j]? = some u → w.cell? (ad.add j) = some u) (h1 : ∀ u ∈ news, u.oneCell' = true)
    (h63 : n + m ≤ maxLen) (hbytes : (n + m) * bytes ≤ 140737488355328) :
    ∃ v' w', (Builtin.append_ #[t, t] ty #[v, .slice a m c]).run P w = .ok v' w' ∧ Sat k w' (Own e size v' (n + m) (xs ++ news) * R) := by
  by_cases hm : 0 < m
  · obtain ⟨ad, rfl, hn⟩ := hnews hm
    exact run_append_sat ty T h ad m c news hl hn h1 h63 hbytes
  · obtain rfl : m = 0 := by omega
    obtain rfl : news = [] := List.length_eq_zero_iff.1 (by simpa using hl)
    cases a with
    | some ad => exact run_append_sat ty T h ad 0 c [] hl (by simp) h1 h63 hbytes
    | none =>
      obtain ⟨i, hi, hz0, hz1, hz2⟩ := info_parts T.info
      obtain ⟨ad, cap, rfl⟩ := own_val h
      refine ⟨.slice ad n cap, w, ?_, by simpa using h⟩
      have hcap := (own_cap h).1
      rcases own_block h with ⟨rfl, rfl, rfl, rfl, hR⟩ | ⟨g, cur, rfl, hc1, hc2, hc3, hlx, ht, hs⟩
      · simp [Builtin.append_, run_underlying T.und, sizeOf, typeInfo, hi, Builtin.lenOf, Builtin.firstCells]
      · simp [Builtin.append_, run_underlying T.und, sizeOf, typeInfo, hi, Builtin.lenOf, Builtin.firstCells, hcap, storeCells]

theorem wpList_append_sat {P : Program} {ops : Array Oper} {rest : List Oper} {o : Oper} {a : Act} {Q : Exit → Act → World → Prop} {t : TypeId} {z : Value} {bytes : Nat} (T : SliceT P t e z size bytes)
    (h : Sat k w (Own e size v n xs * R)) (s x : Operand) (ad : Option Addr) (m c : Nat) (news : List Value) (hgd : o.guard = none) 
    (ho : o.op = .call { callee := .builtin .append, args := #[s, x], argTypes := #[t, t] })
    (hs : a.eval s = v) (hx : a.eval x = .slice ad m c) (hl : news.length = m * size)
    (hnews : 0 < m → ∃ ad', ad = some ad' ∧ ∀ j u, news[j]? = some u → w.cell? (ad'.add j) = some u) (h1 : ∀ u ∈ news, u.oneCell' = true)
    (h63 : n + m ≤ maxLen) (hbytes : (n + m) * bytes ≤ 140737488355328)
    (hK : ∀ a' c' w', Sat k w' (Own e size (.slice a' (n + m) c') (n + m) (xs ++ news) * R) → wpList P ops Q rest (a.put o.dst (.slice a' (n + m) c')) w') : wpList P ops Q (o :: rest) a w := by
  refine wpList_plain hgd fun K hK' => ?_
  obtain ⟨v', w', hr, h2⟩ := run_append_sat_any o.type T h ad m c news hl hnews h1 h63 hbytes
  obtain ⟨a', c', rfl⟩ := own_val h2
  unfold Oper.wp execOp
  simp only [ho, resolve, invoke, builtin, Sem.run_bind, Sem.run_pure, Result.andThen_ok, List.map_toArray, List.map_cons, List.map_nil, hs, hx, hr]
  exact hK' _ _ (hK a' c' w' h2)

theorem step_append_sat {P : Program} {ops : Array Oper} {o : Oper} {a : Act} {K : Act → World → Prop} {Q : Exit → Act → World → Prop} {E : Prop} {t : TypeId} {z : Value} {bytes : Nat} (T : SliceT P t e z size bytes)
    (h : Sat k w (Own e size v n xs * R)) (s x : Operand) (ad : Option Addr) (m c : Nat) (news : List Value) (hgd : o.guard = none) 
    (ho : o.op = .call { callee := .builtin .append, args := #[s, x], argTypes := #[t, t] })
    (hs : a.eval s = v) (hx : a.eval x = .slice ad m c) (hl : news.length = m * size)
    (hnews : 0 < m → ∃ ad', ad = some ad' ∧ ∀ j u, news[j]? = some u → w.cell? (ad'.add j) = some u) (h1 : ∀ u ∈ news, u.oneCell' = true)
    (h63 : n + m ≤ maxLen) (hbytes : (n + m) * bytes ≤ 140737488355328)
    (hK : ∀ a' c' w', Sat k w' (Own e size (.slice a' (n + m) c') (n + m) (xs ++ news) * R) → K (a.put o.dst (.slice a' (n + m) c')) w') : if Region.wanted o (yielded ops a.tmps) = true then Oper.wp P o a w K Q else E := by
  have hw : Region.wanted o (yielded ops a.tmps) = true := by simp [Region.wanted, hgd]
  rw [if_pos hw]
  obtain ⟨v', w', hr, h2⟩ := run_append_sat_any o.type T h ad m c news hl hnews h1 h63 hbytes
  obtain ⟨a', c', rfl⟩ := own_val h2
  unfold Oper.wp execOp
  simp only [ho, resolve, invoke, builtin, Sem.run_bind, Sem.run_pure, Result.andThen_ok, List.map_toArray, List.map_cons, List.map_nil, hs, hx, hr]
  exact hK a' c' w' h2
end

/-- The cells of a block that was laid just now. -/
theorem new_cells (w : World) (cs : List Value) (E : TypeId) : ∀ j u, cs[j]? = some u → (w.alloc (.cells cs.toArray E)).cell? ((⟨w.heap.size, 0, none⟩ : Addr).add j) = some u := by
  intro j u hu
  rw [Addr.add_lit, Nat.zero_add, World.cell?_alloc_new]
  simpa using hu

theorem new_cells_at (w : World) (g : Nat) (cs : List Value) (E : TypeId) (hg : w.heap.size = g) : ∀ j u, cs[j]? = some u → (w.alloc (.cells cs.toArray E)).cell? ((⟨g, 0, none⟩ : Addr).add j) = some u := by
  subst hg
  exact new_cells w cs E

end Go.Proofs.Ytlilogcojeoelaa
