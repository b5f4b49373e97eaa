/- Bytes of a string, owned: a row that may bear the mark which '[]byte(s)' lays. -/
import Derived.Test.YtoeepbjnbgpmpaaMA
import Derived.Laws.IdiomStrings
import Derived.ArgAppend
namespace Go.Proofs.Ytoeepbjnbgpmpaa
set_option linter.all false
open Go Go.RowKit

def arrSets (cs : Array Value) (o : Nat) : List Value → Array Value
  | [] => cs
  | v :: r => arrSets (cs.setIfInBounds o v) (o + 1) r
theorem arrSets_size (cs : Array Value) (o : Nat) (l : List Value) : (arrSets cs o l).size = cs.size := by
  induction l generalizing cs o with
  | nil => rfl
  | cons v r ih => rw [arrSets, ih]; simp
theorem arrSets_take (cs : Array Value) (o : Nat) (l : List Value) (h : o + l.length ≤ cs.size) : (arrSets cs o l).toList.take (o + l.length) = cs.toList.take o ++ l := by
  induction l generalizing cs o with
  | nil => simp [arrSets]
  | cons v r ih =>
    rw [List.length_cons] at h
    have := ih (cs.setIfInBounds o v) (o + 1) (by simp; omega)
    rw [arrSets, List.length_cons, show o + (r.length + 1) = o + 1 + r.length by omega, this]
    have ho : o < cs.toList.length := by simp; omega
    rw [Array.toList_setIfInBounds, List.take_succ, List.take_set_of_le (Nat.le_refl o), List.getElem?_set, if_pos rfl, if_pos ho]
    simp

/-- Bytes that are owned: at n, of a row with room; the row may bear a mark behind its end. -/
def OwnF (e : TypeId) (v : Value) (n : Nat) (xs : List Value) : Assn :=
  ex fun p : (Nat × Nat) × (Array Value × (Nat × Nat)) =>
    pur (v = .slice (some ⟨p.1.1, 0, none⟩) n p.1.2 ∧ n ≤ p.1.2 ∧ p.1.2 ≤ maxLen ∧ p.1.2 ≤ p.2.1.size ∧ xs.length = n ∧ p.2.1.toList.take n = xs ∧ ∀ i, i < p.1.2 → ¬ (p.2.2.1 ≤ i ∧ i < p.2.2.2)) * blk p.1.1 (.cells p.2.1 e p.2.2)

section
variable {k : Env} {w : World} {e : TypeId} {n : Nat} {v : Value} {xs : List Value} {R : Assn}

theorem Sat.sets {b : Nat} {cs : Array Value} {E : TypeId} {fr : Nat × Nat} (h : Sat k w (blk b (.cells cs E fr) * R)) (o : Nat) (l : List Value) : Sat k (w.setCells b o l) (blk b (.cells (arrSets cs o l) E fr) * R) := by
  induction l generalizing w cs o with
  | nil => exact h
  | cons v r ih => exact ih (h.set o v) (o + 1)
theorem ownF_open (h : Sat k w (OwnF e v n xs * R)) : ∃ g cap cur fr, v = .slice (some ⟨g, 0, none⟩) n cap ∧ n ≤ cap ∧ cap ≤ maxLen ∧ cap ≤ cur.size ∧ xs.length = n ∧ cur.toList.take n = xs ∧ (∀ i, i < cap → ¬ (fr.1 ≤ i ∧ i < fr.2)) ∧ Sat k w (blk g (.cells cur e fr) * R) := by
  obtain ⟨⟨⟨g, cap⟩, ⟨cur, fr⟩⟩, h⟩ := Sat.ex.1 h
  rw [star_assoc] at h
  obtain ⟨⟨h1, h2, h3, h4, h5, h6, h7⟩, h⟩ := Sat.pure.1 h
  exact ⟨g, cap, cur, fr, h1, h2, h3, h4, h5, h6, h7, h⟩
theorem ownF_mk {g cap : Nat} {cur : Array Value} {fr : Nat × Nat} (h : Sat k w (blk g (.cells cur e fr) * R)) (h1 : n ≤ cap) (h2 : cap ≤ maxLen) (h3 : cap ≤ cur.size) (h4 : xs.length = n) (h5 : cur.toList.take n = xs) (h6 : ∀ i, i < cap → ¬ (fr.1 ≤ i ∧ i < fr.2)) :
    Sat k w (OwnF e (.slice (some ⟨g, 0, none⟩) n cap) n xs * R) :=
  Sat.ex.2 ⟨((g, cap), (cur, fr)), by rw [star_assoc]; exact Sat.pure.2 ⟨⟨rfl, h1, h2, h3, h4, h5, h6⟩, h⟩⟩
theorem ownF_val (h : Sat k w (OwnF e v n xs * R)) : ∃ g cap, v = .slice (some ⟨g, 0, none⟩) n cap ∧ n ≤ cap ∧ cap ≤ maxLen := by
  obtain ⟨g, cap, _, _, h1, h2, h3, _⟩ := ownF_open h
  exact ⟨g, cap, h1, h2, h3⟩
theorem ownF_cell {g cap : Nat} (h : Sat k w (OwnF e (.slice (some ⟨g, 0, none⟩) n cap) n xs * R)) (j : Nat) (hj : j < n) : w.cell? ⟨g, j, none⟩ = xs[j]? := by
  obtain ⟨g', cap', cur, fr, he, h1, h2, h3, h4, h5, h6, hs⟩ := ownF_open h
  simp only [Value.slice.injEq, Option.some.injEq, Addr.mk.injEq, and_true, true_and] at he
  obtain ⟨rfl, rfl⟩ := he
  rw [hs.cell, ← h5, List.getElem?_take, if_pos hj]
  simp
theorem frozen_at {g : Nat} {cur : Array Value} {fr : Nat × Nat} (h : Sat k w (blk g (.cells cur e fr) * R)) (i : Nat) (hi : ¬ (fr.1 ≤ i ∧ i < fr.2)) : w.frozen? ⟨g, i, none⟩ = false := by
  simp [World.frozen?, h.get]
  omega

theorem run_append_F {P : Program} {t : TypeId} {z : Value} {bytes : Nat} (ty : TypeId) (T : SliceT P t e z 1 bytes) (h : Sat k w (OwnF e v n xs * R))
    (a : Addr) (m c : Nat) (news : List Value) (hm : 0 < m) (hl : news.length = m) (hnews : ∀ j u, news[j]? = some u → w.cell? (a.add j) = some u) (h1 : ∀ u ∈ news, u.oneCell' = true)
    (h63 : n + m ≤ maxLen) (hbytes : (n + m) * bytes ≤ 140737488355328) :
    ∃ v' w', (Builtin.append_ #[t, t] ty #[v, .slice (some a) m c]).run P w = .ok v' w' ∧ Sat k w' (OwnF e v' (n + m) (xs ++ news) * R) := by
  obtain ⟨i, hi, hz0, hz1, hz2⟩ := info_parts T.info
  obtain ⟨g, cap, cur, fr, rfl, hc1, hc2, hc3, hlx, ht, hfr, hs⟩ := ownF_open h
  by_cases hroom : n + m ≤ cap
  · have hr := run_append_room_cells (P := P) w t ty e i T.und hi g 0 n cap a m c news (by rw [hz1]; omega) hnews h1 hroom
      (fun j hj => by rw [hz1, hs.cell]; rw [Array.getElem?_eq_getElem (by omega)]; rfl) (fun j hj => by rw [hz1]; exact frozen_at hs _ (hfr _ (by omega)))
    rw [hz1] at hr
    refine ⟨_, _, hr, ownF_mk (hs.sets _ _) hroom hc2 (by rw [arrSets_size]; exact hc3) (by rw [List.length_append]; omega) ?_ hfr⟩
    have := arrSets_take cur n news (by omega)
    rw [ht, hl] at this
    simpa using this
  · obtain ⟨v', w', hr, ho, hg⟩ := run_append_arg_grows (P := P) w t ty e i z 1 bytes T.und hi hz0 hz1 hz2 T.zs T.pos ⟨g, 0, none⟩ n cap xs (by omega) (by
      intro j u hu
      rw [Addr.add_lit, Nat.zero_add, hs.cell]
      rw [← ht, List.getElem?_take] at hu
      split at hu
      · simpa using hu
      · cases hu) a m c news (by omega) hnews (by omega) h63 hbytes
    have h2 := own_of_ownsRow hs.drop hg ho
    obtain ⟨ad, c', rfl⟩ := own_val h2
    rcases own_block h2 with ⟨_, h0, _⟩ | ⟨g', cur', rfl, hd1, hd2, hd3, hd4, hd5, hs'⟩
    · omega
    · exact ⟨_, w', hr, ownF_mk hs' hd1 hd2 (by omega) (by omega) (by simpa using hd5) (fun i _ => by simp)⟩

theorem wpList_append_F {P : Program} {ops : Array Oper} {rest : List Oper} {o : Oper} {a : Act} {Q : Exit → Act → World → Prop} {t : TypeId} {z : Value} {bytes : Nat} (T : SliceT P t e z 1 bytes)
    (h : Sat k w (OwnF e v n xs * R)) (s x : Operand) (ad : Addr) (m c : Nat) (news : List Value) (hgd : o.guard = none) 
    (ho : o.op = .call { callee := .builtin .append, args := #[s, x], argTypes := #[t, t] })
    (hs : a.eval s = v) (hx : a.eval x = .slice (some ad) m c) (hm : 0 < m) (hl : news.length = m)
    (hnews : ∀ j u, news[j]? = some u → w.cell? (ad.add j) = some u) (h1 : ∀ u ∈ news, u.oneCell' = true)
    (h63 : n + m ≤ maxLen) (hbytes : (n + m) * bytes ≤ 140737488355328)
    (hK : ∀ g' c' w', Sat k w' (OwnF e (.slice (some ⟨g', 0, none⟩) (n + m) c') (n + m) (xs ++ news) * R) → wpList P ops Q rest (a.put o.dst (.slice (some ⟨g', 0, none⟩) (n + m) c')) w') : wpList P ops Q (o :: rest) a w := by
  refine wpList_plain hgd fun K hK' => ?_
  obtain ⟨v', w', hr, h2⟩ := run_append_F o.type T h ad m c news hm hl hnews h1 h63 hbytes
  obtain ⟨a', c', rfl, _⟩ := ownF_val h2
  unfold Oper.wp execOp
  simp only [ho, resolve, invoke, builtin, Sem.run_bind, Sem.run_pure, Result.andThen_ok, List.map_toArray, List.map_cons, List.map_nil, hs, hx, hr]
  exact hK' _ _ (hK a' c' w' h2)

def byteV (b : UInt8) : Value := .int .u8 (b.toNat : Int)
def byteVs (l : List UInt8) : List Value := l.map byteV

/-- '[]byte(s)'. -/
theorem bytes_made (h : Sat k w R) (s : ByteArray) (cap : Nat) (hc : s.size ≤ cap) (hm : cap ≤ maxLen) (fr : Nat × Nat) (hf : cap ≤ fr.1) :
    Sat k (w.drew.alloc (.cells (bytesRow s cap) e fr)) (OwnF e (.slice (some ⟨w.heap.size, 0, none⟩) s.size cap) s.size (byteVs s.data.toList) * R) := by
  have hz : (bytesRow s cap).size = cap := by unfold bytesRow; have : s.data.size = s.size := rfl; simp; try omega
  refine ownF_mk (h.drew.alloc _) hc hm (by omega) (by simp [byteVs]) ?_ (fun i hi q => by omega)
  unfold bytesRow byteVs byteV
  rw [Array.toList_append, List.take_append_of_le_length (by have : s.data.size = s.size := rfl; simp <;> omega)]
  rw [Array.toList_map, List.take_of_length_le (by have : s.data.size = s.size := rfl; simp <;> omega)]
/-- 'string(b)'. -/
theorem bytes_back {P : Program} {g cap : Nat} {l : List UInt8} (src dst : TypeId) (hs : P.underlying src = some (.slice e)) (he : P.underlying e = some (.int .u8)) (hd : P.underlying dst = some .string)
    (h : Sat k w (OwnF e (.slice (some ⟨g, 0, none⟩) l.length cap) l.length (byteVs l) * R)) : (convert src dst (.slice (some ⟨g, 0, none⟩) l.length cap)).run P w = .ok (.string ⟨l.toArray⟩) w :=
  run_convert_bytes_back w src dst e ⟨g, 0, none⟩ cap l hs he hd fun j hj => by
    rw [Addr.add_lit, Nat.zero_add, ownF_cell h j hj]
    simp [byteVs, byteV, hj]
end

end Go.Proofs.Ytoeepbjnbgpmpaa
