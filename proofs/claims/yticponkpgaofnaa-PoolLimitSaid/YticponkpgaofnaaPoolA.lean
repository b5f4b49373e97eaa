/- A pool, as it lies in memory. -/
import Derived.Test.YticponkpgaofnaaLineC
import Derived.Test.YticponkpgaofnaaPoolM
import Derived.Test.YticponkpgaofnaaMapR
import Derived.Test.YticponkpgaofnaaOwn2
import Derived.Test.YticponkpgaofnaaStrs
import Derived.Deep.RegionHeld3
import Derived.Deep.DeepCutAuto
import Derived.Deep.CutBlock
namespace Go.Proofs.Yticponkpgaofnaa
set_option linter.all false
open Go Go.RowKit

abbrev pt (a : Nat) : Value := .pointer (some ⟨a, 0, none⟩)
/-- A pool's sizes. -/
structure PP where
  lim : Int
  que : Int
  wt : Int
  idl : Int
def PP.ok (P : PP) : Prop := 1 ≤ P.lim ∧ P.lim ≤ 1000 ∧ 1 ≤ P.que ∧ P.que ≤ 1000 ∧ 1 ≤ P.wt ∧ P.wt ≤ 549755813888 ∧ 1 ≤ P.idl ∧ P.idl ≤ 549755813888

def cellsC (gb : Nat) (c : Cn) : Array Value := #[.int .i64 c.num, pt gb, .int .i64 c.cl, .int .i64 c.since, .bool c.pin]
def connR (A : Int → Nat) (gb : Nat) (c : Cn) : Assn := blk (A c.num) (.cells (cellsC gb c) 72 (0, 0))
def cptr (A : Int → Nat) (l : List Cn) : List Value := l.map fun c => pt (A c.num)
def groupR (A : Int → Nat) (B L : ByteArray → Nat) (que : Int) (g : Gp) : Assn :=
  ex fun v => blk (B g.name) (.cells #[v, pt (L g.name)] 62 (0, 0)) * (Own 56 1 v g.cs.length (cptr A g.cs) * (LineR (L g.name) g.sp que * stars (connR A (B g.name)) g.cs))
def gents (B : ByteArray → Nat) (G : List Gp) : List (ByteArray × Value) := G.map fun g => (g.name, pt (B g.name))
def ments (A : Int → Nat) (M : List (Int × Int)) : List (Int × Value) := M.map fun x => (x.1, pt (A x.2))
def cellsP (P : PP) (last : Int) (mG : Nat) (vN : Value) (mC mK : Nat) : Array Value :=
  #[.int .i64 P.lim, .int .i64 P.que, .int .i64 P.wt, .int .i64 P.idl, .int .i64 last, .map (some mG), vN, .map (some mC), .map (some mK)]
def PoolR (b : Nat) (P : PP) (last : Int) (A : Int → Nat) (B L : ByteArray → Nat) (G : List Gp) (N : List ByteArray) (M K : List (Int × Int)) : Assn :=
  ex fun p : Nat × Value × Nat × Nat => blk b (.cells (cellsP P last p.1 p.2.1 p.2.2.1 p.2.2.2) 52 (0, 0)) *
    (MapK Value.string p.1 (gents B G) * (Strs p.2.1 N * (MapK (Value.int .i64) p.2.2.1 (ments A M) * (MapK (Value.int .i64) p.2.2.2 (ments A K) * stars (groupR A B L P.que) G))))

theorem TPtr : SliceT Try.prog 59 56 (.pointer none) 1 8 := ⟨by kernel_rfl, by kernel_rfl, rfl, by decide⟩
theorem KStr : KeyT Try.prog 9 Value.string := keyT_string Try.underlying9
theorem KInt : KeyT Try.prog 3 (Value.int .i64) := keyT_int Try.underlying3
theorem mapG : Try.prog.underlying 48 = some (.map 9 57) := Try.underlying48
theorem mapC : Try.prog.underlying 50 = some (.map 3 56) := Try.underlying50
theorem zeroG (w : World) : (zeroValue 57).run Try.prog w = .ok (.pointer none) w := by kernel_rfl
theorem zeroC (w : World) : (zeroValue 56).run Try.prog w = .ok (.pointer none) w := by kernel_rfl

theorem gents_get {B : ByteArray → Nat} {p q : List Gp} {g : Gp} (hn : ((p ++ g :: q).map (·.name)).Nodup) : mget g.name (gents B (p ++ g :: q)) = some (pt (B g.name)) := by
  refine (mget_mem ?_).2 ?_
  · unfold gents; rw [List.map_map]; exact hn
  · exact List.mem_map.2 ⟨g, by simp, rfl⟩
theorem gents_none {B : ByteArray → Nat} {G : List Gp} {s : ByteArray} (h : ∀ g ∈ G, g.name ≠ s) : mget s (gents B G) = none := by
  refine mget_none.2 fun x hx => ?_
  obtain ⟨g, hg, rfl⟩ := List.mem_map.1 hx
  exact h g hg
theorem ments_get (A : Int → Nat) (M : List (Int × Int)) (n : Int) : mget n (ments A M) = (mget n M).map fun v => pt (A v) := mget_map (fun v => pt (A v)) n M
theorem ments_put (A : Int → Nat) (M : List (Int × Int)) (n v : Int) : mput n (pt (A v)) (ments A M) = ments A (mput n v M) := mput_map (fun v => pt (A v)) n v M
theorem ments_del (A : Int → Nat) (M : List (Int × Int)) (n : Int) : mdel n (ments A M) = ments A (mdel n M) := mdel_map (fun v => pt (A v)) n M
theorem cptr_append (A : Int → Nat) (l r : List Cn) : cptr A (l ++ r) = cptr A l ++ cptr A r := by simp [cptr]
theorem cptr_one (A : Int → Nat) (l : List Cn) : ∀ u ∈ cptr A l, u.oneCell' = true := by
  intro u hu
  obtain ⟨x, _, rfl⟩ := List.mem_map.1 hu
  rfl

section
variable {k : Env} {w : World} {b : Nat} {P : PP} {last : Int} {A : Int → Nat} {B L : ByteArray → Nat} {G p q : List Gp} {g : Gp} {N : List ByteArray} {M K : List (Int × Int)} {R : Assn} {r s : List Cn} {c : Cn}

theorem pool_open (h : Sat k w (PoolR b P last A B L G N M K * R)) : ∃ mG vN mC mK, Sat k w (blk b (.cells (cellsP P last mG vN mC mK) 52 (0, 0)) * (MapK Value.string mG (gents B G) * (Strs vN N * (MapK (Value.int .i64) mC (ments A M) * (MapK (Value.int .i64) mK (ments A K) * (stars (groupR A B L P.que) G * R)))))) := by
  obtain ⟨⟨mG, vN, mC, mK⟩, h⟩ := Sat.ex.1 h
  simp only [star_assoc] at h
  exact ⟨mG, vN, mC, mK, h⟩
theorem pool_close {mG mC mK : Nat} {vN : Value} {cs : Array Value} {e1 : List (ByteArray × Value)} {e2 e3 : List (Int × Value)}
    (h : Sat k w (blk b (.cells cs 52 (0, 0)) * (MapK Value.string mG e1 * (Strs vN N * (MapK (Value.int .i64) mC e2 * (MapK (Value.int .i64) mK e3 * (stars (groupR A B L P.que) G * R)))))))
    (h0 : cs = cellsP P last mG vN mC mK) (h1 : e1 = gents B G) (h2 : e2 = ments A M) (h3 : e3 = ments A K) : Sat k w (PoolR b P last A B L G N M K * R) := by
  subst h0; subst h1; subst h2; subst h3
  exact Sat.ex.2 ⟨(mG, vN, mC, mK), by simp only [star_assoc]; exact h⟩
theorem group_open {que : Int} (h : Sat k w (groupR A B L que g * R)) : ∃ a cap, Sat k w (blk (B g.name) (.cells #[.slice a g.cs.length cap, pt (L g.name)] 62 (0, 0)) * (Own 56 1 (.slice a g.cs.length cap) g.cs.length (cptr A g.cs) * (LineR (L g.name) g.sp que * (stars (connR A (B g.name)) g.cs * R)))) := by
  obtain ⟨v, h⟩ := Sat.ex.1 h
  simp only [star_assoc] at h
  obtain ⟨a, cap, rfl⟩ := own_val h.swap
  exact ⟨a, cap, h⟩
theorem group_close {que : Int} {v : Value} {n : Nat} {xs : List Value} {sp : List Sp} {cs : List Cn} {nm : ByteArray} (h : Sat k w (blk (B nm) (.cells #[v, pt (L nm)] 62 (0, 0)) * (Own 56 1 v n xs * (LineR (L nm) sp que * (stars (connR A (B nm)) cs * R)))))
    (h1 : n = cs.length) (h2 : xs = cptr A cs) : Sat k w (groupR A B L que ⟨nm, cs, sp⟩ * R) := by
  subst h1; subst h2
  exact Sat.ex.2 ⟨v, by simp only [star_assoc]; exact h⟩
/-- One group, taken out: [pool, group, groups, names, numbers, clients, slice, line, connections, the other groups]. -/
theorem pool_group (h : Sat k w (PoolR b P last A B L (p ++ g :: q) N M K * R)) : ∃ mG vN mC mK a cap, Sat k w (blk b (.cells (cellsP P last mG vN mC mK) 52 (0, 0)) * (blk (B g.name) (.cells #[.slice a g.cs.length cap, pt (L g.name)] 62 (0, 0)) * (MapK Value.string mG (gents B (p ++ g :: q)) * (Strs vN N * (MapK (Value.int .i64) mC (ments A M) * (MapK (Value.int .i64) mK (ments A K) *
    (Own 56 1 (.slice a g.cs.length cap) g.cs.length (cptr A g.cs) * (LineR (L g.name) g.sp P.que * (stars (connR A (B g.name)) g.cs * (stars (groupR A B L P.que) (p ++ q) * R)))))))))) := by
  obtain ⟨mG, vN, mC, mK, h⟩ := pool_open h
  rw [stars_mid] at h
  simp only [star_assoc] at h
  obtain ⟨a, cap, h2⟩ := group_open h.get6
  exact ⟨mG, vN, mC, mK, a, cap, h2.of_eq (by ac_rfl)⟩
theorem pool_group_close {mG mC mK : Nat} {vN v : Value} {n : Nat} {xs : List Value} {cs : Array Value} {e1 : List (ByteArray × Value)} {e2 e3 : List (Int × Value)} {nm : ByteArray} {ks : List Cn} {sp : List Sp}
    (h : Sat k w (blk b (.cells cs 52 (0, 0)) * (blk (B nm) (.cells #[v, pt (L nm)] 62 (0, 0)) * (MapK Value.string mG e1 * (Strs vN N * (MapK (Value.int .i64) mC e2 * (MapK (Value.int .i64) mK e3 *
    (Own 56 1 v n xs * (LineR (L nm) sp P.que * (stars (connR A (B nm)) ks * (stars (groupR A B L P.que) (p ++ q) * R)))))))))))
    (h0 : cs = cellsP P last mG vN mC mK) (h1 : e1 = gents B (p ++ ⟨nm, ks, sp⟩ :: q)) (h2 : e2 = ments A M) (h3 : e3 = ments A K) (h4 : n = ks.length) (h5 : xs = cptr A ks) : Sat k w (PoolR b P last A B L (p ++ ⟨nm, ks, sp⟩ :: q) N M K * R) := by
  have h' : Sat k w (blk (B nm) (.cells #[v, pt (L nm)] 62 (0, 0)) * (Own 56 1 v n xs * (LineR (L nm) sp P.que * (stars (connR A (B nm)) ks * (blk b (.cells cs 52 (0, 0)) * (MapK Value.string mG e1 * (Strs vN N * (MapK (Value.int .i64) mC e2 * (MapK (Value.int .i64) mK e3 * (stars (groupR A B L P.que) (p ++ q) * R)))))))))) := h.of_eq (by ac_rfl)
  have h6 := group_close h' h4 h5
  refine pool_close (e1 := e1) (e2 := e2) (e3 := e3) (cs := cs) (mG := mG) (mC := mC) (mK := mK) (vN := vN) ?_ h0 h1 h2 h3
  rw [stars_mid]
  exact h6.of_eq (by ac_rfl)
/-- One connection, taken out: [pool, group, connection, groups, names, numbers, clients, slice, line, the other connections, the other groups]. -/
theorem pool_conn (h : Sat k w (PoolR b P last A B L (p ++ g :: q) N M K * R)) (hc : g.cs = r ++ c :: s) : ∃ mG vN mC mK a cap, Sat k w (blk b (.cells (cellsP P last mG vN mC mK) 52 (0, 0)) * (blk (B g.name) (.cells #[.slice a g.cs.length cap, pt (L g.name)] 62 (0, 0)) * (blk (A c.num) (.cells (cellsC (B g.name) c) 72 (0, 0)) * (MapK Value.string mG (gents B (p ++ g :: q)) * (Strs vN N * (MapK (Value.int .i64) mC (ments A M) * (MapK (Value.int .i64) mK (ments A K) *
    (Own 56 1 (.slice a g.cs.length cap) g.cs.length (cptr A g.cs) * (LineR (L g.name) g.sp P.que * (stars (connR A (B g.name)) (r ++ s) * (stars (groupR A B L P.que) (p ++ q) * R))))))))))) := by
  obtain ⟨mG, vN, mC, mK, a, cap, h⟩ := pool_group h
  have e : stars (connR A (B g.name)) g.cs = blk (A c.num) (.cells (cellsC (B g.name) c) 72 (0, 0)) * stars (connR A (B g.name)) (r ++ s) := by rw [hc, stars_mid]; rfl
  rw [e] at h
  simp only [star_assoc] at h
  exact ⟨mG, vN, mC, mK, a, cap, h.of_eq (by ac_rfl)⟩
theorem pool_conn_close {mG mC mK : Nat} {vN v : Value} {n : Nat} {xs : List Value} {cs cc : Array Value} {e1 : List (ByteArray × Value)} {e2 e3 : List (Int × Value)} {nm : ByteArray} {sp : List Sp} {ca : Nat}
    (h : Sat k w (blk b (.cells cs 52 (0, 0)) * (blk (B nm) (.cells #[v, pt (L nm)] 62 (0, 0)) * (blk ca (.cells cc 72 (0, 0)) * (MapK Value.string mG e1 * (Strs vN N * (MapK (Value.int .i64) mC e2 * (MapK (Value.int .i64) mK e3 *
    (Own 56 1 v n xs * (LineR (L nm) sp P.que * (stars (connR A (B nm)) (r ++ s) * (stars (groupR A B L P.que) (p ++ q) * R))))))))))))
    (h0 : cs = cellsP P last mG vN mC mK) (h1 : e1 = gents B (p ++ ⟨nm, r ++ c :: s, sp⟩ :: q)) (h2 : e2 = ments A M) (h3 : e3 = ments A K) (h4 : n = (r ++ c :: s).length) (h5 : xs = cptr A (r ++ c :: s)) (h6 : ca = A c.num) (h7 : cc = cellsC (B nm) c) : Sat k w (PoolR b P last A B L (p ++ ⟨nm, r ++ c :: s, sp⟩ :: q) N M K * R) := by
  subst h6; subst h7
  refine pool_group_close (mG := mG) (mC := mC) (mK := mK) (vN := vN) (v := v) (n := n) (xs := xs) (cs := cs) (e1 := e1) (e2 := e2) (e3 := e3) ?_ h0 h1 h2 h3 h4 h5
  rw [stars_mid]
  have h' : Sat k w (connR A (B nm) c * (blk b (.cells cs 52 (0, 0)) * (blk (B nm) (.cells #[v, pt (L nm)] 62 (0, 0)) * (MapK Value.string mG e1 * (Strs vN N * (MapK (Value.int .i64) mC e2 * (MapK (Value.int .i64) mK e3 *
    (Own 56 1 v n xs * (LineR (L nm) sp P.que * (stars (connR A (B nm)) (r ++ s) * (stars (groupR A B L P.que) (p ++ q) * R))))))))))) := h.get3
  exact h'.of_eq (by ac_rfl)
theorem pool_snoc_close {mG mC mK : Nat} {vN v : Value} {n : Nat} {xs : List Value} {cs cc : Array Value} {e1 : List (ByteArray × Value)} {e2 e3 : List (Int × Value)} {nm : ByteArray} {sp : List Sp} {ca : Nat}
    (h : Sat k w (blk b (.cells cs 52 (0, 0)) * (blk (B nm) (.cells #[v, pt (L nm)] 62 (0, 0)) * (blk ca (.cells cc 72 (0, 0)) * (MapK Value.string mG e1 * (Strs vN N * (MapK (Value.int .i64) mC e2 * (MapK (Value.int .i64) mK e3 *
    (Own 56 1 v n xs * (LineR (L nm) sp P.que * (stars (connR A (B nm)) r * (stars (groupR A B L P.que) (p ++ q) * R))))))))))))
    (h0 : cs = cellsP P last mG vN mC mK) (h1 : e1 = gents B (p ++ ⟨nm, r ++ [c], sp⟩ :: q)) (h2 : e2 = ments A M) (h3 : e3 = ments A K) (h4 : n = (r ++ [c]).length) (h5 : xs = cptr A (r ++ [c])) (h6 : ca = A c.num) (h7 : cc = cellsC (B nm) c) : Sat k w (PoolR b P last A B L (p ++ ⟨nm, r ++ [c], sp⟩ :: q) N M K * R) := by
  refine pool_conn_close (s := []) (mG := mG) (mC := mC) (mK := mK) (vN := vN) (v := v) (n := n) (xs := xs) (cs := cs) (cc := cc) (ca := ca) (e1 := e1) (e2 := e2) (e3 := e3) ?_ h0 h1 h2 h3 h4 h5 h6 h7
  rw [List.append_nil]
  exact h
end

end Go.Proofs.Yticponkpgaofnaa
