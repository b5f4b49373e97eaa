/- Package fill: how it lies in memory; there, New, Start, Write, Commit, All, forget, copied. -/
import Derived.Test.YtbeidnddahglbaaVersF
import Derived.Test.YtbeidnddahglbaaCacheE
import Derived.Test.YtbeidnddahglbaaCacheU
namespace Go.Proofs.Ytbeidnddahglbaa
set_option linter.all false
open Go Go.RowKit

/-- A stamp that is kept: its slices lie here. -/
structure StM where
  ep : Int
  a : Option Addr
  ac : Nat
  names : List ByteArray
  i : Option Addr
  ic : Nat
  nums : List Int
def StM.v (s : StM) : Value := .agg #[.int .i64 s.ep, .slice s.a s.names.length s.ac, .slice s.i s.nums.length s.ic]
def stampS (s : StM) : Assn := Strs (.slice s.a s.names.length s.ac) s.names * Ints (.slice s.i s.nums.length s.ic) s.nums
def stampR (x : Ky × StM) : Assn := stampS x.2
def sents (S : List (Ky × StM)) : List (Ky × Value) := S.map fun x => (x.1, x.2.v)
theorem sents_get (y : Ky) (S : List (Ky × StM)) : mget y (sents S) = (mget y S).map StM.v := mget_map StM.v y S
theorem sents_put (y : Ky) (s : StM) (S : List (Ky × StM)) : mput y s.v (sents S) = sents (mput y s S) := mput_map StM.v y s S
theorem sents_del (y : Ky) (S : List (Ky × StM)) : mdel y (sents S) = sents (mdel y S) := mdel_map StM.v y S
def cellsFi (cb vb m : Nat) : Array Value := #[pq cb, pq vb, .map (some m)]
def FillR (b : Nat) (c : CS) (n nv : Nat) (V : VS) (S : List (Ky × StM)) : Assn :=
  ex fun p : Nat × Nat × Nat => blk b (.cells (cellsFi p.1 p.2.1 p.2.2) 54 (0, 0)) * (CacheR p.1 c n * (VersV p.2.1 V nv * (MapK kyV p.2.2 (sents S) * stars stampR S)))

section
variable {k : Env} {w : World} {b n nv : Nat} {c : CS} {V : VS} {S : List (Ky × StM)} {R : Assn}
theorem fi_open (h : Sat k w (FillR b c n nv V S * R)) : ∃ cb vb m, Sat k w (blk b (.cells (cellsFi cb vb m) 54 (0, 0)) * (CacheR cb c n * (VersV vb V nv * (MapK kyV m (sents S) * (stars stampR S * R))))) := by
  obtain ⟨⟨cb, vb, m⟩, h⟩ := Sat.ex.1 h
  simp only [star_assoc] at h
  exact ⟨cb, vb, m, h⟩
theorem fi_close {cb vb m : Nat} {l : List (Ky × Value)} (h : Sat k w (blk b (.cells (cellsFi cb vb m) 54 (0, 0)) * (CacheR cb c n * (VersV vb V nv * (MapK kyV m l * (stars stampR S * R)))))) (hl : l = sents S) : Sat k w (FillR b c n nv V S * R) := by
  subst hl
  exact Sat.ex.2 ⟨(cb, vb, m), by simp only [star_assoc]; exact h⟩
theorem stars_put (y : Ky) (s : StM) (S : List (Ky × StM)) (R : Assn) (h : Sat k w (stampS s * (stars stampR S * R))) : Sat k w (stars stampR (mput y s S) * R) := by
  induction S generalizing R with
  | nil => simp only [mput, stars, star_assoc] at *; exact h
  | cons x r ih =>
    rw [mput]
    simp only [stars, star_assoc] at h
    by_cases hx : x.1 = y
    · rw [if_pos hx, stars, star_assoc]
      exact h.swap.drop
    · rw [if_neg hx, stars, star_assoc]
      exact (ih _ (h.of_eq (by ac_rfl))).swap
theorem stars_del (y : Ky) (S : List (Ky × StM)) (R : Assn) (h : Sat k w (stars stampR S * R)) : Sat k w (stars stampR (mdel y S) * R) := by
  induction S generalizing R with
  | nil => exact h
  | cons x r ih =>
    rw [mdel]
    rw [stars, star_assoc] at h
    by_cases hx : x.1 = y
    · rw [if_pos hx]; exact h.drop
    · rw [if_neg hx, stars, star_assoc]
      exact (ih _ h.swap).swap
end

theorem mapSt : Try.prog.underlying 52 = some (.map 30 32) := Try.underlying52
theorem zeroSt (w : World) : (zeroValue 32).run Try.prog w = .ok (.agg #[.int .i64 0, .slice none 0 0, .slice none 0 0]) w := by kernel_rfl

theorem fthere_any (w : World) (b m : Nat) (h : w.cell? ⟨b, 2, none⟩ = some (.map (some m))) :
    Calls Try.prog 23 #[pq b] w fun e w' => e = .returned (.bool true) ∧ w = w' := by
  have hm := fun (w : World) (r : Option Nat) => run_neq_map_nil (P := Try.prog) w 52 _ _ r mapSt
  go_enter Try.func23, Try.ntmps23
  go_wp2
  go_ret
  exact ⟨rfl, rfl⟩

theorem fnew_any (k : Env) (w : World) (R : Assn) (al kp mo ttl : Int) (h1 : 1 ≤ al) (h2 : al ≤ 1073741824) (h3 : 0 ≤ kp) (h4 : kp ≤ al) (h5 : 1 ≤ mo) (h6 : mo ≤ al) (t1 : 1 ≤ ttl) (t2 : ttl ≤ 549755813888) (h : Sat k w R) :
    Calls Try.prog 7 #[.int .i64 al, .int .i64 kp, .int .i64 mo, .int .i64 ttl] w fun e w' => ∃ b, e = .returned (.tuple #[pq b, .int .i64 0]) ∧ Sat k w' (FillR b ⟨al, kp, mo, ttl, [], [], [], []⟩ 0 0 VS.new [] * R) := by
  have hmm := @run_makeMap Try.prog
  have hmk := mapSt
  have C1 := Lib.hid (cnew_any k w R al kp mo ttl h1 h2 h3 h4 h5 h6 t1 t2 h)
  clear h1 h2 h3 h4 h5 h6 t1 t2
  go_enter Try.func7, Try.ntmps7
  go_wp2_with (first | (go_at_call 21; (with_reducible refine C1.out.mono ?_); rintro e w1 ⟨cb, rfl, g1⟩) | (go_at_call 22; (with_reducible refine (vnew_any k w1 _ g1).mono ?_); rintro e w2 ⟨vb, rfl, g2⟩))
  go_ret2
  have g3 := (map_made (K := Ky) (kv := kyV) g2).alloc (.cells (cellsFi cb vb w2.heap.size) 54)
  refine ⟨_, rfl, fi_close (cb := cb) (vb := vb) (m := w2.heap.size) (l := []) (g3.of_eq ?_) rfl⟩
  rw [stars, emp_star]; simp; ac_rfl

end Go.Proofs.Ytbeidnddahglbaa
