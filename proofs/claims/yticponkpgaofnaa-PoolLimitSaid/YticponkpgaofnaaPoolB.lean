/- Contracts of package pool: there, lend, made. -/
import Derived.Test.YticponkpgaofnaaPoolA
import Derived.Test.YticponkpgaofnaaMapS
import Derived.StillTailTactics
namespace Go.Proofs.Yticponkpgaofnaa
set_option linter.all false
open Go Go.RowKit

theorem pthere_any (w : World) (b m : Nat) (h : w.cell? ⟨b, 5, none⟩ = some (.map (some m))) :
    Calls Try.prog 20 #[.pointer (some ⟨b, 0, none⟩)] w fun e w' => e = .returned (.bool true) ∧ w = w' := by
  have hm := fun (w : World) (r : Option Nat) => run_neq_map_nil (P := Try.prog) w 48 _ _ r mapG
  go_enter Try.func20, Try.ntmps20
  go_wp2
  go_ret
  exact ⟨rfl, rfl⟩
theorem pthere_zero (w : World) (b : Nat) (h : w.cell? ⟨b, 5, none⟩ = some (.map none)) :
    Calls Try.prog 20 #[.pointer (some ⟨b, 0, none⟩)] w fun e w' => e = .returned (.bool false) ∧ w = w' := by
  have hm := fun (w : World) (r : Option Nat) => run_neq_map_nil (P := Try.prog) w 48 _ _ r mapG
  go_enter Try.func20, Try.ntmps20
  go_wp2
  go_ret
  exact ⟨rfl, rfl⟩
theorem pthere_nil (w : World) : Calls Try.prog 20 #[.pointer none] w fun e w' => e = .returned (.bool false) ∧ w = w' := by
  go_enter Try.func20, Try.ntmps20
  go_wp2
  go_ret
  exact ⟨rfl, rfl⟩

theorem ments_put'' {A : Int → Nat} {M : List (Int × Int)} {n : Int} {a : Nat} (h : A n = a) : mput n (pt a) (ments A M) = ments A (mput n n M) := by subst h; exact ments_put A M n n
theorem ments_put' {A : Int → Nat} {M : List (Int × Int)} {n v : Int} {a : Nat} (h : A v = a) : mput n (pt a) (ments A M) = ments A (mput n v M) := by subst h; exact ments_put A M n v
def loanV (x n : Int) (f : Bool) : Value := .agg #[.int .i64 x, .int .i64 n, .bool f]

set_option maxHeartbeats 1000000 in
theorem lend_any (k : Env) (w : World) (R : Assn) (b : Nat) (P : PP) (last : Int) (A : Int → Nat) (B L : ByteArray → Nat) (p q : List Gp) (g : Gp) (N : List ByteArray) (M K : List (Int × Int)) (r s : List Cn) (c : Cn) (hc : g.cs = r ++ c :: s) (x : Int) (fr : Bool)
    (h : Sat k w (PoolR b P last A B L (p ++ g :: q) N M K * R)) :
    Calls Try.prog 26 #[pt b, pt (A c.num), .int .i64 x, .bool fr] w fun e w' => e = .returned (loanV x c.num fr) ∧ Sat k w' (PoolR b P last A B L (p ++ ⟨g.name, r ++ ⟨c.num, x, c.since, false⟩ :: s, g.sp⟩ :: q) N M (mput x c.num K) * R) := by
  obtain ⟨mG, vN, mC, mK, a, cap, hs⟩ := pool_conn h hc
  have hbc := hs.swap2.ne
  have hcb := Ne.symm hbc
  have hbl := hs.lt
  have hcl := hs.get3.lt
  have hr := hs.get3.alloc (.cells #[.int .i64 0, .int .i64 0, .bool false] 30)
  have c8 : w.cell? ⟨b, 8, none⟩ = some (.map (some mK)) := hs.cell 8
  have d0 : w.cell? ⟨A c.num, 0, none⟩ = some (.int .i64 c.num) := hs.get3.cell 0
  have d2 : w.cell? ⟨A c.num, 2, none⟩ = some (.int .i64 c.cl) := hs.get3.cell 2
  have d4 : w.cell? ⟨A c.num, 4, none⟩ = some (.bool c.pin) := hs.get3.cell 4
  have f2 := hs.get3.frozen
  have hq := ((hs.get3.set 2 (.int .i64 x)).set 4 (.bool false)).alloc (.cells #[.int .i64 0, .int .i64 0, .bool false] 30)
  simp only [World.size_setCell] at hq
  have HC := Lib.hid hc
  clear hc
  go_enter Try.func26, Try.ntmps26
  go_wp2_with (at_mapUpdate; refine wpList_update_sat KInt mapC hq.get8 x (pt (A c.num)) (.tmp 19) (.tmp 20) (.tmp 21) rfl rfl rfl rfl rfl ?_; intro w2 h2; have e0 : w2.cell? ⟨A c.num, 0, none⟩ = some (.int .i64 c.num) := h2.get3.cell 0; have e1 := h2.swap.frozen; have e2 : w2.cell? ⟨w.heap.size, 0, none⟩ = some (.int .i64 0) := h2.swap.cell 0; have e3 : w2.cell? ⟨w.heap.size, 1, none⟩ = some (.int .i64 0) := h2.swap.cell 1; have e4 : w2.cell? ⟨w.heap.size, 2, none⟩ = some (.bool false) := h2.swap.cell 2; clear c8 d0 d2 d4 f2)
  refine bodyPost_ret (v := loanV x c.num fr) (by simp [results, Try.results26, go_sem, e2, e3, e4, loanV]) rfl ⟨rfl, ?_⟩
  have h3 := (((h2.swap.set 0 (.int .i64 x)).set 1 (.int .i64 c.num)).set 2 (.bool fr)).drop.put7.put3
  rw [ments_put] at h3
  exact pool_conn_close h3 rfl (by simp [gents]) rfl rfl (by rw [HC.out]; simp) (by rw [HC.out]; simp [cptr]) rfl rfl

/-- A connection just made, and one just made and lent. -/
def newCn (n : Int) : Cn := ⟨n, -1, 0, false⟩
def newLent (n x : Int) : Cn := ⟨n, x, 0, false⟩

set_option maxHeartbeats 1000000 in
theorem made_full (k : Env) (w : World) (R : Assn) (b : Nat) (P : PP) (last : Int) (A : Int → Nat) (B L : ByteArray → Nat) (p q : List Gp) (g : Gp) (N : List ByteArray) (M K : List (Int × Int)) (hl : P.lim ≤ g.cs.length)
    (h : Sat k w (PoolR b P last A B L (p ++ g :: q) N M K * R)) :
    Calls Try.prog 25 #[pt b, pt (B g.name)] w fun e w' => e = .returned (.tuple #[.pointer none, .bool false]) ∧ Sat k w' (PoolR b P last A B L (p ++ g :: q) N M K * R) := by
  obtain ⟨mG, vN, mC, mK, a, cap, hs⟩ := pool_group h
  have c0 : w.cell? ⟨b, 0, none⟩ = some (.int .i64 P.lim) := hs.cell 0
  have d0 : w.cell? ⟨B g.name, 0, none⟩ = some (.slice a g.cs.length cap) := hs.swap.cell 0
  generalize B g.name = gb at *
  go_enter Try.func25, Try.ntmps25
  go_wp2_with fail
  go_quiet (fail)
  go_wp2
  go_ret2
  exact ⟨rfl, h.drewN _⟩

def upd {α : Type} [DecidableEq α] (A : α → Nat) (n : α) (a : Nat) : α → Nat := fun x => if x = n then a else A x
theorem upd_new {α : Type} [DecidableEq α] (A : α → Nat) (n : α) (a : Nat) : upd A n a n = a := by simp [upd]
theorem upd_old {α : Type} [DecidableEq α] (A : α → Nat) {n x : α} (a : Nat) (h : x ≠ n) : upd A n a x = A x := by simp [upd, h]
theorem connR_upd {A : Int → Nat} {n : Int} {a gb : Nat} {l : List Cn} (h : ∀ c ∈ l, c.num ≠ n) : stars (connR (upd A n a) gb) l = stars (connR A gb) l :=
  stars_congr fun c hc => by unfold connR; rw [upd_old A a (h c hc)]
theorem cptr_upd {A : Int → Nat} {n : Int} {a : Nat} {l : List Cn} (h : ∀ c ∈ l, c.num ≠ n) : cptr (upd A n a) l = cptr A l :=
  List.map_congr_left fun c hc => by rw [upd_old A a (h c hc)]
theorem groupR_upd {A : Int → Nat} {B L : ByteArray → Nat} {n : Int} {a : Nat} {que : Int} {G : List Gp} (h : ∀ c ∈ conns G, c.num ≠ n) : stars (groupR (upd A n a) B L que) G = stars (groupR A B L que) G :=
  stars_congr fun g hg => by
    have hc : ∀ c ∈ g.cs, c.num ≠ n := fun c hc => h c (List.mem_flatMap.2 ⟨g, hg, hc⟩)
    unfold groupR
    rw [cptr_upd hc, connR_upd hc]
theorem ments_upd {A : Int → Nat} {n : Int} {a : Nat} {M : List (Int × Int)} (h : ∀ x ∈ M, x.2 ≠ n) : ments (upd A n a) M = ments A M :=
  List.map_congr_left fun x hx => by rw [upd_old A a (h x hx)]

set_option maxHeartbeats 2000000 in
theorem made_any (k : Env) (w : World) (R : Assn) (b : Nat) (P : PP) (last : Int) (A : Int → Nat) (B L : ByteArray → Nat) (p q : List Gp) (g : Gp) (N : List ByteArray) (M K : List (Int × Int)) (hl : (g.cs.length : Int) < P.lim) (hP : P.ok)
    (hl1 : 0 ≤ last) (hl2 : last ≤ 4611686018427387904) (hc : ∀ c ∈ conns (p ++ g :: q), c.num ≠ last + 1) (hM : ∀ x ∈ M, x.2 ≠ last + 1) (hK : ∀ x ∈ K, x.2 ≠ last + 1)
    (h : Sat k w (PoolR b P last A B L (p ++ g :: q) N M K * R)) :
    Calls Try.prog 25 #[pt b, pt (B g.name)] w fun e w' => ∃ a, e = .returned (.tuple #[pt a, .bool true]) ∧
      Sat k w' (PoolR b P (last + 1) (upd A (last + 1) a) B L (p ++ ⟨g.name, g.cs ++ [newCn (last + 1)], g.sp⟩ :: q) N (mput (last + 1) (last + 1) M) K * R) := by
  obtain ⟨mG, vN, mC, mK, a, cap, hs⟩ := pool_group h
  have hp := hP.2.1
  have hlen : g.cs.length ≤ 1000 := by omega
  have hbg := hs.ne
  have hgb := Ne.symm hbg
  have hbl := hs.lt
  have hgl := hs.swap.lt
  have c0 : w.cell? ⟨b, 0, none⟩ = some (.int .i64 P.lim) := hs.cell 0
  have d0 : w.cell? ⟨B g.name, 0, none⟩ = some (.slice a g.cs.length cap) := hs.swap.cell 0
  clear h
  go_enter Try.func25, Try.ntmps25
  go_wp2_with fail
  go_quiet (fail)
  replace hs := hs.drewN nq
  generalize w.drewN nq = w1 at *
  have c4 : w1.cell? ⟨b, 4, none⟩ = some (.int .i64 last) := hs.cell 4
  have d0 : w1.cell? ⟨B g.name, 0, none⟩ = some (.slice a g.cs.length cap) := hs.swap.cell 0
  have fb := hs.frozen
  have hbl := hs.lt
  have hgl := hs.swap.lt
  have h1 := (hs.set 4 (.int .i64 (last + 1))).alloc (.cells #[.int .i64 (last + 1), pt (B g.name), .int .i64 (-1), .int .i64 0, .bool false] 72)
  simp only [World.size_setCell] at h1
  have hcb : w1.heap.size ≠ b := by omega
  have hbc : b ≠ w1.heap.size := by omega
  have hcg : w1.heap.size ≠ B g.name := by omega
  have hgc : B g.name ≠ w1.heap.size := by omega
  go_wp2_with (at_builtin; refine wpList_append_sat TPtr (h1.get8.alloc' _) (.tmp 35) (.tmp 37) _ 1 1 [pt w1.heap.size] rfl rfl rfl rfl rfl (fun _ => ⟨_, rfl, new_cells_at _ _ _ _ (by first | rfl | simp)⟩) (fun u hu => by simp at hu; subst hu; rfl) (by simp [maxLen]; omega) (by omega) ?_; intro a3 c3 w3 h3; have e0 : w3.cell? ⟨B g.name, 0, none⟩ = some (.slice a g.cs.length cap) := h3.get4.cell 0; have e1 := h3.get4.frozen 0)
  have h4 := h3.get4.set 0 (.slice a3 (g.cs.length + 1) c3)
  generalize hw4 : w3.setCell ⟨B g.name, 0, none⟩ (.slice a3 (g.cs.length + 1) c3) = w4 at *
  clear hw4 h3 h1 e0 e1 c4 d0 fb hs
  have c7 : w4.cell? ⟨b, 7, none⟩ = some (.map (some mC)) := h4.get4.cell 7
  have d0 : w4.cell? ⟨w1.heap.size, 0, none⟩ = some (.int .i64 (last + 1)) := h4.get3.cell 0
  go_still_tail 9, (by kernel_rfl)
  change wpList _ _ _ _ _ w4.drew
  go_wp2_with (at_mapUpdate; refine wpList_update_sat KInt mapC h4.drew.get7 (last + 1) (pt w1.heap.size) (.tmp 44) (.tmp 48) (.tmp 49) rfl rfl rfl rfl rfl ?_; intro w5 h5)
  all_goals
    go_ret2
    have hca : ∀ c ∈ g.cs, c.num ≠ last + 1 := fun c hx => hc c (by rw [conns_mid]; simp [hx])
    have hcg2 : ∀ c ∈ conns (p ++ q), c.num ≠ last + 1 := fun c hx => hc c (by
      rw [conns_mid]
      have hx : c ∈ conns p ++ conns q := by simpa [conns] using hx
      rcases List.mem_append.1 hx with hx | hx <;> simp [hx])
    refine ⟨w1.heap.size, rfl, ?_⟩
    rw [← connR_upd (a := w1.heap.size) hca, ← groupR_upd (a := w1.heap.size) hcg2, ← ments_upd (a := w1.heap.size) hM, ← ments_upd (a := w1.heap.size) hK, ments_put'' (upd_new A (last + 1) w1.heap.size), ← cptr_upd (a := w1.heap.size) hca] at h5
    exact pool_snoc_close (c := newCn (last + 1)) h5.put7.swap.put8.get3 rfl (by simp [gents]) rfl rfl (by simp) (by rw [cptr_append]; simp [cptr, upd_new, newCn]) (upd_new A (last + 1) w1.heap.size).symm rfl

end Go.Proofs.Yticponkpgaofnaa
