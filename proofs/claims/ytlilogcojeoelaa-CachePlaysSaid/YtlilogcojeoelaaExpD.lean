/- Contracts of package expiry, as one sees it from outside. -/
import Derived.Test.YtlilogcojeoelaaExpC
import Derived.Test.YtlilogcojeoelaaMB
import Derived.Test.YtlilogcojeoelaaMA
import Derived.Deep.LoopGhost
namespace Go.Proofs.Ytlilogcojeoelaa
set_option linter.all false
open Go Go.RowKit

/-- A queue that holds these keys with these deadlines, the next one first; n: it was set so often, at most. -/
def QueueV (b : Nat) (L : List KA) (n : Nat) : Assn := ex fun p : List It × Int => pur (QInv p.1 L p.2 ∧ p.2 ≤ n) * QueueR b p.1 p.2

section
variable {k : Env} {w : World} {b n : Nat} {L : List KA} {R : Assn}
theorem qv_open (h : Sat k w (QueueV b L n * R)) : ∃ H s, QInv H L s ∧ s ≤ n ∧ Sat k w (QueueR b H s * R) := by
  obtain ⟨⟨H, s⟩, h⟩ := Sat.ex.1 h
  rw [star_assoc] at h
  obtain ⟨⟨h1, h2⟩, h⟩ := Sat.pure.1 h
  exact ⟨H, s, h1, h2, h⟩
theorem qv_close {H : List It} {s : Int} (h : Sat k w (QueueR b H s * R)) (h1 : QInv H L s) (h2 : s ≤ n) : Sat k w (QueueV b L n * R) :=
  Sat.ex.2 ⟨(H, s), by rw [star_assoc]; exact Sat.pure.2 ⟨⟨h1, h2⟩, h⟩⟩
theorem qv_more {m : Nat} (h : Sat k w (QueueV b L n * R)) (hm : n ≤ m) : Sat k w (QueueV b L m * R) := by
  obtain ⟨H, s, h1, h2, h3⟩ := qv_open h
  exact qv_close h3 h1 (by omega)
theorem qv_keys (h : Sat k w (QueueV b L n * R)) : (L.map (·.1)).Nodup ∧ L.length ≤ n := by
  obtain ⟨H, s, h1, h2, h3⟩ := qv_open h
  exact ⟨h1.keys, by have := h1.len; have := h1.ln; omega⟩
end

abbrev pq (b : Nat) : Value := .pointer (some ⟨b, 0, none⟩)

theorem qnew_any (k : Env) (w : World) (R : Assn) (h : Sat k w R) :
    Calls Try.prog 46 #[] w fun e w' => ∃ b, e = .returned (pq b) ∧ Sat k w' (QueueV b [] 0 * R) := by
  have hmm := @run_makeMap Try.prog
  go_enter Try.func46, Try.ntmps46
  go_wp2_with fail
  go_ret
  refine ⟨_, rfl, ?_⟩
  have h1 := map_made (K := ByteArray) (kv := Value.string) h
  have h2 := (own_nil (e := 137) (size := 3) (h1.alloc (.cells (cellsQ (.slice none 0 0) w.heap.size 0) 132))).swap
  simp only [World.size_alloc] at h2
  exact qv_close (H := []) (s := 0) (queue_close (P := []) (qc_close h2 rfl rfl rfl rfl) (by intro a v; simp [mget])) QInv.nil (by omega)

set_option maxRecDepth 100000 in
set_option maxHeartbeats 1000000 in
theorem qdrop_any (k : Env) (w : World) (R : Assn) (b n : Nat) (L : List KA) (a : ByteArray) (hn : n ≤ 1073741824) (h : Sat k w (QueueV b L n * R)) :
    Calls Try.prog 79 #[pq b, .string a] w fun e w' => e = .returned (.bool (mget a L).isSome) ∧ Sat k w' (QueueV b (qdrop a L) n * R) := by
  obtain ⟨H, s, hi, hs, hr⟩ := qv_open h
  obtain ⟨P, hp, hc⟩ := queue_open hr
  obtain ⟨aa, c, m, hm⟩ := qc_open hc
  have c1 : w.cell? ⟨b, 1, none⟩ = some (.map (some m)) := hm.cell 1
  have hl := run_lookup_ok_sat KStr mapT zeroI hm.get3 a
  rw [plv_get] at hl
  have hln := hi.ln
  have hlen : (H.length : Int) ≤ 1073741824 := by omega
  rcases hi.get a with ⟨e1, e2⟩ | ⟨j, hj, e1, e2⟩
  · have hg : mget a P = none := by
      cases hq : mget a P with
      | none => rfl
      | some v => obtain ⟨j, hj, _, e⟩ := (hp a v).1 hq; exact absurd e (e2 j hj)
    rw [hg] at hl
    simp only [Option.map_none, Option.getD_none, Option.isSome_none] at hl
    rw [e1, qdrop_none e1, Option.isSome_none]
    go_enter Try.func79, Try.ntmps79
    go_wp2_with (go_at_call 78; refine (qthere_any _ _ _ c1).mono ?_; rintro e w' ⟨rfl, rfl⟩)
    go_ret
    exact ⟨rfl, h⟩
  · have hg : mget a P = some (j : Int) := (hp a j).2 ⟨j, hj, rfl, e1⟩
    rw [hg] at hl
    simp only [Option.map_some, Option.getD_some, Option.isSome_some] at hl
    rw [e2, Option.isSome_some]
    have HI := Lib.hid hi
    have HE := Lib.hid e1
    clear e2 hi
    go_enter Try.func79, Try.ntmps79
    go_wp2_with (first | (go_at_call 78; refine (qthere_any _ _ _ c1).mono ?_; rintro e w' ⟨rfl, rfl⟩) | (go_at_call 89; refine (qremove_any k _ _ b H s j HI.out.hp hj hlen hr).mono ?_; rintro e w2 ⟨rfl, H2, hh2, hp2, h2⟩; have HH2 := Lib.hid hh2; have HP2 := Lib.hid hp2; clear hh2 hp2))
    go_ret
    exact ⟨rfl, qv_close h2 (by have := HI.out.drop hj HH2.out HP2.out; rw [HE.out] at this; exact this) hs⟩

set_option maxRecDepth 100000 in
set_option maxHeartbeats 1000000 in
theorem qat_any (k : Env) (w : World) (R : Assn) (b n : Nat) (L : List KA) (a : ByteArray) (h : Sat k w (QueueV b L n * R)) :
    Calls Try.prog 51 #[pq b, .string a] w fun e w' => e = .returned (.tuple #[.int .i64 ((mget a L).getD 0), .bool (mget a L).isSome]) ∧ Sat k w' (QueueV b L n * R) := by
  obtain ⟨H, s, hi, hs, hr⟩ := qv_open h
  obtain ⟨P, hp, hc⟩ := queue_open hr
  obtain ⟨aa, c, m, hm⟩ := qc_open hc
  have c0 : w.cell? ⟨b, 0, none⟩ = some (.slice aa H.length c) := hm.cell 0
  have c1 : w.cell? ⟨b, 1, none⟩ = some (.map (some m)) := hm.cell 1
  have hl := run_lookup_ok_sat KStr mapT zeroI hm.get3 a
  rw [plv_get] at hl
  rcases hi.get a with ⟨e1, e2⟩ | ⟨j, hj, e1, e2⟩
  · have hg : mget a P = none := by
      cases hq : mget a P with
      | none => rfl
      | some v => obtain ⟨j, hj, _, e⟩ := (hp a v).1 hq; exact absurd e (e2 j hj)
    rw [hg] at hl
    simp only [Option.map_none, Option.getD_none, Option.isSome_none] at hl
    rw [e1, Option.isSome_none, Option.getD_none]
    go_enter Try.func51, Try.ntmps51
    go_wp2_with (go_at_call 78; refine (qthere_any _ _ _ c1).mono ?_; rintro e w' ⟨rfl, rfl⟩)
    go_ret2
    exact ⟨rfl, h⟩
  · have hg : mget a P = some (j : Int) := (hp a j).2 ⟨j, hj, rfl, e1⟩
    rw [hg] at hl
    simp only [Option.map_some, Option.getD_some, Option.isSome_some] at hl
    rw [e2, Option.isSome_some, Option.getD_some]
    obtain ⟨g, rfl⟩ := it_addr hm.swap hj
    obtain ⟨hg, d0, d1, d2, hf⟩ := it_cells hm.swap hj rfl
    have hj' : (j : Int) < H.length := by omega
    have HE := Lib.hid e2
    clear e2
    go_enter Try.func51, Try.ntmps51
    go_wp2_with (go_at_call 78; refine (qthere_any _ _ _ c1).mono ?_; rintro e w' ⟨rfl, rfl⟩)
    go_ret2
    exact ⟨rfl, h⟩

theorem qset_bad (k : Env) (w : World) (R : Assn) (b n : Nat) (L : List KA) (a : ByteArray) (t : Int) (ht : t < 0 ∨ 1099511627776 < t) (h : Sat k w (QueueV b L n * R)) :
    Calls Try.prog 49 #[pq b, .string a, .int .i64 t] w fun e w' => e = .returned (.int .i64 1) ∧ Sat k w' (QueueV b L n * R) := by
  obtain ⟨H, s, hi, hs, hr⟩ := qv_open h
  obtain ⟨P, hp, hc⟩ := queue_open hr
  obtain ⟨aa, c, m, hm⟩ := qc_open hc
  have c1 : w.cell? ⟨b, 1, none⟩ = some (.map (some m)) := hm.cell 1
  by_cases ht1 : t < 0
  · go_enter Try.func49, Try.ntmps49
    go_wp2_with (go_at_call 78; refine (qthere_any _ _ _ c1).mono ?_; rintro e w' ⟨rfl, rfl⟩)
    go_ret
    exact ⟨rfl, h⟩
  · have ht2 : 1099511627776 < t := by omega
    go_enter Try.func49, Try.ntmps49
    go_wp2_with (go_at_call 78; refine (qthere_any _ _ _ c1).mono ?_; rintro e w' ⟨rfl, rfl⟩)
    go_ret
    exact ⟨rfl, h⟩

theorem qdrop_get (a : ByteArray) (L : List KA) : mget a (qdrop a L) = none := by
  rw [mget_none]
  intro x hx e
  have := (List.mem_filter.1 hx).2
  simp [e] at this
theorem qfresh {H : List It} {a : ByteArray} {L : List KA} {s : Int} (h : QInv H (qdrop a L) s) : ∀ j, j < H.length → (hat H j).k ≠ a := by
  rcases h.get a with ⟨_, h2⟩ | ⟨j, _, _, h2⟩
  · exact h2
  · rw [qdrop_get] at h2; cases h2
theorem qfresh_mem {H : List It} {a : ByteArray} {L : List KA} {s : Int} (h : QInv H (qdrop a L) s) : a ∉ H.map (·.k) := by
  intro hm
  obtain ⟨x, hx, e⟩ := List.mem_map.1 hm
  obtain ⟨j, hj, e2⟩ := List.mem_iff_getElem.1 hx
  exact qfresh h j hj (by rw [hat_get hj, e2]; exact e)
theorem PlOK.snoc {H : List It} {P : List (ByteArray × Int)} (h : PlOK H P) (x : It) (hx : ∀ j, j < H.length → (hat H j).k ≠ x.k) : PlOK (H ++ [x]) (mput x.k (H.length : Int) P) := by
  intro a v
  have e1 : ∀ j, j < H.length → hat (H ++ [x]) j = hat H j := fun j hj => by simp [hat, List.getElem?_append_left hj]
  have e2 : hat (H ++ [x]) H.length = x := by simp [hat]
  rw [mget_put]
  by_cases e : x.k = a
  · rw [if_pos e]
    constructor
    · intro q; cases q
      exact ⟨H.length, by simp, rfl, by rw [e2]; exact e⟩
    · rintro ⟨j, hj, rfl, q⟩
      rw [List.length_append, List.length_cons, List.length_nil] at hj
      by_cases hjl : j < H.length
      · rw [e1 j hjl] at q; exact absurd (q.trans e.symm) (hx j hjl)
      · rw [show j = H.length by omega]
  · rw [if_neg e, h a v]
    constructor
    · rintro ⟨j, hj, rfl, q⟩
      exact ⟨j, by simp; omega, rfl, by rw [e1 j hj]; exact q⟩
    · rintro ⟨j, hj, rfl, q⟩
      rw [List.length_append, List.length_cons, List.length_nil] at hj
      by_cases hjl : j < H.length
      · exact ⟨j, hjl, rfl, by rw [← e1 j hjl]; exact q⟩
      · rw [show j = H.length by omega, e2] at q
        exact absurd q e

set_option maxRecDepth 100000 in
set_option maxHeartbeats 2000000 in
theorem qset_any (k : Env) (w : World) (R : Assn) (b n : Nat) (L : List KA) (a : ByteArray) (t : Int) (t1 : 0 ≤ t) (t2 : t ≤ 1099511627776) (hn : n ≤ 1000000000) (h : Sat k w (QueueV b L n * R)) :
    Calls Try.prog 49 #[pq b, .string a, .int .i64 t] w fun e w' => e = .returned (.int .i64 0) ∧ Sat k w' (QueueV b (qset a t L) (n + 1) * R) := by
  obtain ⟨H, s, hi, hs, hr⟩ := qv_open h
  obtain ⟨P, hp, hc⟩ := queue_open hr
  obtain ⟨aa, c, m, hm⟩ := qc_open hc
  have c1 : w.cell? ⟨b, 1, none⟩ = some (.map (some m)) := hm.cell 1
  clear hm hc hp hr hi hs
  have t1' : ¬ t < 0 := by omega
  have t2' : ¬ 1099511627776 < t := by omega
  go_enter Try.func49, Try.ntmps49
  go_wp2_with (first | (go_at_call 78; refine (qthere_any _ _ _ c1).mono ?_; rintro e w' ⟨rfl, rfl⟩) | (go_at_call 79; refine (qdrop_any k _ R b n L a (by omega) h).mono ?_; rintro e w2 ⟨rfl, h2⟩; obtain ⟨H, s, hi, hs, hr⟩ := qv_open h2; obtain ⟨P, hp, hc⟩ := queue_open hr; obtain ⟨aa, c, m, hm⟩ := qc_open hc; have c0 : w2.cell? ⟨b, 0, none⟩ = some (.slice aa H.length c) := hm.cell 0; have c2 : w2.cell? ⟨b, 2, none⟩ = some (.int .i64 s) := hm.cell 2; have f2 := hm.frozen; have hln := hi.ln; have HI := Lib.hid hi; have HPL := Lib.hid hp; have HNW := Lib.hid (qfresh hi); have HNM := Lib.hid (qfresh_mem hi); clear hi hp))
  have h3 := hm.set 2 (.int .i64 (s + 1))
  generalize w2.setCell ⟨b, 2, none⟩ (.int .i64 (s + 1)) = w3 at *
  clear c0 c2 f2 hm hc hr h2 h c1
  have c0 : w3.cell? ⟨b, 0, none⟩ = some (.slice aa H.length c) := h3.cell 0
  have c2 : w3.cell? ⟨b, 2, none⟩ = some (.int .i64 (s + 1)) := h3.cell 2
  have f0 := h3.frozen 0
  have hbl := h3.lt
  have hlen : (H.length : Int) ≤ 1000000000 := by omega
  have hA := (h3.alloc (.cells #[.string a, .int .i64 t, .int .i64 (s + 1)] 137)).swap
  have c0a : (w3.alloc (.cells #[.string a, .int .i64 t, .int .i64 (s + 1)] 137)).cell? ⟨b, 0, none⟩ = some (.slice aa H.length c) := hA.cell 0
  clear hA
  go_region_law (refine step_append_sat TIt (h3.drew.swap.alloc' _) (.tmp 38) (.tmp 46) _ 1 1 (itc ⟨a, t, s + 1⟩) rfl rfl (by simp [Act.eval, Act.put]) (by simp [Act.eval, Act.put]; rfl) rfl (fun _ => ⟨_, rfl, new_cells_at _ _ _ _ (by first | rfl | simp)⟩) (EIt.one _) (by simp [maxLen]; omega) (by omega) ?_; intro a3 c3 w4 h4; have e0 : w4.cell? ⟨b, 0, none⟩ = some (.slice aa H.length c) := h4.swap.cell 0; have e1 := h4.swap.frozen 0)
  all_goals
    have h5 := h4.swap.set 0 (.slice a3 (H.length + 1) c3)
    generalize w4.setCell ⟨b, 0, none⟩ (.slice a3 (H.length + 1) c3) = w5 at *
    clear e0 e1 h4
    have e1 : w5.cell? ⟨b, 1, none⟩ = some (.map (some m)) := h5.cell 1
    go_wp2_with (first | (at_mapUpdate; refine wpList_update_sat KStr mapT h5.get3 a (.int .i64 H.length) (.tmp 53) (.tmp 54) (.tmp 55) rfl rfl rfl rfl rfl ?_; intro w6 h6; rw [plv_put] at h6; have h7 := queue_close (H := H ++ [⟨a, t, s + 1⟩]) (s := s + 1) (qc_close h6.put3 rfl (by simp) (by rw [EIt.recs_append, EIt.recs_one]; rfl) rfl) (HPL.out.snoc ⟨a, t, s + 1⟩ HNW.out)) | (go_at_call 80; refine (qup_any k w6 _ b (H ++ [⟨a, t, s + 1⟩]) (s + 1) H.length (HI.out.hp.snoc _) (by simp; omega) h7).mono ?_; rintro e w7 ⟨rfl, H7, hh7, hp7, h8⟩; have HH7 := Lib.hid hh7; have HP7 := Lib.hid hp7; clear hh7 hp7))
    go_ret
    exact ⟨rfl, qv_close h8 (HI.out.set HNM.out HH7.out HP7.out) (by omega)⟩

/-- All whose time has come. -/
theorem qdue_step {now : Int} {x : KA} {r : List KA} (h : x.2 ≤ now) : qdue now (x :: r) = x.1 :: qdue now r ∧ qrest now (x :: r) = qrest now r := by
  simp [qdue, qrest, h]
theorem qdue_stop {now : Int} {x : KA} {r : List KA} (h : ¬ x.2 ≤ now) : qdue now (x :: r) = [] ∧ qrest now (x :: r) = x :: r := by
  simp [qdue, qrest, h]

set_option maxRecDepth 100000 in
set_option maxHeartbeats 2000000 in
theorem qdue_any (k : Env) (w : World) (R : Assn) (b n : Nat) (L : List KA) (now : Int) (hn : n ≤ 1000000000) (h : Sat k w (QueueV b L n * R)) :
    Calls Try.prog 61 #[pq b, .int .i64 now] w fun e w' => ∃ v, e = .returned v ∧ Sat k w' (Strs v (qdue now L) * (QueueV b (qrest now L) n * R)) := by
  obtain ⟨H, s, hi, hs, hr⟩ := qv_open h
  obtain ⟨P, hp, hc⟩ := queue_open hr
  obtain ⟨aa, c, m, hm⟩ := qc_open hc
  have c1 : w.cell? ⟨b, 1, none⟩ = some (.map (some m)) := hm.cell 1
  clear hm hc hp hr hi hs
  go_enter Try.func61, Try.ntmps61
  go_wp2_with (go_at_call 78; refine (qthere_any _ _ _ c1).mono ?_; rintro e w' ⟨rfl, rfl⟩)
  go_loopg [5] L.length (fun gk v wr => ∃ (l : List ByteArray) (L' : List KA), gk = L'.length ∧ Hid (l ++ qdue now L' = qdue now L ∧ qrest now L' = qrest now L) ∧ l.length + L'.length ≤ n ∧ Sat k wr (Strs v l * (QueueV b L' n * R)))
  case atStart => exact ⟨[], L, rfl, ⟨rfl, rfl⟩, by have := (qv_keys h).2; simpa using this, own_nil h⟩
  case round =>
    clear h c1
    obtain ⟨l, L', rfl, HE, hln, hr⟩ := hrel
    obtain ⟨va, vc, rfl⟩ := own_val hr
    obtain ⟨H', s', hi, hs, hq⟩ := qv_open hr.swap
    obtain ⟨P, hp, hc⟩ := queue_open hq
    obtain ⟨aa, c, m, hm⟩ := qc_open hc
    have c0 : wr.cell? ⟨b, 0, none⟩ = some (.slice aa H'.length c) := hm.cell 0
    have hlH := hi.ln
    have hlen : (H'.length : Int) ≤ 1073741824 := by omega
    have hlL := hi.len
    by_cases h0 : 0 < H'.length
    · obtain ⟨r, rfl, hdr⟩ := hi.head h0
      have h0' : 0 < (H'.length : Int) := by omega
      obtain ⟨g, rfl⟩ := it_addr hm.swap h0
      obtain ⟨hg, d0, d1, d2, hf⟩ := it_cells hm.swap h0 rfl
      simp only [Nat.zero_mul, Nat.zero_add] at d0 d1 d2
      have HI := Lib.hid hi
      have HDR := Lib.hid hdr
      have HRM := Lib.hid (fun w' R' h' => qremove_any k w' R' b H' s' 0 hi.hp h0 hlen h')
      by_cases hle : (hat H' 0).at_ ≤ now
      · obtain ⟨q1, q2⟩ := qdue_step (x := itp (hat H' 0)) (r := r) hle
        have HQ : Hid ((l ++ [(hat H' 0).k]) ++ qdue now r = qdue now L ∧ qrest now r = qrest now L) := by
          unfold Hid
          rw [← HE.out.1, ← HE.out.2, q1, q2]
          simp [itp]
        have HDI : Hid (∀ {H2 : List It}, HeapOK H2 → (hat H' 0 :: H2).Perm H' → QInv H2 r s') := by
          unfold Hid
          intro H2 a1 a2
          have := hi.drop h0 a1 a2
          rw [hdr] at this
          exact this
        clear hi hdr q1 q2 HE HI HDR
        rw [List.length_cons] at hln
        generalize hat H' 0 = x at *
        obtain ⟨xk, xa, xn⟩ := x
        simp only at d0 d1 d2 hle
        unfold itV at HRM
        have hll : (l.length : Int) ≤ 1000000000 := by omega
        have hfd : ∀ w : World, (Instr.field 137 (.agg #[.string xk, .int .i64 xa, .int .i64 xn]) 0).run Try.prog w = .ok (.string xk) w := fun _ => by kernel_rfl
        go_wp2_with (first | (go_at_call 89; refine (HRM.out wr _ hq).mono ?_; rintro e w2 ⟨rfl, H2, hh2, hp2, h2⟩; have HH2 := Lib.hid hh2; have HP2 := Lib.hid hp2; clear hh2 hp2) | (at_builtin; refine wpList_append_sat TStrs (h2.swap.alloc' _) (.tmp 26) (.tmp 30) _ 1 1 [.string xk] rfl rfl rfl rfl rfl (fun _ => ⟨_, rfl, new_cells_at _ _ _ _ (by first | rfl | simp)⟩) (fun u hu => by simp at hu; subst hu; rfl) (by simp [maxLen]; omega) (by omega) ?_; intro a3 c3 w3 h3))
        go_roundg r.length
        case measure => simp
        case rel => exact ⟨l ++ [xk], r, rfl, HQ, by simp; omega, (qv_close (strs_push h3).swap (HDI.out HH2.out HP2.out) hs).swap⟩
      · obtain ⟨q1, q2⟩ := qdue_stop (x := itp (hat H' 0)) (r := r) hle
        have HQ : Hid (qdue now L = l ∧ qrest now L = itp (hat H' 0) :: r) := by
          unfold Hid
          rw [← HE.out.1, ← HE.out.2, q1, q2]
          simp
        clear hdr q1 q2 HE HRM
        go_wp2_with fail
        go_ret
        rw [HQ.out.1, HQ.out.2]
        exact ⟨_, rfl, hr⟩
    · have hL : L' = [] := by
        have : L'.length = 0 := by omega
        exact List.length_eq_zero_iff.1 this
      subst hL
      have h0' : ¬ 0 < (H'.length : Int) := by omega
      have HQ : Hid (qdue now L = l ∧ qrest now L = []) := by
        unfold Hid
        rw [← HE.out.1, ← HE.out.2]
        simp [qdue, qrest]
      clear HE
      go_wp2_with fail
      go_ret
      rw [HQ.out.1, HQ.out.2]
      exact ⟨_, rfl, hr⟩

end Go.Proofs.Ytlilogcojeoelaa
