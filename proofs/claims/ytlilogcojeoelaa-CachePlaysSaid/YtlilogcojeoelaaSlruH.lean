/- Contracts of package slru: New, Put. -/
import Derived.Test.YtlilogcojeoelaaSlruG
namespace Go.Proofs.Ytlilogcojeoelaa
set_option linter.all false
open Go Go.RowKit

theorem same_link (A : List Ent) (i : Nat) (g : Int) (l : Lst) : same A (linkA A i g l) := by
  have h : same A (A.modify i fun x => { x with g := g, n := -1, o := l.first }) := ⟨by simp, fun j => by
    simp only [List.getElem?_modify]
    cases A[j]? <;> simp <;> split <;> simp⟩
  unfold linkA
  simp only []
  split
  · exact h
  · exact h.trans (same_setN _ _ _)

theorem roomV_sub (al size : Int) (n : Nat) (t k : List KV) : (∀ x ∈ (roomV al size n t k).1, x ∈ t) ∧ (∀ x ∈ (roomV al size n t k).2.1, x ∈ k) ∧ (roomV al size n t k).2.2.length ≤ n := by
  induction n generalizing t k with
  | zero => exact ⟨fun x h => h, fun x h => h, Nat.le_refl _⟩
  | succ n ih =>
    rw [roomV]
    split
    · cases ht : t.getLast? with
      | some y =>
        obtain ⟨h1, h2, h3⟩ := ih t.dropLast k
        exact ⟨fun x h => List.dropLast_subset _ (h1 x h), h2, by simpa using h3⟩
      | none =>
        cases hk : k.getLast? with
        | some y =>
          obtain ⟨h1, h2, h3⟩ := ih t k.dropLast
          exact ⟨h1, fun x h => List.dropLast_subset _ (h2 x h), by simpa using h3⟩
        | none => exact ⟨fun x h => h, fun x h => h, by simp⟩
    · exact ⟨fun x h => h, fun x h => h, by simp⟩
theorem sumV_pos {l : List KV} (h : ∀ x ∈ l, 0 ≤ x.2) : 0 ≤ sumV l := by
  induction l with
  | nil => exact Int.le_refl _
  | cons x r ih =>
    have h1 := h x (by simp)
    have h2 := ih (fun y hy => h y (by simp [hy]))
    simp only [sumV]; omega
theorem roomV_kept (al size : Int) (n : Nat) (t k : List KV) (h : ∀ x ∈ k, 0 ≤ x.2) : sumV (roomV al size n t k).2.1 ≤ sumV k := by
  induction n generalizing t k with
  | zero => exact Int.le_refl _
  | succ n ih =>
    rw [roomV]
    split
    · cases ht : t.getLast? with
      | some y => exact ih t.dropLast k h
      | none =>
        cases hk : k.getLast? with
        | some y =>
          refine Int.le_trans (ih t k.dropLast (fun x hx => h x (List.dropLast_subset _ hx))) ?_
          rcases List.eq_nil_or_concat k with rfl | ⟨k1, z, rfl⟩
          · exact Int.le_refl _
          · rw [List.concat_eq_append] at *
            have := h z (by simp)
            rw [List.dropLast_concat, sumV_append]
            simp only [sumV]; omega
        | none => exact Int.le_refl _
    · exact Int.le_refl _

theorem put_pure {st : St} {T K : List Nat} (h : Rep st T K []) (a : ByteArray) (s : Int) (h1 : 1 ≤ s) (hs : sumA st.A (T ++ K) + s ≤ st.al) (ha : ∀ i ∈ T ++ K, keyA st.A i ≠ a) :
    view (linkS (addS (slotS st) (slotI st) a s) (slotI st) 0).A (slotI st :: T) = (a, s) :: view st.A T ∧ view (linkS (addS (slotS st) (slotI st) a s) (slotI st) 0).A K = view st.A K ∧
      (linkS (addS (slotS st) (slotI st) a s) (slotI st) 0).al = st.al ∧ (linkS (addS (slotS st) (slotI st) a s) (slotI st) 0).kp = st.kp ∧ (linkS (addS (slotS st) (slotI st) a s) (slotI st) 0).mo = st.mo := by
  obtain ⟨_, rlt, rat, rnew⟩ := rep_add h a s h1 hs ha
  obtain ⟨_, _, _, _, _, _, _, _, _, _, _, _, q12, q13, q14⟩ := slot_facts h (by simp only [List.append_nil]; omega)
  obtain ⟨p1, p2, p3⟩ := linkS_par (addS (slotS st) (slotI st) a s) (slotI st) 0
  have hs1 : same (addS (slotS st) (slotI st) a s).A (linkS (addS (slotS st) (slotI st) a s) (slotI st) 0).A := same_link _ _ _ _
  refine ⟨?_, ?_, p1.trans q12, p2.trans q13, p3.trans q14⟩
  · rw [view_same hs1]
    have e : view (addS (slotS st) (slotI st) a s).A (slotI st :: T) = (keyA (addS (slotS st) (slotI st) a s).A (slotI st), sizA (addS (slotS st) (slotI st) a s).A (slotI st)) :: view (addS (slotS st) (slotI st) a s).A T := rfl
    rw [e]
    congr 1
    · unfold keyA sizA
      simp only [List.getD, rnew, Option.getD_some]
    · exact view_frame fun i hi => rat i (by simp [hi])
  · rw [view_same hs1]
    exact view_frame fun i hi => rat i (by simp [hi])

def putE (mo size : Int) : Int := if size < 1 then 1 else if mo < size then 2 else 0
def roomR (al : Int) (a : ByteArray) (size : Int) (t k : List KV) : List KV × List KV × List ByteArray := roomV al size ((dropV a t).length + (dropV a k).length) (dropV a t) (dropV a k)

theorem new_bad (w : World) (al kp mo : Int) (h : al < 1 ∨ 1073741824 < al ∨ kp < 0 ∨ al < kp ∨ mo < 1 ∨ al < mo) :
    Calls Try.prog 45 #[.int .i64 al, .int .i64 kp, .int .i64 mo] w fun e w' => e = .returned (.tuple #[.pointer none, .int .i64 1]) ∧ w = w' := by
  by_cases h1 : al < 1
  · go_enter Try.func45, Try.ntmps45
    go_wp2
    go_ret2
    exact ⟨rfl, rfl⟩
  by_cases h2 : 1073741824 < al
  · go_enter Try.func45, Try.ntmps45
    go_wp2
    go_ret2
    exact ⟨rfl, rfl⟩
  by_cases h3 : kp < 0
  · go_enter Try.func45, Try.ntmps45
    go_wp2
    go_ret2
    exact ⟨rfl, rfl⟩
  by_cases h4 : al < kp
  · go_enter Try.func45, Try.ntmps45
    go_wp2
    go_ret2
    exact ⟨rfl, rfl⟩
  by_cases h5 : mo < 1
  · go_enter Try.func45, Try.ntmps45
    go_wp2
    go_ret2
    exact ⟨rfl, rfl⟩
  by_cases h6 : al < mo
  · go_enter Try.func45, Try.ntmps45
    go_wp2
    go_ret2
    exact ⟨rfl, rfl⟩
  omega

theorem new_any (k : Env) (w : World) (R : Assn) (al kp mo : Int) (h1 : 1 ≤ al) (h2 : al ≤ 1073741824) (h3 : 0 ≤ kp) (h4 : kp ≤ al) (h5 : 1 ≤ mo) (h6 : mo ≤ al) (h : Sat k w R) :
    Calls Try.prog 45 #[.int .i64 al, .int .i64 kp, .int .i64 mo] w fun e w' => ∃ b, e = .returned (.tuple #[.pointer (some ⟨b, 0, none⟩), .int .i64 0]) ∧ Sat k w' (StoreV b al kp mo [] [] * R) := by
  have hmm := @run_makeMap Try.prog
  go_enter Try.func45, Try.ntmps45
  go_wp2
  go_ret2
  refine ⟨_, rfl, ?_⟩
  have hm := (map_made (kv := Value.string) h).alloc (.cells (cellsS (.slice none 0 0) (.slice none 0 0) w.heap.size ⟨[], [], [], ⟨-1, -1, 0⟩, ⟨-1, -1, 0⟩, al, kp, mo⟩) 129)
  rw [World.size_alloc] at hm
  refine sv_close (st := ⟨[], [], [], ⟨-1, -1, 0⟩, ⟨-1, -1, 0⟩, al, kp, mo⟩) (T := []) (K := []) (store_close (own_nil (own_nil hm).swap).swap rfl rfl rfl rfl rfl rfl) ?_ rfl rfl rfl rfl rfl h3
  exact ⟨⟨trivial, rfl, rfl⟩, ⟨trivial, rfl, rfl⟩, by simp, ⟨[], rfl, by simp, by simp, fun i => by simp⟩, fun a v => by simp, by simp, rfl, rfl, by simp, by show (0 : Int) ≤ al; omega, ⟨h1, h2, h3, h4, h5, h6⟩, by show (0 : Int) ≤ al; omega⟩

set_option maxRecDepth 100000 in
set_option maxHeartbeats 4000000 in
theorem put_ok (k : Env) (w : World) (R : Assn) (b : Nat) (al kp mo : Int) (t kk : List KV) (a : ByteArray) (size : Int) (h1 : 1 ≤ size) (h2 : size ≤ mo) (h : Sat k w (StoreV b al kp mo t kk * R)) :
    Calls Try.prog 48 #[.pointer (some ⟨b, 0, none⟩), .string a, .int .i64 size] w fun e w' => ∃ v, e = .returned (.tuple #[v, .int .i64 0]) ∧ Sat k w' (Strs v (roomR al a size t kk).2.2 * (StoreV b al kp mo ((a, size) :: (roomR al a size t kk).1) (roomR al a size t kk).2.1 * R)) := by
  obtain ⟨st, T, K, hr, rfl, rfl, rfl, rfl, rfl, hk, hs0⟩ := sv_open h
  obtain ⟨aa, ac, fa, fc, m, hs⟩ := store_open hs0
  have hpa := hr.pa
  have c2 : w.cell? ⟨b, 2, none⟩ = some (.map (some m)) := hs.cell 2
  have c11 : w.cell? ⟨b, 11, none⟩ = some (.int .i64 st.mo) := hs.cell 11
  have hz1 : ¬ size < 1 := by omega
  have hz2 : ¬ st.mo < size := by omega
  have HK := Lib.hid hk
  clear hs hk
  go_enter Try.func48, Try.ntmps48
  go_wp2_with (go_at_call 73; refine (sthere_any _ _ _ c2).mono ?_; rintro e w' ⟨rfl, rfl⟩)
  refine (drop_rep k _ R b st T K a hr hs0).mono ?_
  rintro e w1 ⟨rfl, st1, T1, K1, hr1, e1, e2, ⟨e3, e4, e5⟩, g1⟩
  have E := Lib.hid (show view st1.A T1 = dropV a (view st.A T) ∧ view st1.A K1 = dropV a (view st.A K) ∧ st1.al = st.al ∧ st1.kp = st.kp ∧ st1.mo = st.mo from ⟨e1, e2, e3, e4, e5⟩)
  have hsa : size ≤ st1.al := by rw [e3]; omega
  clear e1 e2 e3 e4 e5
  go_wp2_with fail
  refine (room_any k _ R b st1 T1 K1 size hr1 h1 hsa g1).mono ?_
  rintro e w2 ⟨v, rfl, st2, T2, K2, out, hr2, e6, e7, e8, e9, hsum, g2⟩
  have E2 := Lib.hid (show (view st2.A T2, view st2.A K2, out) = roomR st.al a size (view st.A T) (view st.A K) by
    rw [e6, E.out.1, E.out.2.1, E.out.2.2.1]
    unfold roomR
    rw [← E.out.1, ← E.out.2.1, view_len, view_len])
  have E3 := Lib.hid (show st2.al = st.al ∧ st2.kp = st.kp ∧ st2.mo = st.mo from ⟨e7.trans E.out.2.2.1, e8.trans E.out.2.2.2.1, e9.trans E.out.2.2.2.2⟩)
  have hsum' : sumA st2.A (T2 ++ K2) + size ≤ st2.al := by rw [e7]; exact hsum
  have hne : ∀ i ∈ T2 ++ K2, keyA st2.A i ≠ a := by
    have hq := E2.out
    simp only [Prod.ext_iff] at hq
    obtain ⟨q1, q2, q3⟩ := hq
    obtain ⟨s1, s2, _⟩ := roomV_sub st.al size ((dropV a (view st.A T)).length + (dropV a (view st.A K)).length) (dropV a (view st.A T)) (dropV a (view st.A K))
    intro i hi
    rcases List.mem_append.1 hi with hi | hi
    · have hm : (keyA st2.A i, sizA st2.A i) ∈ view st2.A T2 := List.mem_map_of_mem hi
      rw [q1] at hm
      have := s1 _ hm
      simpa using (List.mem_filter.1 this).2
    · have hm : (keyA st2.A i, sizA st2.A i) ∈ view st2.A K2 := List.mem_map_of_mem hi
      rw [q2] at hm
      have := s2 _ hm
      simpa using (List.mem_filter.1 this).2
  obtain ⟨ra, rlt, rat, rnew⟩ := rep_add hr2 a size h1 hsum' hne
  have hA2 : (st2.A.length : Int) ≤ 1073741824 := by have := hr2.len; have := hr2.pa; omega
  have hF2 := hr2.flen
  have hF0 : ∀ v ∈ st2.F, 0 ≤ v := by
    obtain ⟨F, f1, _⟩ := hr2.fr
    rw [f1]
    intro v hv
    obtain ⟨j, _, rfl⟩ := List.mem_map.1 hv
    omega
  have HF0 := Lib.hid hF0
  have HSUM := Lib.hid hsum'
  have HNE := Lib.hid hne
  have HAT := Lib.hid rat
  have HNEW := Lib.hid rnew
  clear e6 e7 e8 e9 hsum hsum' hne hF0 rat rnew
  go_wp2_with fail
  refine (slot_any k _ _ b st2 hA2 hF2 HF0.out g2.swap).mono ?_
  rintro e w3 ⟨rfl, g3⟩
  obtain ⟨y, hy⟩ : ∃ y, (slotS st2).A[slotI st2]? = some y := ⟨_, List.getElem?_eq_getElem rlt⟩
  have HY := Lib.hid hy
  have hil : (slotI st2 : Int) < (slotS st2).A.length := by omega
  have hi0 : (0 : Int) ≤ slotI st2 := by omega
  obtain ⟨ab, ac2, fa2, fc2, m2, hs2⟩ := store_open g3
  obtain ⟨g, rfl⟩ := ent_addr hs2.drop hy
  obtain ⟨hgl, d0, d1, d2, d3, d4, hf⟩ := ent_cells hs2.drop hy
  obtain ⟨hbg, hgb⟩ := own_ne hs2
  have c0 : w3.cell? ⟨b, 0, none⟩ = some (.slice (some ⟨g, 0, none⟩) (slotS st2).A.length ac2) := hs2.cell 0
  have c2' : w3.cell? ⟨b, 2, none⟩ = some (.map (some m2)) := hs2.cell 2
  clear hy c2 c11
  have HR := Lib.hid (rep_link0 ra)
  have PP := Lib.hid (put_pure hr2 a size h1 HSUM.out HNE.out)
  have HADD : Hid (addS (slotS st2) (slotI st2) a size = { slotS st2 with A := (slotS st2).A.set (slotI st2) ⟨a, size, 0, 0, 0⟩, P := mput a ((slotI st2 : Nat) : Int) (slotS st2).P }) := rfl
  go_wp2_with (at_mapUpdate; refine wpList_update_sat KStr mapT ((own_setAll hs2.swap HY.out ⟨a, size, 0, 0, 0⟩).get4) a (.int .i64 (slotI st2)) (.tmp 44) (.tmp 45) (.tmp 46) rfl rfl rfl rfl rfl ?_; intro w4 h4)
  rw [plv_put] at h4
  have h5 : Sat k w4 (StoreR b (addS (slotS st2) (slotI st2) a size) * (Strs v out * R)) := by
    refine store_close h4.put4.swap rfl ?_ rfl rfl rfl rfl
    simp [addS]
  refine (link_rep0 k _ _ b _ T2 K2 [] (slotI st2) ra h5).mono ?_
  rintro e w5 ⟨rfl, h6⟩
  go_wp2_with fail
  go_ret2
  have hq := E2.out
  simp only [Prod.ext_iff] at hq
  obtain ⟨q1, q2, q3⟩ := hq
  obtain ⟨p1, p2, p3, p4, p5⟩ := PP.out
  refine ⟨_, rfl, ?_⟩
  rw [← q1, ← q2, ← q3]
  refine (sv_close h6 HR.out p1 p2 (p3.trans E3.out.1) (p4.trans E3.out.2.1) (p5.trans E3.out.2.2) ?_).swap
  show sumV (view st2.A K2) ≤ st.kp
  rw [show view st2.A K2 = _ from q2]
  refine Int.le_trans (roomV_kept _ _ _ _ _ fun x hx => ?_) (Int.le_trans (sumV_dropV _ _ fun x hx => ?_) HK.out)
  · have := hr.viewPos.2 x (List.mem_filter.1 hx).1; omega
  · have := hr.viewPos.2 x hx; omega

end Go.Proofs.Ytlilogcojeoelaa
