/- Contracts of the document's store of two segments: New, Keys, Has, Drop. -/
import Derived.Test.YtekhidibignhbaaSlruR
namespace Go.Proofs.Ytekhidibignhbaa
set_option linter.unusedSimpArgs false
set_option linter.unusedVariables false
open Go Go.RowKit

set_option maxHeartbeats 1000000 in
theorem rkeys_any (k : Env) (w : World) (R : Assn) (a : Option Addr) (c : Nat) (l : List KV) (hb : (l.length : Int) ≤ 1073741824) (h : Sat k w (Kvs (.slice a l.length c) l * R)) :
    Calls Try.prog 23 #[.slice a l.length c] w fun e w' => ∃ v, e = .returned v ∧ Sat k w' (Strs v (l.map (·.1)) * (Kvs (.slice a l.length c) l * R)) := by
  go_enter Try.func23, Try.ntmps23
  go_wp2
  go_loopw [3, 4] (fun v i wr => ∃ j : Nat, j ≤ l.length ∧ i = .int .i64 j ∧ Sat k wr (Own 9 1 v j (strs ((l.take j).map (·.1))) * (Kvs (.slice a l.length c) l * R))) (fun _ i _ => l.length - (intOf i).toNat)
  case atStart => exact ⟨0, Nat.zero_le _, rfl, own_nil h⟩
  case round =>
    obtain ⟨j, hj, rfl, hr⟩ := hrel
    by_cases hlt : j < l.length
    · obtain ⟨g, rfl, hg, d0, d1⟩ := kv_get hr.drop j hlt
      have HU := Lib.hid (List.take_succ_eq_append_getElem hlt)
      obtain ⟨va, vc, rfl⟩ := own_val hr
      go_wp2_with (at_builtin; refine wpList_append_sat TStrs (hr.alloc' _) (.tmp 11) (.tmp 17) _ 1 1 [.string l[j].1] rfl rfl rfl rfl rfl (fun _ => ⟨_, rfl, new_cells_at _ _ _ _ (by first | rfl | simp)⟩) (strs_one [l[j].1]) (by simp [maxLen]; omega) (by omega) ?_; intro a3 c3 w3 h3)
      go_roundw
      case rel => exact ⟨j + 1, by omega, by go_num, by rw [HU.out, List.map_append, List.map_cons, List.map_nil, ← strs_snoc]; exact h3⟩
      case measure => simp [intOf]; omega
    · obtain rfl : j = l.length := by omega
      go_wp2
      go_ret
      rw [List.take_length] at hr
      refine ⟨_, rfl, ?_⟩
      unfold Strs
      rw [List.length_map]
      exact hr

theorem mget_append (s : ByteArray) (t kk : List KV) : mget s (t ++ kk) = (mget s t).or (mget s kk) := by
  induction t with
  | nil => simp [mget]
  | cons x r ih => rw [List.cons_append, mget, mget]; split <;> simp_all
def badNew (al kp mo : Int) : Prop := al < 1 ∨ 1073741824 < al ∨ kp < 0 ∨ al < kp ∨ mo < 1 ∨ al < mo
set_option maxHeartbeats 1000000 in
theorem rnew_any (k : Env) (w : World) (R : Assn) (al kp mo : Int) (h1 : 1 ≤ al) (h2 : al ≤ 1073741824) (h3 : 0 ≤ kp) (h4 : kp ≤ al) (h5 : 1 ≤ mo) (h6 : mo ≤ al) (h : Sat k w R) :
    Calls Try.prog 17 #[.int .i64 al, .int .i64 kp, .int .i64 mo] w fun e w' => ∃ b, e = .returned (.tuple #[.pointer (some ⟨b, 0, none⟩), .int .i64 0]) ∧ Sat k w' (RefV b al kp mo [] [] * R) := by
  have q1 : ¬ al < 1 := by omega
  have q2 : ¬ 1073741824 < al := by omega
  have q3 : ¬ kp < 0 := by omega
  have q4 : ¬ al < kp := by omega
  have q5 : ¬ mo < 1 := by omega
  have q6 : ¬ al < mo := by omega
  go_enter Try.func17, Try.ntmps17
  go_wp2
  go_ret2
  refine ⟨_, rfl, ?_⟩
  refine rv_close (v1 := .slice none 0 0) (v2 := .slice none 0 0) ?_ rfl
  exact (rec_nil (rec_nil (h.alloc _))).get3
set_option maxHeartbeats 1000000 in
theorem rnew_bad (k : Env) (w : World) (R : Assn) (al kp mo : Int) (hb : badNew al kp mo) (h : Sat k w R) :
    Calls Try.prog 17 #[.int .i64 al, .int .i64 kp, .int .i64 mo] w fun e w' => ∃ b, e = .returned (.tuple #[.pointer (some ⟨b, 0, none⟩), .int .i64 1]) ∧ Sat k w' R := by
  unfold badNew at hb
  by_cases q1 : al < 1
  · go_enter Try.func17, Try.ntmps17
    go_wp2
    go_ret2
    first | exact ⟨_, rfl, h.alloc' _⟩ | exact ⟨⟨_, rfl⟩, h.alloc' _⟩
  by_cases q2 : 1073741824 < al
  · go_enter Try.func17, Try.ntmps17
    go_wp2
    go_ret2
    first | exact ⟨_, rfl, h.alloc' _⟩ | exact ⟨⟨_, rfl⟩, h.alloc' _⟩
  by_cases q3 : kp < 0
  · go_enter Try.func17, Try.ntmps17
    go_wp2
    go_ret2
    first | exact ⟨_, rfl, h.alloc' _⟩ | exact ⟨⟨_, rfl⟩, h.alloc' _⟩
  by_cases q4 : al < kp
  · go_enter Try.func17, Try.ntmps17
    go_wp2
    go_ret2
    first | exact ⟨_, rfl, h.alloc' _⟩ | exact ⟨⟨_, rfl⟩, h.alloc' _⟩
  by_cases q5 : mo < 1
  · go_enter Try.func17, Try.ntmps17
    go_wp2
    go_ret2
    first | exact ⟨_, rfl, h.alloc' _⟩ | exact ⟨⟨_, rfl⟩, h.alloc' _⟩
  have q6 : al < mo := by omega
  go_enter Try.func17, Try.ntmps17
  go_wp2
  go_ret2
  first | exact ⟨_, rfl, h.alloc' _⟩ | exact ⟨⟨_, rfl⟩, h.alloc' _⟩

set_option maxHeartbeats 1000000 in
theorem rhas_any (k : Env) (w : World) (R : Assn) (b : Nat) (al kp mo : Int) (t kk : List KV) (s : ByteArray) (h : Sat k w (RefV b al kp mo t kk * R)) :
    Calls Try.prog 22 #[.pointer (some ⟨b, 0, none⟩), .string s] w fun e w' => e = .returned (.tuple #[.int .i64 ((mget s (t ++ kk)).getD 0), .bool (mget s (t ++ kk)).isSome]) ∧ w = w' := by
  obtain ⟨a1, c1, a2, c2, hs⟩ := rv_open h
  have d0 : w.cell? ⟨b, 0, none⟩ = some (.slice a1 t.length c1) := hs.cell 0
  have d1 : w.cell? ⟨b, 1, none⟩ = some (.slice a2 kk.length c2) := hs.cell 1
  have K1 := rec_cap hs.swap
  have K2 := rec_cap hs.get3
  unfold maxLen at K1 K2
  have C1 := fun w' (e : w = w') => rplace_any k w' _ a1 c1 t s (e ▸ hs.swap)
  have C2 := fun w' (e : w = w') => rplace_any k w' _ a2 c2 kk s (e ▸ hs.get3)
  have hm := mget_append s t kk
  have HC1 := Lib.hid C1
  have HC2 := Lib.hid C2
  have HM := Lib.hid hm
  clear hm C1 C2
  rcases plcV_cases s t 0 with ⟨e1, m1⟩ | ⟨j, hj, e1, _, m1⟩
  · rcases plcV_cases s kk 0 with ⟨e2, m2⟩ | ⟨i, hi, e2, _, m2⟩
    · rw [HM.out, m1, m2]
      have E1 := Lib.hid e1
      have E2 := Lib.hid e2
      clear e1 e2 m1 m2
      go_enter Try.func22, Try.ntmps22
      go_wp2_with fail
      refine (HC1.out _ rfl).mono ?_
      rintro e w1 ⟨rfl, rfl⟩
      rw [E1.out]
      go_wp2_with fail
      refine (HC2.out _ rfl).mono ?_
      rintro e w1 ⟨rfl, rfl⟩
      rw [E2.out]
      go_wp2_with fail
      go_ret2
      exact ⟨rfl, rfl⟩
    · rw [HM.out, m1, m2]
      obtain ⟨g, rfl, hg, d2, d3⟩ := kv_get hs.get3 i hi
      have E1 := Lib.hid e1
      have E2 := Lib.hid e2
      clear e1 e2 m1 m2
      go_enter Try.func22, Try.ntmps22
      go_wp2_with fail
      refine (HC1.out _ rfl).mono ?_
      rintro e w1 ⟨rfl, rfl⟩
      rw [E1.out]
      go_wp2_with fail
      refine (HC2.out _ rfl).mono ?_
      rintro e w1 ⟨rfl, rfl⟩
      rw [E2.out, Nat.zero_add]
      go_wp2_with fail
      go_ret2
      exact ⟨rfl, rfl⟩
  · rw [HM.out, m1]
    obtain ⟨g, rfl, hg, d2, d3⟩ := kv_get hs.swap j hj
    have E1 := Lib.hid e1
    clear e1 m1
    go_enter Try.func22, Try.ntmps22
    go_wp2_with fail
    refine (HC1.out _ rfl).mono ?_
    rintro e w1 ⟨rfl, rfl⟩
    rw [E1.out, Nat.zero_add]
    go_wp2_with fail
    refine (HC2.out _ rfl).mono ?_
    rintro e w1 ⟨rfl, rfl⟩
    go_wp2_with fail
    go_ret2
    exact ⟨rfl, rfl⟩

set_option maxHeartbeats 1000000 in
theorem rdrop_any (k : Env) (w : World) (R : Assn) (b : Nat) (al kp mo : Int) (t kk : List KV) (s : ByteArray) (hb : (t.length : Int) + kk.length ≤ 1073741824) (h : Sat k w (RefV b al kp mo t kk * R)) :
    Calls Try.prog 20 #[.pointer (some ⟨b, 0, none⟩), .string s] w fun e w' => e = .returned (.bool (mget s (t ++ kk)).isSome) ∧ Sat k w' (RefV b al kp mo (dropV s t) (dropV s kk) * R) := by
  have C1 := Lib.hid (rhas_any k w R b al kp mo t kk s h)
  obtain ⟨a1, c1, a2, c2, hs⟩ := rv_open h
  have d0 : w.cell? ⟨b, 0, none⟩ = some (.slice a1 t.length c1) := hs.cell 0
  clear h
  go_enter Try.func20, Try.ntmps20
  go_wp2_with fail
  refine C1.out.mono ?_
  rintro e w1 ⟨rfl, rfl⟩
  go_wp2_with fail
  refine (rwithout_any k _ _ a1 c1 t s (by omega) hs.swap).mono ?_
  rintro e w1 ⟨v1, rfl, h1⟩
  obtain ⟨va1, vc1, rfl⟩ := rec_val h1
  have f0 := h1.get3.frozen 0
  have e0 : w1.cell? ⟨b, 0, none⟩ = some (.slice a1 t.length c1) := h1.get3.cell 0
  have e1 : w1.cell? ⟨b, 1, none⟩ = some (.slice a2 kk.length c2) := h1.get3.cell 1
  clear d0 hs
  go_wp2_with fail
  have h2 := h1.get3.set 0 (.slice va1 (dropV s t).length vc1)
  refine (rwithout_any k _ _ a2 c2 kk s (by omega) h2.get4).mono ?_
  rintro e w2 ⟨v2, rfl, h3⟩
  obtain ⟨va2, vc2, rfl⟩ := rec_val h3
  have f1 := h3.get3.frozen 1
  have e2 : w2.cell? ⟨b, 1, none⟩ = some (.slice a2 kk.length c2) := h3.get3.cell 1
  clear f0 e0 e1 h1 h2
  go_wp2_with fail
  go_ret
  have h4 := h3.get3.set 1 (.slice va2 (dropV s kk).length vc2)
  exact ⟨rfl, rv_close h4.drop3.drop4.swap2 rfl⟩

end Go.Proofs.Ytekhidibignhbaa
