/- Several texts in one: SlruR, SlruR2. -/
import Derived.Test.YtlilogcojeoelaaSlruCp
import Derived.Test.YtlilogcojeoelaaMA
import Derived.Deep.LoopGhost
namespace Go.Proofs.Ytlilogcojeoelaa
set_option linter.all false
open Go Go.RowKit

def EKV : Enc KV := ⟨fun x => [.string x.1, .int .i64 x.2], 2, fun _ => rfl, fun x u hu => by simp at hu; rcases hu with rfl | rfl <;> rfl⟩
theorem TKv : SliceT Try.prog 96 140 (.agg #[.string ByteArray.empty, .int .i64 0]) 2 24 := ⟨by kernel_rfl, by kernel_rfl, rfl, by decide⟩
abbrev Kvs (v : Value) (l : List KV) : Assn := RecS EKV 140 v l

def cellsF (v1 v2 : Value) (al kp mo : Int) : Array Value := #[v1, v2, .int .i64 al, .int .i64 kp, .int .i64 mo]
def RefV (b : Nat) (al kp mo : Int) (t k : List KV) : Assn :=
  ex fun p : Value × Value => blk b (.cells (cellsF p.1 p.2 al kp mo) 98 (0, 0)) * (Kvs p.1 t * Kvs p.2 k)
section
variable {k : Env} {w : World} {b : Nat} {al kp mo : Int} {t kk : List KV} {R : Assn}
theorem rv_open (h : Sat k w (RefV b al kp mo t kk * R)) : ∃ a1 c1 a2 c2, Sat k w (blk b (.cells (cellsF (.slice a1 t.length c1) (.slice a2 kk.length c2) al kp mo) 98 (0, 0)) * (Kvs (.slice a1 t.length c1) t * (Kvs (.slice a2 kk.length c2) kk * R))) := by
  obtain ⟨⟨v1, v2⟩, h⟩ := Sat.ex.1 h
  simp only [star_assoc] at h
  obtain ⟨a1, c1, rfl⟩ := rec_val h.swap
  obtain ⟨a2, c2, rfl⟩ := rec_val h.get3
  exact ⟨a1, c1, a2, c2, h⟩
theorem rv_close {v1 v2 : Value} {cs : Array Value} (h : Sat k w (blk b (.cells cs 98 (0, 0)) * (Kvs v1 t * (Kvs v2 kk * R)))) (e : cs = cellsF v1 v2 al kp mo) : Sat k w (RefV b al kp mo t kk * R) := by
  subst e
  exact Sat.ex.2 ⟨(v1, v2), by simp only [star_assoc]; exact h⟩
theorem kv_get {a : Option Addr} {c : Nat} (h : Sat k w (Kvs (.slice a t.length c) t * R)) (j : Nat) (hj : j < t.length) :
    ∃ g, a = some ⟨g, 0, none⟩ ∧ g < w.heap.size ∧ w.cell? ⟨g, j * 2, none⟩ = some (.string t[j].1) ∧ w.cell? ⟨g, j * 2 + 1, none⟩ = some (.int .i64 t[j].2) := by
  obtain ⟨g, rfl, hg, hc⟩ := rec_get h (by decide) j hj
  exact ⟨g, rfl, hg, hc 0 (by decide), hc 1 (by decide)⟩
end

def posV (l : List KV) : Prop := ∀ x ∈ l, 1 ≤ x.2
theorem sumV_app (l r : List KV) : sumV (l ++ r) = sumV l + sumV r := by
  induction l with
  | nil => simp [sumV]
  | cons x l ih => simp only [List.cons_append, sumV, ih]; omega
theorem sumV_take {l : List KV} (h : posV l) (j : Nat) : 0 ≤ sumV (l.take j) ∧ sumV (l.take j) ≤ sumV l := by
  have e : sumV l = sumV (l.take j) + sumV (l.drop j) := by rw [← sumV_app, List.take_append_drop]
  have h1 := sumV_pos (l := l.take j) fun x hx => by have := h x (List.mem_of_mem_take hx); omega
  have h2 := sumV_pos (l := l.drop j) fun x hx => by have := h x (List.mem_of_mem_drop hx); omega
  omega
theorem sumV_snoc {l : List KV} (j : Nat) (hj : j < l.length) : sumV (l.take (j + 1)) = sumV (l.take j) + l[j].2 := by
  rw [List.take_succ_eq_append_getElem hj, sumV_app]; simp [sumV]

set_option maxHeartbeats 1000000 in
theorem rsum_any (k : Env) (w : World) (R : Assn) (a : Option Addr) (c : Nat) (l : List KV) (hp : posV l) (hb : sumV l ≤ 2305843009213693952) (h : Sat k w (Kvs (.slice a l.length c) l * R)) :
    Calls Try.prog 67 #[.slice a l.length c] w fun e w' => e = .returned (.int .i64 (sumV l)) ∧ w = w' := by
  have hcap := rec_cap h
  unfold maxLen at hcap
  go_enter Try.func67, Try.ntmps67
  go_wp2
  go_loopw [3, 4] (fun s i wr => ∃ j : Nat, j ≤ l.length ∧ i = .int .i64 j ∧ s = .int .i64 (sumV (l.take j)) ∧ wr = w) (fun _ i _ => l.length - (intOf i).toNat)
  case atStart => exact ⟨0, Nat.zero_le _, rfl, rfl, rfl⟩
  case round =>
    obtain ⟨j, hj, rfl, rfl, rfl⟩ := hrel
    by_cases hlt : j < l.length
    · obtain ⟨g, rfl, hg, d0, d1⟩ := kv_get h j hlt
      have h1 := sumV_take hp j
      have h2 := sumV_take hp (j + 1)
      have h3 := sumV_snoc j hlt
      have HS := Lib.hid h3
      have hx : 0 ≤ l[j].2 := by have := hp _ (List.getElem_mem hlt); omega
      have hx2 : sumV (l.take j) + l[j].2 ≤ 2305843009213693952 := by omega
      clear h2 h3
      go_wp2
      go_roundw
      case rel => exact ⟨j + 1, by omega, by go_num, by rw [HS.out], by first | rfl | trivial⟩
      case measure => simp [intOf]; omega
    · obtain rfl : j = l.length := by omega
      go_wp2
      go_ret
      rw [List.take_length]
      exact ⟨rfl, by first | rfl | trivial⟩

def plcV (a : ByteArray) : List KV → Nat → Int
  | [], _ => -1
  | x :: r, i => if x.1 = a then (i : Int) else plcV a r (i + 1)
theorem plcV_drop (a : ByteArray) (l : List KV) (j : Nat) (hj : j < l.length) : plcV a (l.drop j) j = if l[j].1 = a then (j : Int) else plcV a (l.drop (j + 1)) (j + 1) := by
  rw [List.drop_eq_getElem_cons hj, plcV]
theorem plcV_cases (a : ByteArray) (l : List KV) (i : Nat) : (plcV a l i = -1 ∧ mget a l = none) ∨ ∃ j, ∃ hj : j < l.length, plcV a l i = ((i + j : Nat) : Int) ∧ l[j].1 = a ∧ mget a l = some l[j].2 := by
  induction l generalizing i with
  | nil => exact .inl ⟨rfl, rfl⟩
  | cons x r ih =>
    by_cases hx : x.1 = a
    · exact .inr ⟨0, by simp, by simp [plcV, hx], by simpa using hx, by simp [mget, hx]⟩
    · rcases ih (i + 1) with ⟨h1, h2⟩ | ⟨j, hj, h1, h2, h3⟩
      · exact .inl ⟨by simp [plcV, hx, h1], by simp [mget, hx, h2]⟩
      · exact .inr ⟨j + 1, by simpa using hj, by rw [plcV, if_neg hx, h1]; omega, by simpa using h2, by rw [mget, if_neg hx, h3]; rfl⟩

set_option maxHeartbeats 1000000 in
theorem rplace_any (k : Env) (w : World) (R : Assn) (a : Option Addr) (c : Nat) (l : List KV) (s : ByteArray) (h : Sat k w (Kvs (.slice a l.length c) l * R)) :
    Calls Try.prog 87 #[.slice a l.length c, .string s] w fun e w' => e = .returned (.int .i64 (plcV s l 0)) ∧ w = w' := by
  have hcap := rec_cap h
  unfold maxLen at hcap
  go_enter Try.func87, Try.ntmps87
  go_wp2
  go_loopw [5] (fun i wr => ∃ j : Nat, j ≤ l.length ∧ i = .int .i64 j ∧ Hid (plcV s l 0 = plcV s (l.drop j) j) ∧ wr = w) (fun i _ => l.length - (intOf i).toNat)
  case atStart => exact ⟨0, Nat.zero_le _, rfl, rfl, rfl⟩
  case round =>
    obtain ⟨j, hj, rfl, HP, rfl⟩ := hrel
    by_cases hlt : j < l.length
    · obtain ⟨g, rfl, hg, d0, d1⟩ := kv_get h j hlt
      have HD := Lib.hid (plcV_drop s l j hlt)
      by_cases hq : l[j].1 = s
      · have hb : (l[j].1.toList == s.toList) = true := by rw [tl_beq]; simp [hq]
        have HQ := Lib.hid hq
        clear hq
        go_wp2
        go_ret
        refine ⟨?_, by first | rfl | trivial⟩
        rw [HP.out, HD.out, if_pos HQ.out]; rfl
      · have hb : (l[j].1.toList == s.toList) = false := by rw [tl_beq]; simp [hq]
        have HQ := Lib.hid hq
        clear hq
        go_wp2
        go_roundw
        case rel => exact ⟨j + 1, by omega, by go_num, by unfold Hid; rw [HP.out, HD.out, if_neg HQ.out], by first | rfl | trivial⟩
        case measure => simp [intOf]; omega
    · obtain rfl : j = l.length := by omega
      go_wp2
      go_ret
      exact ⟨by rw [HP.out]; simp [plcV], by first | rfl | trivial⟩

theorem dropV_snoc (a : ByteArray) (l : List KV) (x : KV) : dropV a (l ++ [x]) = if x.1 = a then dropV a l else dropV a l ++ [x] := by
  simp only [dropV, List.filter_append, List.filter_cons, List.filter_nil]
  split <;> simp_all
theorem dropV_len (a : ByteArray) (l : List KV) : (dropV a l).length ≤ l.length := List.length_filter_le _ _

set_option maxHeartbeats 1000000 in
theorem rwithout_any (k : Env) (w : World) (R : Assn) (a : Option Addr) (c : Nat) (l : List KV) (s : ByteArray) (hb : (l.length : Int) ≤ 4294967296) (h : Sat k w (Kvs (.slice a l.length c) l * R)) :
    Calls Try.prog 88 #[.slice a l.length c, .string s] w fun e w' => ∃ v, e = .returned v ∧ Sat k w' (Kvs v (dropV s l) * (Kvs (.slice a l.length c) l * R)) := by
  go_enter Try.func88, Try.ntmps88
  go_wp2
  go_loopw [5, 6] (fun v i wr => ∃ j : Nat, j ≤ l.length ∧ i = .int .i64 j ∧ Sat k wr (Kvs v (dropV s (l.take j)) * (Kvs (.slice a l.length c) l * R))) (fun _ i _ => l.length - (intOf i).toNat)
  case atStart => exact ⟨0, Nat.zero_le _, rfl, rec_nil h⟩
  case round =>
    obtain ⟨j, hj, rfl, hr⟩ := hrel
    by_cases hlt : j < l.length
    · obtain ⟨g, rfl, hg, d0, d1⟩ := kv_get hr.drop j hlt
      have HT := Lib.hid (dropV_snoc s (l.take j) l[j])
      have HU := Lib.hid (List.take_succ_eq_append_getElem hlt)
      have hdl : ((dropV s (l.take j)).length : Int) ≤ 4294967296 := by have := dropV_len s (l.take j); simp at this; omega
      obtain ⟨va, vc, rfl⟩ := rec_val hr
      by_cases hq : l[j].1 = s
      · have hbq : (l[j].1.toList == s.toList) = true := by rw [tl_beq]; simp [hq]
        have HQ := Lib.hid hq
        clear hq
        go_wp2
        go_roundw
        case rel => exact ⟨j + 1, by omega, by go_num, by rw [HU.out, HT.out, if_pos HQ.out]; exact hr⟩
        case measure => simp [intOf]; omega
      · have hbq : (l[j].1.toList == s.toList) = false := by rw [tl_beq]; simp [hq]
        have HQ := Lib.hid hq
        clear hq
        go_wp2_with (at_builtin; refine wpList_append_sat TKv (hr.alloc' _) (.tmp 20) (.tmp 25) _ 1 1 [.string l[j].1, .int .i64 l[j].2] rfl rfl rfl rfl rfl (fun _ => ⟨_, rfl, new_cells_at _ _ _ _ (by first | rfl | simp)⟩) (EKV.one (_, _)) (by simp [maxLen]; omega) (by omega) ?_; intro a3 c3 w3 h3)
        go_roundw
        case rel => exact ⟨j + 1, by omega, by go_num, by rw [HU.out, HT.out, if_neg HQ.out]; exact rec_push h3⟩
        case measure => simp [intOf]; omega
    · obtain rfl : j = l.length := by omega
      go_wp2
      go_ret
      rw [List.take_length] at hr
      exact ⟨_, rfl, hr⟩

set_option maxHeartbeats 1000000 in
theorem rahead_any (k : Env) (w : World) (R : Assn) (a : Option Addr) (c : Nat) (l : List KV) (x : KV) (hb : (l.length : Int) ≤ 4294967296) (h : Sat k w (Kvs (.slice a l.length c) l * R)) :
    Calls Try.prog 84 #[.slice a l.length c, .agg #[.string x.1, .int .i64 x.2]] w fun e w' => ∃ v, e = .returned v ∧ Sat k w' (Kvs v (x :: l) * (Kvs (.slice a l.length c) l * R)) := by
  have h1 := h.alloc' (.cells #[.string x.1, .int .i64 x.2] 140)
  go_enter Try.func84, Try.ntmps84
  go_wp2_with (first | (at_builtin; refine wpList_append_sat TKv (own_nil (h1.alloc' _)) (.tmp 6) (.tmp 8) _ 1 1 [.string x.1, .int .i64 x.2] rfl rfl rfl rfl rfl (fun _ => ⟨_, rfl, new_cells_at _ _ _ _ (by first | rfl | simp)⟩) (EKV.one (_, _)) (by simp [maxLen]) (by omega) ?_; intro a3 c3 w3 h3; simp only [Nat.zero_add, List.nil_append] at h3) | (at_builtin; refine wpList_append_sat TKv h3 (.tmp 10) (.tmp 11) a l.length c (EKV.recs l) rfl rfl rfl rfl (EKV.recs_len l) (own_src h3.drop) (EKV.recs_ones _) (by simp [maxLen]; omega) (by omega) ?_; intro a4 c4 w4 h4))
  go_ret
  refine ⟨_, rfl, ?_⟩
  have h5 := rec_join (E := EKV) (l := [x]) (r := l) (by rw [EKV.recs_one]; exact h4)
  exact h5

end Go.Proofs.Ytlilogcojeoelaa

namespace Go.Proofs.Ytlilogcojeoelaa
set_option linter.all false
open Go Go.RowKit

set_option maxHeartbeats 1000000 in
theorem rkeys_any (k : Env) (w : World) (R : Assn) (a : Option Addr) (c : Nat) (l : List KV) (hb : (l.length : Int) ≤ 1073741824) (h : Sat k w (Kvs (.slice a l.length c) l * R)) :
    Calls Try.prog 66 #[.slice a l.length c] w fun e w' => ∃ v, e = .returned v ∧ Sat k w' (Strs v (l.map (·.1)) * (Kvs (.slice a l.length c) l * R)) := by
  go_enter Try.func66, Try.ntmps66
  go_wp2
  go_loopw [3, 4] (fun v i wr => ∃ j : Nat, j ≤ l.length ∧ i = .int .i64 j ∧ Sat k wr (Own 9 1 v j (strs ((l.take j).map (·.1))) * (Kvs (.slice a l.length c) l * R))) (fun _ i _ => l.length - (intOf i).toNat)
  case atStart => exact ⟨0, Nat.zero_le _, rfl, own_nil h⟩
  case round =>
    obtain ⟨j, hj, rfl, hr⟩ := hrel
    by_cases hlt : j < l.length
    · obtain ⟨g, rfl, hg, d0, d1⟩ := kv_get hr.drop j hlt
      have HU := Lib.hid (List.take_succ_eq_append_getElem hlt)
      obtain ⟨va, vc, rfl⟩ := own_val hr
      go_wp2_with (at_builtin; refine wpList_append_sat TStrs (hr.alloc' _) (.tmp 11) (.tmp 17) _ 1 1 [.string l[j].1] rfl rfl rfl rfl rfl (fun _ => ⟨_, rfl, new_cells_at _ _ _ _ (by first | rfl | simp)⟩) (strs_one [l[j].1]) (by simp [maxLen]; omega) (by omega) ?_; intro a3 c3 w3 h3)
      go_roundw
      case rel => exact ⟨j + 1, by omega, by go_num, by rw [HU.out, List.map_append, List.map_cons, List.map_nil, ← strs_snoc]; exact h3⟩
      case measure => simp [intOf]; omega
    · obtain rfl : j = l.length := by omega
      go_wp2
      go_ret
      rw [List.take_length] at hr
      refine ⟨_, rfl, ?_⟩
      unfold Strs
      rw [List.length_map]
      exact hr

theorem mget_append (s : ByteArray) (t kk : List KV) : mget s (t ++ kk) = (mget s t).or (mget s kk) := by
  induction t with
  | nil => simp [mget]
  | cons x r ih => rw [List.cons_append, mget, mget]; split <;> simp_all
def badNew (al kp mo : Int) : Prop := al < 1 ∨ 1073741824 < al ∨ kp < 0 ∨ al < kp ∨ mo < 1 ∨ al < mo
set_option maxHeartbeats 1000000 in
theorem rnew_any (k : Env) (w : World) (R : Assn) (al kp mo : Int) (h1 : 1 ≤ al) (h2 : al ≤ 1073741824) (h3 : 0 ≤ kp) (h4 : kp ≤ al) (h5 : 1 ≤ mo) (h6 : mo ≤ al) (h : Sat k w R) :
    Calls Try.prog 54 #[.int .i64 al, .int .i64 kp, .int .i64 mo] w fun e w' => ∃ b, e = .returned (.tuple #[.pointer (some ⟨b, 0, none⟩), .int .i64 0]) ∧ Sat k w' (RefV b al kp mo [] [] * R) := by
  have q1 : ¬ al < 1 := by omega
  have q2 : ¬ 1073741824 < al := by omega
  have q3 : ¬ kp < 0 := by omega
  have q4 : ¬ al < kp := by omega
  have q5 : ¬ mo < 1 := by omega
  have q6 : ¬ al < mo := by omega
  go_enter Try.func54, Try.ntmps54
  go_wp2
  go_ret2
  refine ⟨_, rfl, ?_⟩
  refine rv_close (v1 := .slice none 0 0) (v2 := .slice none 0 0) ?_ rfl
  exact (rec_nil (rec_nil (h.alloc _))).get3
set_option maxHeartbeats 1000000 in
theorem rnew_bad (k : Env) (w : World) (R : Assn) (al kp mo : Int) (hb : badNew al kp mo) (h : Sat k w R) :
    Calls Try.prog 54 #[.int .i64 al, .int .i64 kp, .int .i64 mo] w fun e w' => ∃ b, e = .returned (.tuple #[.pointer (some ⟨b, 0, none⟩), .int .i64 1]) ∧ Sat k w' R := by
  unfold badNew at hb
  by_cases q1 : al < 1
  · go_enter Try.func54, Try.ntmps54
    go_wp2
    go_ret2
    first | exact ⟨_, rfl, h.alloc' _⟩ | exact ⟨⟨_, rfl⟩, h.alloc' _⟩
  by_cases q2 : 1073741824 < al
  · go_enter Try.func54, Try.ntmps54
    go_wp2
    go_ret2
    first | exact ⟨_, rfl, h.alloc' _⟩ | exact ⟨⟨_, rfl⟩, h.alloc' _⟩
  by_cases q3 : kp < 0
  · go_enter Try.func54, Try.ntmps54
    go_wp2
    go_ret2
    first | exact ⟨_, rfl, h.alloc' _⟩ | exact ⟨⟨_, rfl⟩, h.alloc' _⟩
  by_cases q4 : al < kp
  · go_enter Try.func54, Try.ntmps54
    go_wp2
    go_ret2
    first | exact ⟨_, rfl, h.alloc' _⟩ | exact ⟨⟨_, rfl⟩, h.alloc' _⟩
  by_cases q5 : mo < 1
  · go_enter Try.func54, Try.ntmps54
    go_wp2
    go_ret2
    first | exact ⟨_, rfl, h.alloc' _⟩ | exact ⟨⟨_, rfl⟩, h.alloc' _⟩
  have q6 : al < mo := by omega
  go_enter Try.func54, Try.ntmps54
  go_wp2
  go_ret2
  first | exact ⟨_, rfl, h.alloc' _⟩ | exact ⟨⟨_, rfl⟩, h.alloc' _⟩

set_option maxHeartbeats 1000000 in
theorem rhas_any (k : Env) (w : World) (R : Assn) (b : Nat) (al kp mo : Int) (t kk : List KV) (s : ByteArray) (h : Sat k w (RefV b al kp mo t kk * R)) :
    Calls Try.prog 86 #[.pointer (some ⟨b, 0, none⟩), .string s] w fun e w' => e = .returned (.tuple #[.int .i64 ((mget s (t ++ kk)).getD 0), .bool (mget s (t ++ kk)).isSome]) ∧ w = w' := by
  obtain ⟨a1, c1, a2, c2, hs⟩ := rv_open h
  have d0 : w.cell? ⟨b, 0, none⟩ = some (.slice a1 t.length c1) := hs.cell 0
  have d1 : w.cell? ⟨b, 1, none⟩ = some (.slice a2 kk.length c2) := hs.cell 1
  have K1 := rec_cap hs.swap
  have K2 := rec_cap hs.get3
  unfold maxLen at K1 K2
  have C1 := fun w' (e : w = w') => rplace_any k w' _ a1 c1 t s (e ▸ hs.swap)
  have C2 := fun w' (e : w = w') => rplace_any k w' _ a2 c2 kk s (e ▸ hs.get3)
  have hm := mget_append s t kk
  have HC1 := Lib.hid C1
  have HC2 := Lib.hid C2
  have HM := Lib.hid hm
  clear hm C1 C2
  rcases plcV_cases s t 0 with ⟨e1, m1⟩ | ⟨j, hj, e1, _, m1⟩
  · rcases plcV_cases s kk 0 with ⟨e2, m2⟩ | ⟨i, hi, e2, _, m2⟩
    · rw [HM.out, m1, m2]
      have E1 := Lib.hid e1
      have E2 := Lib.hid e2
      clear e1 e2 m1 m2
      go_enter Try.func86, Try.ntmps86
      go_wp2_with fail
      refine (HC1.out _ rfl).mono ?_
      rintro e w1 ⟨rfl, rfl⟩
      rw [E1.out]
      go_wp2_with fail
      refine (HC2.out _ rfl).mono ?_
      rintro e w1 ⟨rfl, rfl⟩
      rw [E2.out]
      go_wp2_with fail
      go_ret2
      exact ⟨rfl, rfl⟩
    · rw [HM.out, m1, m2]
      obtain ⟨g, rfl, hg, d2, d3⟩ := kv_get hs.get3 i hi
      have E1 := Lib.hid e1
      have E2 := Lib.hid e2
      clear e1 e2 m1 m2
      go_enter Try.func86, Try.ntmps86
      go_wp2_with fail
      refine (HC1.out _ rfl).mono ?_
      rintro e w1 ⟨rfl, rfl⟩
      rw [E1.out]
      go_wp2_with fail
      refine (HC2.out _ rfl).mono ?_
      rintro e w1 ⟨rfl, rfl⟩
      rw [E2.out, Nat.zero_add]
      go_wp2_with fail
      go_ret2
      exact ⟨rfl, rfl⟩
  · rw [HM.out, m1]
    obtain ⟨g, rfl, hg, d2, d3⟩ := kv_get hs.swap j hj
    have E1 := Lib.hid e1
    clear e1 m1
    go_enter Try.func86, Try.ntmps86
    go_wp2_with fail
    refine (HC1.out _ rfl).mono ?_
    rintro e w1 ⟨rfl, rfl⟩
    rw [E1.out, Nat.zero_add]
    go_wp2_with fail
    refine (HC2.out _ rfl).mono ?_
    rintro e w1 ⟨rfl, rfl⟩
    go_wp2_with fail
    go_ret2
    exact ⟨rfl, rfl⟩

set_option maxHeartbeats 1000000 in
theorem rdrop_any (k : Env) (w : World) (R : Assn) (b : Nat) (al kp mo : Int) (t kk : List KV) (s : ByteArray) (hb : (t.length : Int) + kk.length ≤ 1073741824) (h : Sat k w (RefV b al kp mo t kk * R)) :
    Calls Try.prog 83 #[.pointer (some ⟨b, 0, none⟩), .string s] w fun e w' => e = .returned (.bool (mget s (t ++ kk)).isSome) ∧ Sat k w' (RefV b al kp mo (dropV s t) (dropV s kk) * R) := by
  have C1 := Lib.hid (rhas_any k w R b al kp mo t kk s h)
  obtain ⟨a1, c1, a2, c2, hs⟩ := rv_open h
  have d0 : w.cell? ⟨b, 0, none⟩ = some (.slice a1 t.length c1) := hs.cell 0
  clear h
  go_enter Try.func83, Try.ntmps83
  go_wp2_with fail
  refine C1.out.mono ?_
  rintro e w1 ⟨rfl, rfl⟩
  go_wp2_with fail
  refine (rwithout_any k _ _ a1 c1 t s (by omega) hs.swap).mono ?_
  rintro e w1 ⟨v1, rfl, h1⟩
  obtain ⟨va1, vc1, rfl⟩ := rec_val h1
  have f0 := h1.get3.frozen 0
  have e0 : w1.cell? ⟨b, 0, none⟩ = some (.slice a1 t.length c1) := h1.get3.cell 0
  have e1 : w1.cell? ⟨b, 1, none⟩ = some (.slice a2 kk.length c2) := h1.get3.cell 1
  clear d0 hs
  go_wp2_with fail
  have h2 := h1.get3.set 0 (.slice va1 (dropV s t).length vc1)
  refine (rwithout_any k _ _ a2 c2 kk s (by omega) h2.get4).mono ?_
  rintro e w2 ⟨v2, rfl, h3⟩
  obtain ⟨va2, vc2, rfl⟩ := rec_val h3
  have f1 := h3.get3.frozen 1
  have e2 : w2.cell? ⟨b, 1, none⟩ = some (.slice a2 kk.length c2) := h3.get3.cell 1
  clear f0 e0 e1 h1 h2
  go_wp2_with fail
  go_ret
  have h4 := h3.get3.set 1 (.slice va2 (dropV s kk).length vc2)
  exact ⟨rfl, rv_close h4.drop3.drop4.swap2 rfl⟩

end Go.Proofs.Ytlilogcojeoelaa
