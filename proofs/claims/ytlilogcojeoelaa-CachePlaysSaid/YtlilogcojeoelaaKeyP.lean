/- What a text says of a key: plain facts. -/
import Derived.Test.YtlilogcojeoelaaOctD
import Derived.Test.YtlilogcojeoelaaKeyS
namespace Go.Proofs.Ytlilogcojeoelaa
set_option linter.all false
open Go Go.RowKit

def p1 (s : ByteArray) := getT s 0
def p2 (s : ByteArray) := getT s (p1 s).2.1
def p3 (s : ByteArray) := g16 s (p2 s).2.1
def p4 (s : ByteArray) := getT s (p3 s).2.1
/-- What can be read of a text. -/
def keyP (s : ByteArray) : Ky := ⟨(p1 s).1, (p2 s).1, (p3 s).1, (p4 s).1⟩
def zeroK : Ky := ⟨⟨#[]⟩, ⟨#[]⟩, 0, ⟨#[]⟩⟩
def isP (s : ByteArray) : Bool := rightK (keyP s) && decide (textK (keyP s) = s)
def resP (s : ByteArray) : Ky := if isP s = true then keyP s else zeroK

theorem errs_run (a b c d : Int) (ha : a = 0 ∨ a = 1 ∨ a = 3) (hb : b = 0 ∨ b = 1 ∨ b = 3) (hc : c = 0 ∨ c = 1 ∨ c = 3) (hd : d = 0 ∨ d = 1 ∨ d = 3) (w : World) :
    (binOp .neq 73 (.agg #[.int .i64 a, .int .i64 b, .int .i64 c, .int .i64 d]) (.agg #[.int .i64 0, .int .i64 0, .int .i64 0, .int .i64 0])).run Try.prog w = .ok (.bool (!(a == 0 && b == 0 && c == 0 && d == 0))) w := by
  rcases ha with rfl | rfl | rfl <;> rcases hb with rfl | rfl | rfl <;> rcases hc with rfl | rfl | rfl <;> rcases hd with rfl | rfl | rfl <;> kernel_rfl

theorem getT_err (s : ByteArray) (a : Int) : (getT s a).2.2 = 0 ∨ (getT s a).2.2 = 1 ∨ (getT s a).2.2 = 3 := by
  unfold getT
  split
  · right; left; rfl
  · split
    · right; right; rfl
    · left; rfl
theorem g16_err (s : ByteArray) (a : Int) : (g16 s a).2.2 = 0 ∨ (g16 s a).2.2 = 1 ∨ (g16 s a).2.2 = 3 := by
  unfold g16
  split
  · right; left; rfl
  · split
    · right; right; rfl
    · left; rfl

theorem endL_noz {l : List UInt8} {i n : Nat} (h : endL l i = ((i + n : Nat) : Int)) : ∃ t q, l = t ++ 0 :: q ∧ t.length = n ∧ endL t i = -1 := by
  induction l generalizing i n with
  | nil => simp [endL] at h; omega
  | cons c r ih =>
    rw [endL] at h
    by_cases hc : c = 0
    · rw [if_pos hc] at h
      exact ⟨[], r, by rw [hc]; rfl, by simp; omega, rfl⟩
    · rw [if_neg hc] at h
      have hr := endL_range r (i + 1)
      obtain ⟨m, rfl⟩ : ∃ m, n = m + 1 := ⟨n - 1, by omega⟩
      obtain ⟨t, q, e1, e2, e3⟩ := ih (n := m) (by rw [h]; congr 1; omega)
      exact ⟨c :: t, q, by rw [e1]; rfl, by simp [e2], by rw [endL, if_neg hc, e3]⟩

/-- Where a text is got: what stands before it, it, its end, and what is behind. -/
theorem getT_split {s t : ByteArray} {a b : Int} (h : getT s a = (t, b, 0)) : ∃ p q : List UInt8, s.data.toList = p ++ (t.data.toList ++ 0 :: q) ∧ a = p.length ∧ b = ((p.length + t.size + 1 : Nat) : Int) ∧ endB t = -1 := by
  unfold getT at h
  split at h
  · simp at h
  split at h
  · simp at h
  rename_i h1 h2
  obtain ⟨n, rfl⟩ : ∃ n : Nat, a = n := ⟨a.toNat, by omega⟩
  simp only [Int.toNat_natCast] at h h2
  have hr := endB_range (s.extract n s.size)
  obtain ⟨m, hm⟩ : ∃ m : Nat, endB (s.extract n s.size) = m := ⟨(endB (s.extract n s.size)).toNat, by omega⟩
  have hm' := hm
  unfold endB at hm
  rw [ext_list] at hm
  obtain ⟨t', q, e1, e2, e3⟩ := endL_noz (i := 0) (n := m) (by rw [hm]; congr 1; omega)
  rw [hm'] at h
  simp only [Prod.mk.injEq] at h
  obtain ⟨ht, hb, _⟩ := h
  have hnl : n ≤ s.data.toList.length := by rw [← size_list]; omega
  have hs : s.data.toList = s.data.toList.take n ++ (t' ++ 0 :: q) := by rw [← e1, List.take_append_drop]
  have hq : ((n : Int) + (m : Int)).toNat = n + m := by omega
  have htl : t.data.toList = t' := by
    rw [← ht, hq, ByteArray.data_extract, Array.toList_extract, List.extract_eq_take_drop, e1, Nat.add_sub_cancel_left, ← e2, List.take_left]
  refine ⟨s.data.toList.take n, q, by rw [htl]; exact hs, by simp; omega, ?_, by unfold endB; rw [htl]; exact e3⟩
  rw [← hb, size_list t, htl, e2]
  simp only [List.length_take]
  omega

theorem num2_small {c d : UInt8} (h : num2 c d = 0 ∨ num2 c d = 1) : [c, d] = (bin2 (num2 c d)).data.toList := by
  have := c.toNat_lt
  have := d.toNat_lt
  unfold num2 at *
  have hc : c.toNat = 0 := by split at h <;> omega
  have hc0 : c = 0 := UInt8.toNat_inj.1 (by simpa using hc)
  subst hc0
  rw [if_neg (by decide)] at *
  rcases h with h | h
  · have : d = 0 := UInt8.toNat_inj.1 (by simp at h ⊢; omega)
    subst this; rfl
  · have : d = 1 := UInt8.toNat_inj.1 (by simp at h ⊢; omega)
    subst this; rfl

theorem g16_split {s : ByteArray} {a n b : Int} (h : g16 s a = (n, b, 0)) (hn : n = 0 ∨ n = 1) : ∃ p q : List UInt8, s.data.toList = p ++ ((bin2 n).data.toList ++ q) ∧ a = p.length ∧ b = ((p.length + 2 : Nat) : Int) := by
  have h0 : ¬ (a < 0 ∨ (s.size : Int) < a + 2) := by
    intro q
    have := (g16_bad q).2
    rw [h] at this
    exact this rfl
  obtain ⟨m, rfl⟩ : ∃ m : Nat, a = m := ⟨a.toNat, by omega⟩
  have hm : m + 2 ≤ s.size := by omega
  obtain ⟨c0, c1, hc⟩ := two_bytes hm
  rw [g16_ok hm hc] at h
  simp only [Prod.mk.injEq, and_true] at h
  obtain ⟨rfl, rfl⟩ := h
  have hq := num2_small hn
  have hx : (s.data.toList.drop m).take 2 = [c0, c1] := by
    have := congrArg (fun x : ByteArray => x.data.toList) hc
    simp only [ByteArray.data_extract, Array.toList_extract, List.extract_eq_take_drop, Nat.add_sub_cancel_left] at this
    exact this
  refine ⟨s.data.toList.take m, s.data.toList.drop (m + 2), ?_, by simp; rw [size_list] at hm; omega, by simp; rw [size_list] at hm; omega⟩
  rw [← hq, ← hx, ← List.drop_drop, List.take_append_drop, List.take_append_drop]

theorem app_len {p p' x y : List UInt8} (h : p ++ x = p' ++ y) (hl : p.length = p'.length) : x = y := (List.append_inj h hl).2
theorem app_len' {p p' x y : List UInt8} (h : p ++ x = p' ++ y) (hl : p.length = p'.length) : p = p' := (List.append_inj h hl).1

/-- What is read whole, and right, has this text. -/
theorem parse_back {s : ByteArray} (e1 : (p1 s).2.2 = 0) (e2 : (p2 s).2.2 = 0) (e3 : (p3 s).2.2 = 0) (e4 : (p4 s).2.2 = 0) (hto : (p4 s).2.1 = s.size) (hr : rightK (keyP s) = true) : textK (keyP s) = s := by
  have hf := (rightK_parts hr).2.2.2
  obtain ⟨a1, q1, s1, l1, m1, _⟩ := getT_split (s := s) (t := (p1 s).1) (a := 0) (b := (p1 s).2.1) (by show p1 s = _; rw [← e1])
  obtain ⟨a2, q2, s2, l2, m2, _⟩ := getT_split (s := s) (t := (p2 s).1) (a := (p1 s).2.1) (b := (p2 s).2.1) (by show p2 s = _; rw [← e2])
  obtain ⟨a3, q3, s3, l3, m3⟩ := g16_split (s := s) (n := (p3 s).1) (a := (p2 s).2.1) (b := (p3 s).2.1) (by show p3 s = _; rw [← e3]) hf
  obtain ⟨a4, q4, s4, l4, m4, _⟩ := getT_split (s := s) (t := (p4 s).1) (a := (p3 s).2.1) (b := (p4 s).2.1) (by show p4 s = _; rw [← e4])
  unfold textK
  rw [if_pos hr]
  apply ByteArray.ext
  apply Array.ext'
  have z1 : a1 = [] := List.length_eq_zero_iff.1 (by omega)
  subst z1
  have hsz : s.size = s.data.toList.length := size_list s
  have b2 : (bin2 (p3 s).1).data.toList.length = 2 := rfl
  have t1 := size_list (p1 s).1
  have t2 := size_list (p2 s).1
  have t4 := size_list (p4 s).1
  have r1 := app_len (s1.symm.trans s2 |>.trans rfl : [] ++ ((p1 s).1.data.toList ++ 0 :: q1) = a2 ++ ((p2 s).1.data.toList ++ 0 :: q2) )
  have k2 : a2 = (p1 s).1.data.toList ++ [0] := by
    refine (app_len' (p := (p1 s).1.data.toList ++ [0]) (x := q1) (y := (p2 s).1.data.toList ++ 0 :: q2) ?_ ?_).symm
    · rw [← s2, s1]; simp
    · simp at l2 m1 ⊢; omega
  have k3 : a3 = a2 ++ ((p2 s).1.data.toList ++ [0]) := by
    refine (app_len' (p := a2 ++ ((p2 s).1.data.toList ++ [0])) (x := q2) (y := (bin2 (p3 s).1).data.toList ++ q3) ?_ ?_).symm
    · rw [← s3, s2]; simp
    · simp at l3 m2 ⊢; omega
  have k4 : a4 = a3 ++ (bin2 (p3 s).1).data.toList := by
    refine (app_len' (p := a3 ++ (bin2 (p3 s).1).data.toList) (x := q3) (y := (p4 s).1.data.toList ++ 0 :: q4) ?_ ?_).symm
    · rw [← s4, s3]; simp
    · rw [List.length_append, b2]; omega
  have k5 : q4 = [] := by
    apply List.length_eq_zero_iff.1
    have := congrArg List.length s4
    rw [List.length_append, List.length_append, List.length_cons] at this
    omega
  rw [s4, k4, k3, k2, k5]
  simp [keyP]

/-- Of a right key's text comes it whole. -/
theorem parse_fwd {y : Ky} (hr : rightK y = true) : (p1 (textK y)).2.2 = 0 ∧ (p2 (textK y)).2.2 = 0 ∧ (p3 (textK y)).2.2 = 0 ∧ (p4 (textK y)).2.2 = 0 ∧ (p4 (textK y)).2.1 = (textK y).size ∧ keyP (textK y) = y := by
  obtain ⟨db, ro, fm, nm⟩ := y
  obtain ⟨e0, e1, e3, hfm⟩ := rightK_parts hr
  have hT : textK ⟨db, ro, fm, nm⟩ = db ++ zb ++ ro ++ zb ++ bin2 fm ++ nm ++ zb := by unfold textK; rw [if_pos hr]
  rw [hT]
  have z1 : zb.size = 1 := rfl
  have z2 : (bin2 fm).size = 2 := rfl
  have z0 : (⟨#[]⟩ : ByteArray).size = 0 := rfl
  have g1 := getT_at ⟨#[]⟩ db (ro ++ zb ++ bin2 fm ++ nm ++ zb) e0
  have q1 : (⟨#[]⟩ : ByteArray) ++ db ++ zb ++ (ro ++ zb ++ bin2 fm ++ nm ++ zb) = db ++ zb ++ ro ++ zb ++ bin2 fm ++ nm ++ zb := by
    apply ByteArray.ext; simp
  have g2 := getT_at (db ++ zb) ro (bin2 fm ++ nm ++ zb) e1
  have q2 : db ++ zb ++ ro ++ zb ++ (bin2 fm ++ nm ++ zb) = db ++ zb ++ ro ++ zb ++ bin2 fm ++ nm ++ zb := by simp [ByteArray.append_assoc]
  have g3 := extract_mid (db ++ zb ++ ro ++ zb) (bin2 fm) (nm ++ zb)
  have q3 : db ++ zb ++ ro ++ zb ++ bin2 fm ++ (nm ++ zb) = db ++ zb ++ ro ++ zb ++ bin2 fm ++ nm ++ zb := by simp [ByteArray.append_assoc]
  have g4 := getT_at (db ++ zb ++ ro ++ zb ++ bin2 fm) nm ⟨#[]⟩ e3
  have q4 : db ++ zb ++ ro ++ zb ++ bin2 fm ++ nm ++ zb ++ ⟨#[]⟩ = db ++ zb ++ ro ++ zb ++ bin2 fm ++ nm ++ zb := by
    apply ByteArray.ext; simp
  rw [q1] at g1
  rw [q2] at g2
  rw [q3] at g3
  rw [q4] at g4
  have hs : (db ++ zb ++ ro ++ zb ++ bin2 fm ++ nm ++ zb).size = db.size + 1 + ro.size + 1 + 2 + nm.size + 1 := by simp only [ByteArray.size_append]; omega
  have p2 : (db ++ zb).size = db.size + 1 := by simp only [ByteArray.size_append]; omega
  have p3 : (db ++ zb ++ ro ++ zb).size = db.size + 1 + ro.size + 1 := by simp only [ByteArray.size_append]; omega
  have p4 : (db ++ zb ++ ro ++ zb ++ bin2 fm).size = db.size + 1 + ro.size + 1 + 2 := by simp only [ByteArray.size_append]; omega
  rw [z0] at g1
  rw [p2] at g2
  rw [p3, z2] at g3
  rw [p4] at g4
  generalize db ++ zb ++ ro ++ zb ++ bin2 fm ++ nm ++ zb = s at *
  have g3' : g16 s ((db.size + 1 + ro.size + 1 : Nat) : Int) = (fm, ((db.size + 1 + ro.size + 1 : Nat) : Int) + 2, 0) := by
    rw [g16_ok (by omega) g3]
    rcases hfm with rfl | rfl <;> rfl
  have f1 : Ytlilogcojeoelaa.p1 s = (db, ((db.size + 1 : Nat) : Int), 0) := by
    unfold Go.Proofs.Ytlilogcojeoelaa.p1
    have := g1
    rw [Nat.zero_add] at this
    exact this
  have f2 : Ytlilogcojeoelaa.p2 s = (ro, ((db.size + 1 + ro.size + 1 : Nat) : Int), 0) := by
    unfold Go.Proofs.Ytlilogcojeoelaa.p2
    rw [f1]; exact g2
  have f3 : Ytlilogcojeoelaa.p3 s = (fm, ((db.size + 1 + ro.size + 1 + 2 : Nat) : Int), 0) := by
    unfold Go.Proofs.Ytlilogcojeoelaa.p3
    rw [f2]; exact g3'
  have f4 : Ytlilogcojeoelaa.p4 s = (nm, ((db.size + 1 + ro.size + 1 + 2 + nm.size + 1 : Nat) : Int), 0) := by
    unfold Go.Proofs.Ytlilogcojeoelaa.p4
    rw [f3]; exact g4
  unfold keyP
  rw [f1, f2, f3, f4, hs]
  exact ⟨rfl, rfl, rfl, rfl, rfl, rfl⟩

/-- A text is read, by the cache's way, just if it is the text of what can be read of it. -/
theorem isP_eq (s : ByteArray) : isP s = ((p1 s).2.2 == 0 && (p2 s).2.2 == 0 && (p3 s).2.2 == 0 && (p4 s).2.2 == 0 && (p4 s).2.1 == s.size && rightK (keyP s)) := by
  rw [Bool.eq_iff_iff]
  simp only [isP, Bool.and_eq_true, decide_eq_true_eq, beq_iff_eq]
  constructor
  · rintro ⟨hr, ht⟩
    obtain ⟨a, b, c, d, e, _⟩ := parse_fwd hr
    rw [ht] at a b c d e
    exact ⟨⟨⟨⟨⟨a, b⟩, c⟩, d⟩, e⟩, hr⟩
  · rintro ⟨⟨⟨⟨⟨a, b⟩, c⟩, d⟩, e⟩, hr⟩
    exact ⟨hr, parse_back a b c d e hr⟩
theorem isP_text {y : Ky} (hr : rightK y = true) : isP (textK y) = true ∧ keyP (textK y) = y := by
  obtain ⟨_, _, _, _, _, h⟩ := parse_fwd hr
  refine ⟨?_, h⟩
  simp [isP, h, hr]

theorem getT_size (s : ByteArray) (a : Int) : (getT s a).1.size ≤ s.size := by
  unfold getT
  split
  · exact Nat.zero_le _
  · split
    · exact Nat.zero_le _
    · simp; omega
theorem keyP_tiny {s : ByteArray} (h : s.size ≤ 300000) : tiny (keyP s) := by
  have a := getT_size s 0
  have b := getT_size s (p1 s).2.1
  have c := getT_size s (p3 s).2.1
  unfold tiny keyP p1 p2 p4 at *
  simp only
  unfold p1 p3 at *
  omega

end Go.Proofs.Ytlilogcojeoelaa
