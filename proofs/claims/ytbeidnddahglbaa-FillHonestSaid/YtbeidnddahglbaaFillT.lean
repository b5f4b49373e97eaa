/- The law FillHonest: what holds of the answer, of what changed, and of who is changing. -/
import Derived.Test.YtbeidnddahglbaaFillP
namespace Go.Proofs.Ytbeidnddahglbaa
set_option linter.all false
open Go Go.RowKit

theorem sizeK_leq {y : Ky} {v : ByteArray} (h : rightK y = true) : sizeK y v = 16 + (y.db.size + y.ro.size + y.nm.size + 5) + v.size := by
  unfold sizeK
  rw [if_pos h]
  have : (textK y).size = y.db.size + y.ro.size + y.nm.size + 5 := by
    unfold textK
    rw [if_pos h]
    simp only [ByteArray.size_append]
    have h1 : zb.size = 1 := rfl
    have h2 : (bin2 y.fm).size = 2 := rfl
    omega
  omega

abbrev uu : ByteArray := ⟨#[117]⟩
abbrev rds : List ByteArray := [tt, uu]

structure HI (V : VS) (o : Option Kept) (value : ByteArray) (filled changed : Bool) (dl : List Int) : Prop where
  f : filled = o.isSome
  q : ∀ q, o = some q → q.v = value ∧ q.till = 1001 ∧ q.names = rds ∧ sizeK kq q.v ≤ 100 ∧ ∃ a b, q.nums = [a, b] ∧ q.ep ≤ V.ep ∧ a ≤ V.N tt ∧ b ≤ V.N uu ∧ (changed = false ↔ (q.ep = V.ep ∧ a = V.N tt ∧ b = V.N uu))
  d : ∀ c, c ∈ dl ↔ (V.D tt c = true ∨ V.D uu c = true)

theorem HI.new : HI VS.new none ⟨#[]⟩ false false [] := ⟨rfl, fun q h => (by cases h), fun c => (by simp [VS.new])⟩
theorem meet_rds (l : List ByteArray) : meetB l rds = (memB tt l || memB uu l) := by
  have h : ∀ b : Bool, meetB l rds = b ↔ (memB tt l || memB uu l) = b := by
    intro b
    cases b with
    | true =>
      rw [meetB_iff, Bool.or_eq_true, memB_iff, memB_iff]
      constructor
      · rintro ⟨x, hx, hm⟩
        simp only [rds, List.mem_cons, List.not_mem_nil, or_false] at hm
        rcases hm with rfl | rfl
        · exact .inl hx
        · exact .inr hx
      · rintro (h | h)
        · exact ⟨tt, h, by simp⟩
        · exact ⟨uu, h, by simp⟩
    | false =>
      constructor
      · intro h
        cases hq : (memB tt l || memB uu l) with
        | false => rfl
        | true =>
          rw [Bool.or_eq_true, memB_iff, memB_iff] at hq
          have : meetB l rds = true := meetB_iff.2 (by
            rcases hq with q | q
            · exact ⟨tt, q, by simp⟩
            · exact ⟨uu, q, by simp⟩)
          rw [h] at this; cases this
      · intro h
        cases hq : meetB l rds with
        | false => rfl
        | true =>
          obtain ⟨x, hx, hm⟩ := meetB_iff.1 hq
          simp only [rds, List.mem_cons, List.not_mem_nil, or_false] at hm
          rw [Bool.or_eq_false_iff, memB_not, memB_not] at h
          rcases hm with rfl | rfl
          · exact absurd hx h.1
          · exact absurd hx h.2
  exact (h _).2 rfl

/-- What changing some numbers does to whether the stamp is fresh. -/
theorem bump_fresh {V : VS} {ep a b : Int} {changed : Bool} (l : List ByteArray) (h1 : ep ≤ V.ep) (h2 : a ≤ V.N tt) (h3 : b ≤ V.N uu) (h4 : changed = false ↔ (ep = V.ep ∧ a = V.N tt ∧ b = V.N uu)) :
    a ≤ (V.bump l).N tt ∧ b ≤ (V.bump l).N uu ∧ ((changed || meetB l rds) = false ↔ (ep = V.ep ∧ a = (V.bump l).N tt ∧ b = (V.bump l).N uu)) := by
  have e1 : (V.bump l).N tt = V.N tt + (if memB tt l then 1 else 0) := rfl
  have e2 : (V.bump l).N uu = V.N uu + (if memB uu l then 1 else 0) := rfl
  rw [e1, e2, meet_rds]
  refine ⟨by split <;> omega, by split <;> omega, ?_⟩
  cases m1 : memB tt l <;> cases m2 : memB uu l <;> cases changed <;> simp at h4 ⊢ <;> omega
theorem HI.write {V : VS} {o : Option Kept} {value : ByteArray} {filled changed : Bool} {dl : List Int} (h : HI V o value filled changed dl) (cl : Int) (l : List ByteArray) :
    HI ((V.dirty cl l).bump l) o value filled (changed || meetB l rds) (if meetB l rds = true then dl ++ [cl] else dl) := by
  refine ⟨h.f, fun q hq => ?_, fun c => ?_⟩
  · obtain ⟨q1, q2, q3, q4, a, b, q5, q6, q7, q8, q9⟩ := h.q q hq
    obtain ⟨r1, r2, r3⟩ := bump_fresh (V := V.dirty cl l) l q6 q7 q8 q9
    exact ⟨q1, q2, q3, q4, a, b, q5, q6, r1, r2, r3⟩
  · have e1 : ∀ s, ((V.dirty cl l).bump l).D s c = (V.D s c || (decide (c = cl) && memB s l)) := fun s => rfl
    rw [e1, e1, meet_rds]
    have hd := h.d c
    by_cases ec : c = cl
    · subst ec
      cases m1 : memB tt l <;> cases m2 : memB uu l <;> simp [hd]
    · have ec' : decide (c = cl) = false := decide_eq_false ec
      rw [ec']
      simp only [Bool.false_and, Bool.or_false]
      rw [← hd]
      split
      · rw [List.mem_append, List.mem_singleton]
        exact ⟨fun q => q.resolve_right ec, .inl⟩
      · exact Iff.rfl
theorem HI.commit {V : VS} {o : Option Kept} {value : ByteArray} {filled changed : Bool} {dl : List Int} (h : HI V o value filled changed dl) (cl : Int) (l : List ByteArray) :
    HI ((V.bump l).clean cl) o value filled (changed || meetB l rds) (dl.filter fun c => decide (c ≠ cl)) := by
  refine ⟨h.f, fun q hq => ?_, fun c => ?_⟩
  · obtain ⟨q1, q2, q3, q4, a, b, q5, q6, q7, q8, q9⟩ := h.q q hq
    obtain ⟨r1, r2, r3⟩ := bump_fresh (V := V) l q6 q7 q8 q9
    exact ⟨q1, q2, q3, q4, a, b, q5, q6, r1, r2, r3⟩
  · have e1 : ∀ s, ((V.bump l).clean cl).D s c = (V.D s c && decide (c ≠ cl)) := fun s => rfl
    rw [e1, e1, List.mem_filter, h.d c]
    by_cases ec : c = cl <;> simp [ec]
theorem HI.all {V : VS} {o : Option Kept} {value : ByteArray} {filled changed : Bool} {dl : List Int} (h : HI V o value filled changed dl) : HI V.all o value filled true dl := by
  refine ⟨h.f, fun q hq => ?_, h.d⟩
  obtain ⟨q1, q2, q3, q4, a, b, q5, q6, q7, q8, q9⟩ := h.q q hq
  have e : V.all.ep = V.ep + 1 := rfl
  exact ⟨q1, q2, q3, q4, a, b, q5, by rw [e]; omega, q7, q8, ⟨fun q => (by cases q), fun q => (by rw [e] at q; omega)⟩⟩
theorem HI.busy {V : VS} {o : Option Kept} {value : ByteArray} {filled changed : Bool} {dl : List Int} (h : HI V o value filled changed dl) : busyV V rds ↔ dl ≠ [] := by
  constructor
  · rintro ⟨s, hs, c, hc⟩ e
    have : c ∈ dl := (h.d c).2 (by
      simp only [rds, List.mem_cons, List.not_mem_nil, or_false] at hs
      rcases hs with rfl | rfl
      · exact .inl hc
      · exact .inr hc)
    rw [e] at this; cases this
  · intro hne
    cases dl with
    | nil => exact absurd rfl hne
    | cons c r =>
      rcases (h.d c).1 (by simp) with q | q
      · exact ⟨tt, by simp, c, q⟩
      · exact ⟨uu, by simp, c, q⟩
theorem HI.fresh {V : VS} {value : ByteArray} {filled changed : Bool} {dl : List Int} {q : Kept} (h : HI V (some q) value filled changed dl) : freshV V q.ep q.names q.nums ↔ changed = false := by
  obtain ⟨q1, q2, q3, q4, a, b, q5, q6, q7, q8, q9⟩ := h.q q rfl
  rw [q9]
  unfold freshV
  rw [q3, q5]
  constructor
  · rintro ⟨h1, h2⟩
    simp only [rds, List.map_cons, List.map_nil, List.cons.injEq, and_true] at h2
    exact ⟨h1, h2.1, h2.2⟩
  · rintro ⟨h1, h2, h3⟩
    exact ⟨h1, by rw [h2, h3]; rfl⟩

def FH (b n nv : Nat) (value : ByteArray) (filled changed : Bool) (dl : List Int) : Assn := ex fun p : VS × Option Kept => pur (HI p.1 p.2 value filled changed dl) * FO b n nv 400 100 100 1000 kq p.1 p.2
section
variable {k : Env} {w : World} {R : Assn} {b n nv : Nat} {value : ByteArray} {filled changed : Bool} {dl : List Int}
theorem fh_open (h : Sat k w (FH b n nv value filled changed dl * R)) : ∃ V o, HI V o value filled changed dl ∧ Sat k w (FO b n nv 400 100 100 1000 kq V o * R) := by
  obtain ⟨⟨V, o⟩, h⟩ := Sat.ex.1 h
  rw [star_assoc] at h
  obtain ⟨h1, h⟩ := Sat.pure.1 h
  exact ⟨V, o, h1, h⟩
theorem fh_close {V : VS} {o : Option Kept} (h : Sat k w (FO b n nv 400 100 100 1000 kq V o * R)) (h1 : HI V o value filled changed dl) : Sat k w (FH b n nv value filled changed dl * R) :=
  Sat.ex.2 ⟨(V, o), by rw [star_assoc]; exact Sat.pure.2 ⟨h1, h⟩⟩
theorem fh_more {n' nv' : Nat} (h : Sat k w (FH b n nv value filled changed dl * R)) (h1 : n ≤ n') (h2 : nv ≤ nv') : Sat k w (FH b n' nv' value filled changed dl * R) := by
  obtain ⟨V, o, h3, h4⟩ := fh_open h
  exact fh_close (fo_more h4 h1 h2) h3
end

section
variable (k : Env) (w : World) (R : Assn) (b n nv : Nat) (value : ByteArray) (filled changed : Bool) (dl : List Int)
theorem fh_new (h : Sat k w R) :
    Calls Try.prog 7 #[.int .i64 400, .int .i64 100, .int .i64 100, .int .i64 1000] w fun e w' => ∃ b, e = .returned (.tuple #[pq b, .int .i64 0]) ∧ Sat k w' (FH b 0 0 ⟨#[]⟩ false false [] * R) :=
  (fo_new k w R 400 100 100 1000 kq (by omega) (by omega) (by omega) (by omega) (by omega) (by omega) (by omega) (by omega) h).mono fun e w' ⟨b, p, q⟩ => ⟨b, p, fh_close q HI.new⟩
theorem kq_size (v : ByteArray) : sizeK kq v = 22 + v.size := by
  rw [sizeK_leq kq_right]
  have e : (kq.db.size : Int) + kq.ro.size + kq.nm.size = 1 := by decide
  omega
theorem fh_fill (V : VS) (o : Option Kept) (hi : HI V o value filled changed dl) (v : ByteArray) (ep : Int) (a i : Option Addr) (ac ic : Nat) (names : List ByteArray) (nums : List Int) (p1 : ep = V.ep) (p2 : names = rds) (p3 : nums = rds.map V.N) (hv : v.size ≤ 500) (hn : n + 1 ≤ 1000)
    (h : Sat k w (stampS ⟨ep, a, ac, names, i, ic, nums⟩ * (FO b n nv 400 100 100 1000 kq V o * R))) :
    Calls Try.prog 9 #[pq b, .agg #[.string ⟨#[]⟩, .string ⟨#[]⟩, .int .i64 0, .string ⟨#[113]⟩], .string v, .agg #[.int .i64 ep, .slice a names.length ac, .slice i nums.length ic], .int .i64 1] w fun e w' => ∃ t er, e = .returned (.tuple #[.bool t, .int .i64 er]) ∧
      ((dl ≠ [] ∧ t = false ∧ er = 0 ∧ Sat k w' (FH b (n + 1) nv value filled changed dl * R)) ∨ (dl = [] ∧ t = true ∧ er = 0 ∧ Sat k w' (FH b (n + 1) nv v true false dl * R)) ∨ (dl = [] ∧ t = false ∧ er ≠ 0 ∧ 78 < v.size ∧ Sat k w' (FH b (n + 1) nv value filled changed dl * R))) := by
  have hrd := fun Y => stampS_rd h Y
  have hs := kq_size v
  have hnl : names.length ≤ 1000000000 := by rw [p2]; decide
  have hml : nums.length ≤ 1000000000 := by rw [p3]; simp
  have hf : freshV V ep names nums := ⟨p1, by rw [p3, p2]⟩
  by_cases hd : dl = []
  · have hb : ¬ busyV V names := by rw [p2]; exact fun q => (hi.busy.1 q) hd
    by_cases h78 : v.size ≤ 78
    · refine (fo_fill_ok k w _ b n nv 400 100 100 1000 kq V o v 1 ep a i ac ic names nums (hrd _).1 (hrd _).2 hnl hml hf hb kq_right kq_tiny (by omega) (by omega) (by omega) (by omega) (by omega) (by omega) (by omega) (by omega) h.swap).mono fun e w' ⟨p, q⟩ => ⟨_, _, p, .inr (.inl ⟨hd, rfl, rfl, fh_close q.swap.drop ⟨rfl, fun q hq => ?_, hi.d⟩⟩)⟩
      cases hq
      exact ⟨rfl, rfl, p2, (show sizeK kq v ≤ 100 by omega), V.N tt, V.N uu, p3, by rw [p1]; exact Int.le_refl _, Int.le_refl _, Int.le_refl _, ⟨fun _ => ⟨p1, rfl, rfl⟩, fun _ => rfl⟩⟩
    · exact (fo_fill_big k w _ b n nv 400 100 100 1000 kq V o v 1 ep a i ac ic names nums (hrd _).1 (hrd _).2 hnl hml hf hb kq_right kq_tiny (by omega) (by omega) (by omega) (by omega) h.swap).mono fun e w' ⟨er, her, p, q⟩ => ⟨_, _, p, .inr (.inr ⟨hd, rfl, her, by omega, fh_close (fo_more q.swap.drop (Nat.le_succ n) (Nat.le_refl _)) hi⟩)⟩
  · exact (fo_fill_no k w _ b n nv 400 100 100 1000 kq V o v 1 ep a i ac ic names nums (hrd _).1 (hrd _).2 hnl hml (.inr (by rw [p2]; exact hi.busy.2 hd)) h.swap).mono fun e w' ⟨p, q⟩ => ⟨_, _, p, .inl ⟨hd, rfl, rfl, fh_close (fo_more q.swap.drop (Nat.le_succ n) (Nat.le_refl _)) hi⟩⟩
theorem fh_look (hn : n ≤ 1000) (h : Sat k w (FH b n nv value filled changed dl * R)) :
    Calls Try.prog 11 #[pq b, .agg #[.string ⟨#[]⟩, .string ⟨#[]⟩, .int .i64 0, .string ⟨#[113]⟩], .int .i64 1] w fun e w' => ∃ v t, e = .returned (.tuple #[.string v, .bool t]) ∧ t = (filled && !changed && decide (dl = [])) ∧ (t = true → v = value) ∧ Sat k w' (FH b n nv value (filled && !changed) changed dl * R) := by
  obtain ⟨V, o, hi, hs⟩ := fh_open h
  cases o with
  | none =>
    have hf : filled = false := hi.f
    subst hf
    exact (fo_look_none k w R b n nv 400 100 100 1000 kq V 1 hs).mono fun e w' ⟨p, q⟩ => ⟨_, _, p, rfl, fun q => (by cases q), fh_close q hi⟩
  | some q =>
    have hf : filled = true := hi.f
    subst hf
    cases changed with
    | true =>
      exact (fo_look_stale k w R b n nv 400 100 100 1000 kq V 1 q (fun x => by have := hi.fresh.1 x; cases this) kq_right kq_tiny (by omega) hs).mono fun e w' ⟨p, q⟩ => ⟨_, _, p, rfl, fun q => (by cases q), fh_close q ⟨rfl, fun q hq => (by cases hq), hi.d⟩⟩
    | false =>
      obtain ⟨q1, q2, q3, q4, _⟩ := hi.q q rfl
      by_cases hd : dl = []
      · refine (fo_look_got k w R b n nv 400 100 100 1000 kq V 1 q (hi.fresh.2 rfl) (by rw [q3]; exact fun x => hi.busy.1 x hd) kq_right kq_tiny q4 (by rw [q2]; decide) hs).mono fun e w' ⟨p, x⟩ => ⟨_, _, p, by rw [decide_eq_true hd]; rfl, fun _ => q1, fh_close x hi⟩
      · refine (fo_look_busy k w R b n nv 400 100 100 1000 kq V 1 q (hi.fresh.2 rfl) (by rw [q3]; exact hi.busy.2 hd) hs).mono fun e w' ⟨p, x⟩ => ⟨_, _, p, by rw [decide_eq_false hd]; rfl, fun q => (by cases q), fh_close x hi⟩
theorem fh_write (cl : Int) (a : Option Addr) (cap : Nat) (l : List ByteArray) (hr : Rd k R a l) (hn : nv + l.length + l.length < 1000000000) (h : Sat k w (FH b n nv value filled changed dl * R)) :
    Calls Try.prog 12 #[pq b, .int .i64 cl, .slice a l.length cap] w fun e w' => e = .returned (.tuple #[]) ∧ Sat k w' (FH b n (nv + l.length + 1) value filled (changed || meetB l rds) (if meetB l rds = true then dl ++ [cl] else dl) * R) := by
  obtain ⟨V, o, hi, hs⟩ := fh_open h
  exact (fo_write k w R b n nv 400 100 100 1000 kq V o cl a cap l hr hn hs).mono fun e w' ⟨p, q⟩ => ⟨p, fh_close q (hi.write cl l)⟩
theorem fh_commit (cl : Int) (a : Option Addr) (cap : Nat) (l : List ByteArray) (hr : Rd k R a l) (hn : nv + l.length < 1000000000) (h : Sat k w (FH b n nv value filled changed dl * R)) :
    Calls Try.prog 14 #[pq b, .int .i64 cl, .slice a l.length cap] w fun e w' => e = .returned (.tuple #[]) ∧ Sat k w' (FH b n (nv + 1) value filled (changed || meetB l rds) (dl.filter fun c => decide (c ≠ cl)) * R) := by
  obtain ⟨V, o, hi, hs⟩ := fh_open h
  exact (fo_commit k w R b n nv 400 100 100 1000 kq V o cl a cap l hr hn hs).mono fun e w' ⟨p, q⟩ => ⟨p, fh_close q (hi.commit cl l)⟩
theorem fh_all (hn : nv < 1000000000) (h : Sat k w (FH b n nv value filled changed dl * R)) :
    Calls Try.prog 15 #[pq b] w fun e w' => e = .returned (.tuple #[]) ∧ Sat k w' (FH b n (nv + 1) value filled true dl * R) := by
  obtain ⟨V, o, hi, hs⟩ := fh_open h
  exact (fo_all k w R b n nv 400 100 100 1000 kq V o hn hs).mono fun e w' ⟨p, q⟩ => ⟨p, fh_close q hi.all⟩
/-- Start, of what is read. -/
theorem fo_start2 (X : Assn) (g : Nat) (V : VS) (o : Option Kept) (h : Sat k w (FO b n nv 400 100 100 1000 kq V o * (Strs (.slice (some ⟨g, 0, none⟩) 2 2) rds * X))) :
    Calls Try.prog 10 #[pq b, .slice (some ⟨g, 0, none⟩) 2 2] w fun e w' => ∃ s : StM, e = .returned s.v ∧ s.ep = V.ep ∧ s.names = rds ∧ s.nums = rds.map V.N ∧ Sat k w' (stampS s * (FO b n nv 400 100 100 1000 kq V o * (Strs (.slice (some ⟨g, 0, none⟩) 2 2) rds * X))) :=
  fo_start k w _ b n nv 400 100 100 1000 kq V o (some ⟨g, 0, none⟩) 2 rds (rd_own_any (l := rds) h.swap X) (by decide) h
end

end Go.Proofs.Ytbeidnddahglbaa
