/- Package sets: what it computes, in plain Lean. -/
import Derived.Test.YtoeepbjnbgpmpaaSetsK0
namespace Go.Proofs.Ytoeepbjnbgpmpaa
set_option linter.all false
open Go Go.RowKit

/-- A token of a kind, with a text, stands at a place. -/
def isAt (l : List Tok) (i : Int) (k : Int) (s : ByteArray) : Bool :=
  if 0 ≤ i then match l[i.toNat]? with
    | some x => decide (x.k = k) && decide (x.t = s)
    | none => false
  else false
abbrev wdAt (l : List Tok) (i : Int) (s : ByteArray) : Bool := isAt l i 1 s
abbrev sgAt (l : List Tok) (i : Int) (s : ByteArray) : Bool := isAt l i 5 s
theorem isAt_lt (l : List Tok) (i : Nat) (k : Int) (s : ByteArray) (h : i < l.length) : isAt l i k s = (decide (l[i].k = k) && decide (l[i].t = s)) := by
  unfold isAt
  rw [if_pos (by omega), Int.toNat_natCast, List.getElem?_eq_getElem h]
theorem isAt_ge (l : List Tok) (i : Nat) (k : Int) (s : ByteArray) (h : ¬ i < l.length) : isAt l i k s = false := by
  unfold isAt
  rw [if_pos (by omega), Int.toNat_natCast, List.getElem?_eq_none (by omega)]
theorem isAt_neg (l : List Tok) (i : Int) (k : Int) (s : ByteArray) (h : ¬ 0 ≤ i) : isAt l i k s = false := by
  unfold isAt
  rw [if_neg h]
/-- Two texts do not stand at one place. -/
theorem isAt_one {l : List Tok} {i : Int} {k k' : Int} {s t : ByteArray} (h : isAt l i k s = true) (hne : s ≠ t) : isAt l i k' t = false := by
  unfold isAt at h ⊢
  by_cases hi : 0 ≤ i
  · rw [if_pos hi] at h ⊢
    cases hl : l[i.toNat]? with
    | none => rfl
    | some x =>
      rw [hl] at h
      simp only [Bool.and_eq_true, decide_eq_true_eq] at h
      simp only [Bool.and_eq_false_iff, decide_eq_false_iff_not]
      exact .inr (by rw [h.2]; exact hne)
  · rw [if_neg hi]
abbrev cFrom : ByteArray := ⟨#[102, 114, 111, 109]⟩
abbrev cJoin : ByteArray := ⟨#[106, 111, 105, 110]⟩
abbrev cUsing : ByteArray := ⟨#[117, 115, 105, 110, 103]⟩
abbrev cOnly : ByteArray := ⟨#[111, 110, 108, 121]⟩
abbrev cAs : ByteArray := ⟨#[97, 115]⟩
abbrev cDot : ByteArray := ⟨#[46]⟩
abbrev cComma : ByteArray := ⟨#[44]⟩
abbrev keyL : List ByteArray := [⟨#[115, 101, 108, 101, 99, 116]⟩, ⟨#[102, 114, 111, 109]⟩, ⟨#[119, 104, 101, 114, 101]⟩, ⟨#[106, 111, 105, 110]⟩, ⟨#[111, 110]⟩, ⟨#[117, 115, 105, 110, 103]⟩, ⟨#[103, 114, 111, 117, 112]⟩, ⟨#[111, 114, 100, 101, 114]⟩, ⟨#[104, 97, 118, 105, 110, 103]⟩, ⟨#[108, 105, 109, 105, 116]⟩, ⟨#[111, 102, 102, 115, 101, 116]⟩, ⟨#[117, 110, 105, 111, 110]⟩, ⟨#[101, 120, 99, 101, 112, 116]⟩, ⟨#[105, 110, 116, 101, 114, 115, 101, 99, 116]⟩, ⟨#[97, 115]⟩, ⟨#[97, 110, 100]⟩, ⟨#[111, 114]⟩, ⟨#[110, 111, 116]⟩, ⟨#[105, 110]⟩, ⟨#[105, 115]⟩, ⟨#[110, 117, 108, 108]⟩, ⟨#[118, 97, 108, 117, 101, 115]⟩, ⟨#[115, 101, 116]⟩, ⟨#[105, 110, 116, 111]⟩, ⟨#[105, 110, 110, 101, 114]⟩, ⟨#[108, 101, 102, 116]⟩, ⟨#[114, 105, 103, 104, 116]⟩, ⟨#[102, 117, 108, 108]⟩, ⟨#[111, 117, 116, 101, 114]⟩, ⟨#[99, 114, 111, 115, 115]⟩, ⟨#[110, 97, 116, 117, 114, 97, 108]⟩, ⟨#[108, 97, 116, 101, 114, 97, 108]⟩, ⟨#[111, 110, 108, 121]⟩, ⟨#[114, 101, 116, 117, 114, 110, 105, 110, 103]⟩, ⟨#[119, 105, 110, 100, 111, 119]⟩, ⟨#[102, 111, 114]⟩, ⟨#[102, 101, 116, 99, 104]⟩, ⟨#[119, 104, 101, 110]⟩, ⟨#[116, 104, 101, 110]⟩, ⟨#[119, 105, 116, 104]⟩, ⟨#[116, 97, 98, 108, 101]⟩]
def keyB (s : ByteArray) : Bool := memB s keyL
def partB (x : Tok) : Bool := decide (x.k = 2) || (decide (x.k = 1) && !keyB x.t)
def partAt (l : List Tok) (i : Nat) : Bool := match l[i]? with
  | some x => partB x
  | none => false
def txAt (l : List Tok) (i : Nat) : ByteArray := match l[i]? with
  | some x => x.t
  | none => ⟨#[]⟩
theorem partAt_lt (l : List Tok) (i : Nat) (h : i < l.length) : partAt l i = partB l[i] := by unfold partAt; rw [List.getElem?_eq_getElem h]
theorem partAt_ge (l : List Tok) (i : Nat) (h : ¬ i < l.length) : partAt l i = false := by unfold partAt; rw [List.getElem?_eq_none (by omega)]
theorem partAt_len {l : List Tok} {i : Nat} (h : partAt l i = true) : i < l.length := by
  rcases Nat.lt_or_ge i l.length with q | q
  · exact q
  · rw [partAt_ge l i (by omega)] at h; cases h
theorem isAt_len {l : List Tok} {i : Nat} {k : Int} {s : ByteArray} (h : isAt l i k s = true) : i < l.length := by
  rcases Nat.lt_or_ge i l.length with q | q
  · exact q
  · rw [isAt_ge l i k s (by omega)] at h; cases h
theorem txAt_lt (l : List Tok) (i : Nat) (h : i < l.length) : txAt l i = l[i].t := by unfold txAt; rw [List.getElem?_eq_getElem h]
/-- The names from a place on. -/
def nmI (l : List Tok) (i : Nat) : Nat := if (wdAt l i cOnly || wdAt l i cTable) = true then i + 1 else i
def dotAt (l : List Tok) (i : Nat) : Bool := sgAt l (i + 1 : Nat) cDot && partAt l (i + 2)
def nmName (l : List Tok) (i : Nat) : ByteArray := if dotAt l i = true then txAt l i ++ (cDot ++ txAt l (i + 2)) else txAt l i
def nmTo (l : List Tok) (i : Nat) : Nat := if dotAt l i = true then i + 3 else i + 1
def nmAs (l : List Tok) (i : Nat) : Nat := if wdAt l i cAs = true then i + 1 else i
def nmAl (l : List Tok) (i : Nat) : Nat := if partAt l i = true then i + 1 else i
def nmEnd (l : List Tok) (i : Nat) : Nat := nmAl l (nmAs l (nmTo l i))
def namesF : Nat → List Tok → Nat → List ByteArray
  | 0, _, _ => []
  | n + 1, l, i => if partAt l (nmI l i) = true then nmName l (nmI l i) :: (if sgAt l (nmEnd l (nmI l i)) cComma = true then namesF n l (nmEnd l (nmI l i) + 1) else []) else []
def namesAt (l : List Tok) (i : Nat) : List ByteArray := namesF (l.length + 1) l i
theorem nmI_le (l : List Tok) (i : Nat) : i ≤ nmI l i := by unfold nmI; split <;> omega
theorem nmTo_lt (l : List Tok) (i : Nat) : i < nmTo l i := by unfold nmTo; split <;> omega
theorem nmEnd_lt (l : List Tok) (i : Nat) : i < nmEnd l i := by
  have := nmTo_lt l i
  unfold nmEnd nmAl nmAs
  split <;> split <;> omega
/-- The fuel is enough. -/
theorem names_fuel (l : List Tok) : ∀ (n m i : Nat), l.length < i + n → l.length < i + m → namesF n l i = namesF m l i
  | 0, 0, _, _, _ => rfl
  | 0, m + 1, i, h, _ => by
    have hp : partAt l (nmI l i) = false := partAt_ge l _ (by have := nmI_le l i; omega)
    rw [namesF, namesF, hp, if_neg (by decide)]
  | n + 1, 0, i, _, h => by
    have hp : partAt l (nmI l i) = false := partAt_ge l _ (by have := nmI_le l i; omega)
    rw [namesF, namesF, hp, if_neg (by decide)]
  | n + 1, m + 1, i, h1, h2 => by
    rw [namesF, namesF]
    have a := nmI_le l i
    have b := nmEnd_lt l (nmI l i)
    rw [names_fuel l n m (nmEnd l (nmI l i) + 1) (by omega) (by omega)]
theorem namesAt_step (l : List Tok) (i : Nat) : namesAt l i = if partAt l (nmI l i) = true then nmName l (nmI l i) :: (if sgAt l (nmEnd l (nmI l i)) cComma = true then namesAt l (nmEnd l (nmI l i) + 1) else []) else [] := by
  unfold namesAt
  have a := nmI_le l i
  have b := nmEnd_lt l (nmI l i)
  rw [names_fuel l (l.length + 1) (l.length + 2) i (by omega) (by omega)]
  rw [namesF]

def ltB (a b : ByteArray) : Bool := Op.bytesLess a.toList b.toList
theorem bless_irr : ∀ a : List UInt8, Op.bytesLess a a = false
  | [] => rfl
  | a :: x => by
    rw [Op.bytesLess, bless_irr x]
    simp
theorem bless_trans : ∀ a b c : List UInt8, Op.bytesLess a b = true → Op.bytesLess b c = true → Op.bytesLess a c = true
  | a, [], c, h, _ => by simp [Op.bytesLess] at h
  | _, _ :: _, [], _, h => by simp [Op.bytesLess] at h
  | [], _ :: _, _ :: _, _, _ => by simp [Op.bytesLess]
  | a :: x, b :: y, c :: z, h1, h2 => by
    rw [Op.bytesLess, Bool.or_eq_true, Bool.and_eq_true, decide_eq_true_eq, beq_iff_eq] at h1 h2 ⊢
    rcases h1 with h1 | ⟨h1, h1'⟩
    · rcases h2 with h2 | ⟨h2, h2'⟩
      · exact .inl (UInt8.lt_trans h1 h2)
      · exact .inl (h2 ▸ h1)
    · rcases h2 with h2 | ⟨h2, h2'⟩
      · exact .inl (h1 ▸ h2)
      · exact .inr ⟨h1.trans h2, bless_trans x y z h1' h2'⟩
theorem bless_total : ∀ a b : List UInt8, a ≠ b → Op.bytesLess a b = true ∨ Op.bytesLess b a = true
  | [], [], h => absurd rfl h
  | [], _ :: _, _ => .inl (by simp [Op.bytesLess])
  | _ :: _, [], _ => .inr (by simp [Op.bytesLess])
  | a :: x, b :: y, h => by
    rw [Op.bytesLess, Op.bytesLess]
    simp only [Bool.or_eq_true, Bool.and_eq_true, decide_eq_true_eq, beq_iff_eq]
    by_cases hab : a = b
    · subst hab
      rcases bless_total x y (fun q => h (by rw [q])) with q | q
      · exact .inl (.inr ⟨rfl, q⟩)
      · exact .inr (.inr ⟨rfl, q⟩)
    · have : a.toNat ≠ b.toNat := fun q => hab (UInt8.toNat.inj q)
      rcases Nat.lt_or_ge a.toNat b.toNat with q | q
      · exact .inl (.inl (UInt8.lt_iff_toNat_lt.2 q))
      · exact .inr (.inl (UInt8.lt_iff_toNat_lt.2 (by omega)))
theorem lt_irr (a : ByteArray) : ltB a a = false := bless_irr _
theorem lt_trans {a b c : ByteArray} (h1 : ltB a b = true) (h2 : ltB b c = true) : ltB a c = true := bless_trans _ _ _ h1 h2
theorem lt_total {a b : ByteArray} (h : a ≠ b) : ltB a b = true ∨ ltB b a = true :=
  bless_total _ _ (fun q => h (by have := tl_beq a b; rw [q] at this; simpa using this.symm))
theorem lt_asymm {a b : ByteArray} (h : ltB a b = true) : ltB b a = false := by
  cases q : ltB b a with
  | false => rfl
  | true => have := lt_trans h q; rw [lt_irr] at this; cases this
/-- Rising, each once. -/
abbrev Rise (l : List ByteArray) : Prop := l.Pairwise fun a b => ltB a b = true
theorem rise_cons {x : ByteArray} {l : List ByteArray} : Rise (x :: l) ↔ (∀ y ∈ l, ltB x y = true) ∧ Rise l := List.pairwise_cons
theorem rise_ext : ∀ (a b : List ByteArray), Rise a → Rise b → (∀ x, x ∈ a ↔ x ∈ b) → a = b
  | [], [], _, _, _ => rfl
  | [], y :: b, _, _, h => absurd ((h y).2 (by simp)) (by simp)
  | x :: a, [], _, _, h => absurd ((h x).1 (by simp)) (by simp)
  | x :: a, y :: b, h1, h2, h => by
    rw [rise_cons] at h1 h2
    have hxy : x = y := by
      have hx := (h x).1 (by simp)
      have hy := (h y).2 (by simp)
      rw [List.mem_cons] at hx hy
      rcases hx with q | q
      · exact q
      · rcases hy with r | r
        · exact r.symm
        · have := lt_trans (h2.1 x q) (h1.1 y r)
          rw [lt_irr] at this; cases this
    subst hxy
    have : a = b := by
      refine rise_ext a b h1.2 h2.2 fun z => ?_
      have hz := h z
      rw [List.mem_cons, List.mem_cons] at hz
      constructor
      · intro q
        rcases hz.1 (.inr q) with r | r
        · subst r; have := h1.1 z q; rw [lt_irr] at this; cases this
        · exact r
      · intro q
        rcases hz.2 (.inr q) with r | r
        · subst r; have := h2.1 z q; rw [lt_irr] at this; cases this
        · exact r
    rw [this]
def insB (l : List ByteArray) (s : ByteArray) : List ByteArray := if memB s l = true then l else l.takeWhile (fun x => ltB x s) ++ s :: l.dropWhile (fun x => ltB x s)
def putL (l more : List ByteArray) : List ByteArray := more.foldl insB l
def sortL (S : List ByteArray) : List ByteArray := putL [] S
theorem putL_cons (l : List ByteArray) (x : ByteArray) (r : List ByteArray) : putL l (x :: r) = putL (insB l x) r := rfl
theorem putL_app (l a b : List ByteArray) : putL l (a ++ b) = putL (putL l a) b := List.foldl_append ..
theorem ins_mem (l : List ByteArray) (s x : ByteArray) : x ∈ insB l s ↔ x ∈ l ∨ x = s := by
  unfold insB
  by_cases hm : memB s l = true
  · rw [if_pos hm]
    constructor
    · exact .inl
    · rintro (q | rfl)
      · exact q
      · exact memB_iff.1 hm
  · rw [if_neg hm]
    have e : l.takeWhile (fun x => ltB x s) ++ l.dropWhile (fun x => ltB x s) = l := List.takeWhile_append_dropWhile
    conv => rhs; rw [← e]
    simp only [List.mem_append, List.mem_cons]
    constructor
    · rintro (q | q | q)
      · exact .inl (.inl q)
      · exact .inr q
      · exact .inl (.inr q)
    · rintro ((q | q) | q)
      · exact .inl q
      · exact .inr (.inr q)
      · exact .inr (.inl q)
theorem drop_ge : ∀ (l : List ByteArray) (s : ByteArray), Rise l → s ∉ l → ∀ x ∈ l.dropWhile (fun x => ltB x s), ltB s x = true
  | [], _, _, _, x, hx => by cases hx
  | y :: r, s, h, hs, x, hx => by
    rw [rise_cons] at h
    rw [List.dropWhile_cons] at hx
    by_cases hy : ltB y s = true
    · rw [if_pos hy] at hx
      exact drop_ge r s h.2 (fun q => hs (List.mem_cons_of_mem _ q)) x hx
    · rw [if_neg hy] at hx
      have hsy : ltB s y = true := by
        rcases lt_total (a := s) (b := y) (fun q => hs (by rw [q]; simp)) with q | q
        · exact q
        · exact absurd q hy
      rw [List.mem_cons] at hx
      rcases hx with rfl | hx
      · exact hsy
      · exact lt_trans hsy (h.1 x hx)
theorem take_lt : ∀ (l : List ByteArray) (s : ByteArray), ∀ x ∈ l.takeWhile (fun x => ltB x s), ltB x s = true
  | [], _, x, hx => by cases hx
  | y :: r, s, x, hx => by
    rw [List.takeWhile_cons] at hx
    by_cases hy : ltB y s = true
    · rw [if_pos hy, List.mem_cons] at hx
      rcases hx with rfl | hx
      · exact hy
      · exact take_lt r s x hx
    · rw [if_neg hy] at hx; cases hx
theorem ins_rise (l : List ByteArray) (s : ByteArray) (h : Rise l) : Rise (insB l s) := by
  unfold insB
  by_cases hm : memB s l = true
  · rw [if_pos hm]; exact h
  · rw [if_neg hm]
    have hs : s ∉ l := fun q => hm (memB_iff.2 q)
    have hd := drop_ge l s h hs
    have ht := take_lt l s
    unfold Rise
    rw [List.pairwise_append]
    refine ⟨h.sublist (List.takeWhile_sublist _), ?_, ?_⟩
    · rw [List.pairwise_cons]
      exact ⟨hd, h.sublist (List.dropWhile_sublist _)⟩
    · intro a ha b hb
      rw [List.mem_cons] at hb
      rcases hb with rfl | hb
      · exact ht a ha
      · exact lt_trans (ht a ha) (hd b hb)
theorem put_rise : ∀ (more l : List ByteArray), Rise l → Rise (putL l more)
  | [], _, h => h
  | x :: r, l, h => put_rise r (insB l x) (ins_rise l x h)
theorem put_mem : ∀ (more l : List ByteArray) (x : ByteArray), x ∈ putL l more ↔ x ∈ l ∨ x ∈ more
  | [], l, x => by simp [putL]
  | y :: r, l, x => by
    rw [putL_cons, put_mem r (insB l y) x, ins_mem, List.mem_cons]
    constructor
    · rintro ((q | q) | q)
      · exact .inl q
      · exact .inr (.inl q)
      · exact .inr (.inr q)
    · rintro (q | q | q)
      · exact .inl (.inl q)
      · exact .inl (.inr q)
      · exact .inr q
theorem sort_rise (S : List ByteArray) : Rise (sortL S) := put_rise S [] List.Pairwise.nil
theorem sort_mem (S : List ByteArray) (x : ByteArray) : x ∈ sortL S ↔ x ∈ S := by
  unfold sortL; rw [put_mem]; simp
/-- The least is the first. -/
theorem sort_least (S S' : List ByteArray) (b : ByteArray) (hb : b ∈ S) (hmin : ∀ x ∈ S, x ≠ b → ltB b x = true) (hS : ∀ x, x ∈ S' ↔ x ∈ S ∧ x ≠ b) : sortL S = b :: sortL S' := by
  refine rise_ext _ _ (sort_rise S) ?_ fun x => ?_
  · unfold Rise
    rw [List.pairwise_cons]
    refine ⟨fun x hx => ?_, sort_rise S'⟩
    rw [sort_mem, hS] at hx
    exact hmin x hx.1 hx.2
  · rw [sort_mem, List.mem_cons, sort_mem, hS]
    constructor
    · intro q
      by_cases h : x = b
      · exact .inl h
      · exact .inr ⟨q, h⟩
    · rintro (rfl | q)
      · exact hb
      · exact q.1
theorem sort_same (S T : List ByteArray) (h : ∀ x, x ∈ S ↔ x ∈ T) : sortL S = sortL T :=
  rise_ext _ _ (sort_rise S) (sort_rise T) fun x => by rw [sort_mem, sort_mem, h]
/-- Which tables are read. -/
def readC (l : List Tok) (i : Nat) : Bool :=
  ((wdAt l i cFrom || wdAt l i cJoin || wdAt l i cUsing) && !(wdAt l i cFrom && wdAt l ((i : Int) - 1) cDelete)) || (decide (i = 0) && wdAt l i cTable)
def rAll (l : List Tok) : Nat → List ByteArray
  | 0 => []
  | j + 1 => rAll l j ++ (if readC l j = true then namesAt l (j + 1) else [])
def readsL (l : List Tok) : List ByteArray := sortL (rAll l l.length)
/-- Which tables are written. -/
def oneC (l : List Tok) (i : Nat) : Bool := (wdAt l i cInto || (wdAt l i cUpdate && !wdAt l ((i : Int) - 1) cFor)) || (wdAt l i cFrom && wdAt l ((i : Int) - 1) cDelete)
def wAll (l : List Tok) : Nat → List ByteArray
  | 0 => []
  | j + 1 => wAll l j ++ (if wdAt l j cTrunc = true then namesAt l (j + 1) else if oneC l j = true then (namesAt l (j + 1)).take 1 else [])
def writesS (l : List Tok) : List ByteArray := sortL (wAll l l.length)

end Go.Proofs.Ytoeepbjnbgpmpaa
