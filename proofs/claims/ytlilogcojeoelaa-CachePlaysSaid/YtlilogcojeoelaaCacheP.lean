/- What holds of a cache, whatever was put, got, dropped: plain data, no program. -/
import Derived.Test.YtlilogcojeoelaaCacheO
import Derived.Test.YtlilogcojeoelaaSlruL0
namespace Go.Proofs.Ytlilogcojeoelaa
set_option linter.all false
open Go Go.RowKit

theorem bin2_inj {a b : Int} (ha : a = 0 ∨ a = 1) (hb : b = 0 ∨ b = 1) (h : bin2 a = bin2 b) : a = b := by
  rcases ha with rfl | rfl <;> rcases hb with rfl | rfl
  · rfl
  · exact absurd h (by decide +kernel)
  · exact absurd h (by decide +kernel)
  · rfl
theorem app_inj {a b c d : ByteArray} (h : a ++ b = c ++ d) (hl : a.size = c.size) : a = c ∧ b = d := by
  have h1 : (a ++ b).data.toList = (c ++ d).data.toList := by rw [h]
  simp only [ByteArray.data_append, Array.toList_append] at h1
  have h2 := List.append_inj h1 (by rw [← size_list, ← size_list]; exact hl)
  exact ⟨ByteArray.ext (Array.ext' h2.1), ByteArray.ext (Array.ext' h2.2)⟩
/-- Two right keys have one text just if they are the same. -/
theorem textK_inj {y z : Ky} (hy : rightK y = true) (hz : rightK z = true) (h : textK y = textK z) : y = z := by
  obtain ⟨db, ro, fm, nm⟩ := y
  obtain ⟨db', ro', fm', nm'⟩ := z
  obtain ⟨e0, e1, e3, hf⟩ := rightK_parts hy
  obtain ⟨e0', e1', e3', hf'⟩ := rightK_parts hz
  have t1 : textK ⟨db, ro, fm, nm⟩ = db ++ zb ++ ro ++ zb ++ bin2 fm ++ nm ++ zb := by unfold textK; rw [if_pos hy]
  have t2 : textK ⟨db', ro', fm', nm'⟩ = db' ++ zb ++ ro' ++ zb ++ bin2 fm' ++ nm' ++ zb := by unfold textK; rw [if_pos hz]
  rw [t1, t2] at h
  have z0 : (⟨#[]⟩ : ByteArray).size = 0 := rfl
  have g1 := getT_at ⟨#[]⟩ db (ro ++ zb ++ bin2 fm ++ nm ++ zb) e0
  have g1' := getT_at ⟨#[]⟩ db' (ro' ++ zb ++ bin2 fm' ++ nm' ++ zb) e0'
  have q1 : (⟨#[]⟩ : ByteArray) ++ db ++ zb ++ (ro ++ zb ++ bin2 fm ++ nm ++ zb) = db ++ zb ++ ro ++ zb ++ bin2 fm ++ nm ++ zb := by apply ByteArray.ext; simp
  have q1' : (⟨#[]⟩ : ByteArray) ++ db' ++ zb ++ (ro' ++ zb ++ bin2 fm' ++ nm' ++ zb) = db' ++ zb ++ ro' ++ zb ++ bin2 fm' ++ nm' ++ zb := by apply ByteArray.ext; simp
  rw [q1, h] at g1
  rw [q1', g1] at g1'
  have d1 : db = db' := (Prod.mk.inj g1').1
  subst d1
  have g2 := getT_at (db ++ zb) ro (bin2 fm ++ nm ++ zb) e1
  have g2' := getT_at (db ++ zb) ro' (bin2 fm' ++ nm' ++ zb) e1'
  have q2 : db ++ zb ++ ro ++ zb ++ (bin2 fm ++ nm ++ zb) = db ++ zb ++ ro ++ zb ++ bin2 fm ++ nm ++ zb := by simp [ByteArray.append_assoc]
  have q2' : db ++ zb ++ ro' ++ zb ++ (bin2 fm' ++ nm' ++ zb) = db ++ zb ++ ro' ++ zb ++ bin2 fm' ++ nm' ++ zb := by simp [ByteArray.append_assoc]
  rw [q2, h] at g2
  rw [q2', g2] at g2'
  have d2 : ro = ro' := (Prod.mk.inj g2').1
  subst d2
  have h3 : db ++ zb ++ ro ++ zb ++ (bin2 fm ++ (nm ++ zb)) = db ++ zb ++ ro ++ zb ++ (bin2 fm' ++ (nm' ++ zb)) := by simpa [ByteArray.append_assoc] using h
  have h4 := (app_inj h3 rfl).2
  obtain ⟨h5, h6⟩ := app_inj h4 rfl
  have d3 := bin2_inj hf hf' h5
  subst d3
  have hs : nm.size = nm'.size := by
    have := congrArg ByteArray.size h6
    simp only [ByteArray.size_append] at this
    omega
  have d4 := (app_inj h6 hs).1
  subst d4
  rfl

theorem mget_filter {V : Type} (a b : ByteArray) (L : List (ByteArray × V)) : mget b (L.filter fun x => decide (x.1 ≠ a)) = if a = b then none else mget b L := by
  induction L with
  | nil => simp [mget]
  | cons x r ih =>
    rw [List.filter_cons]
    by_cases hx : x.1 = a
    · rw [if_neg (by simp [hx]), ih]
      by_cases hab : a = b
      · simp [hab]
      · rw [if_neg hab, if_neg hab, mget, if_neg (by rw [hx]; exact hab)]
    · rw [if_pos (by simp [hx]), mget, mget, ih]
      by_cases hxb : x.1 = b
      · rw [if_pos hxb, if_pos hxb]
        rw [if_neg (by rintro rfl; exact hx hxb)]
      · rw [if_neg hxb, if_neg hxb]
theorem mget_app {V : Type} (b : ByteArray) (L M : List (ByteArray × V)) : mget b (L ++ M) = (mget b L).or (mget b M) := by
  induction L with
  | nil => simp [mget]
  | cons x r ih =>
    rw [List.cons_append, mget, mget, ih]
    split <;> rfl
theorem mget_qset (a b : ByteArray) (t : Int) (L : List KA) : mget b (qset a t L) = if a = b then some t else mget b L := by
  unfold qset qins
  rw [mget_app]
  have hq := mget_filter a b L
  have hsp : mget b (qdrop a L) = (mget b ((qdrop a L).takeWhile fun x => decide (x.2 ≤ t))).or (mget b ((qdrop a L).dropWhile fun x => decide (x.2 ≤ t))) := by
    rw [← mget_app, List.takeWhile_append_dropWhile]
  have hq2 : mget b (qdrop a L) = if a = b then none else mget b L := hq
  by_cases hab : a = b
  · subst hab
    rw [if_pos rfl] at hq2 ⊢
    rw [hq2] at hsp
    rw [mget, if_pos rfl]
    cases hm : mget a ((qdrop a L).takeWhile fun x => decide (x.2 ≤ t)) with
    | none => rfl
    | some v => rw [hm] at hsp; cases hsp
  · rw [if_neg hab] at hq2 ⊢
    rw [mget, if_neg hab, ← hq2, hsp]

theorem roomV_perm (al size : Int) (n : Nat) (t k : List KV) : (((roomV al size n t k).1 ++ (roomV al size n t k).2.1).map (·.1) ++ (roomV al size n t k).2.2).Perm ((t ++ k).map (·.1)) := by
  induction n generalizing t k with
  | zero => simp [roomV]
  | succ n ih =>
    rw [roomV]
    split
    · rcases List.eq_nil_or_concat t with rfl | ⟨t', x, rfl⟩
      · simp only [List.getLast?_nil]
        rcases List.eq_nil_or_concat k with rfl | ⟨k', x, rfl⟩
        · simp
        · rw [List.concat_eq_append]
          simp only [List.getLast?_append, List.getLast?_singleton, Option.some_or, List.dropLast_concat]
          have := ih [] k'
          refine (List.perm_middle).trans ?_
          refine (this.cons _).trans ?_
          simp only [List.nil_append, List.map_append, List.map_cons, List.map_nil]
          exact (List.perm_append_comm (l₁ := [x.1]))
      · rw [List.concat_eq_append]
        simp only [List.getLast?_append, List.getLast?_singleton, Option.some_or, List.dropLast_concat]
        have := ih t' k
        refine (List.perm_middle).trans ?_
        refine (this.cons _).trans ?_
        simp only [List.map_append, List.map_cons, List.map_nil, List.append_assoc, List.singleton_append]
        exact List.perm_middle.symm
    · simp

def keysS (c : CS) : List ByteArray := (c.T ++ c.K).map (·.1)
abbrev Pu := List (Ky × ByteArray × Int)
/-- What was put last under a key. -/
def lastP : Pu → Ky → Option (ByteArray × Int)
  | [], _ => none
  | x :: r, y => match lastP r y with
    | some z => some z
    | none => if x.1 = y then some x.2 else none
theorem lastP_snoc (p : Pu) (x : Ky × ByteArray × Int) (y : Ky) : lastP (p ++ [x]) y = if x.1 = y then some x.2 else lastP p y := by
  induction p with
  | nil => simp [lastP]
  | cons a r ih =>
    rw [List.cons_append, lastP, ih, lastP]
    by_cases h : x.1 = y
    · simp [h]
    · simp [h]

structure Good (c : CS) (p : Pu) : Prop where
  nv : (c.V.map (·.1)).Nodup
  ns : (keysS c).Nodup
  v : ∀ y v, mget y c.V = some v → rightK y = true ∧ tiny y ∧ textK y ∈ keysS c ∧ ∃ now, lastP p y = some (v, now) ∧ mget (textK y) c.L = some (now + c.ttl)
  s : ∀ t ∈ keysS c, ∃ y, textK y = t ∧ mget y c.V ≠ none

theorem mem_keysS_drop {c : CS} {y : Ky} {t : ByteArray} : t ∈ keysS (cdrop c y) ↔ t ∈ keysS c ∧ t ≠ textK y := by
  unfold keysS cdrop
  simp only [List.map_append, List.mem_append, mem_dropV]
  constructor
  · rintro (⟨h1, h2⟩ | ⟨h1, h2⟩)
    · exact ⟨.inl h1, h2⟩
    · exact ⟨.inr h1, h2⟩
  · rintro ⟨h1 | h1, h2⟩
    · exact .inl ⟨h1, h2⟩
    · exact .inr ⟨h1, h2⟩
theorem keysS_drop_nd {c : CS} {y : Ky} (h : (keysS c).Nodup) : (keysS (cdrop c y)).Nodup := by
  unfold keysS cdrop at *
  simp only [List.map_append] at *
  exact h.sublist (((List.filter_sublist).map _).append ((List.filter_sublist).map _))

theorem Good.drop {c : CS} {p : Pu} (h : Good c p) {y : Ky} (hy : rightK y = true) : Good (cdrop c y) p := by
  refine ⟨mdel_nodup y c.V h.nv, keysS_drop_nd h.ns, ?_, ?_⟩
  · intro z v hz
    have hz' : mget z (mdel y c.V) = some v := hz
    rw [mget_del y z c.V h.nv] at hz'
    by_cases e : y = z
    · rw [if_pos e] at hz'; cases hz'
    · rw [if_neg e] at hz'
      obtain ⟨h1, h2, h3, now, h4, h5⟩ := h.v z v hz'
      have hne : textK z ≠ textK y := fun q => e (textK_inj hy h1 q.symm)
      refine ⟨h1, h2, mem_keysS_drop.2 ⟨h3, hne⟩, now, h4, ?_⟩
      show mget (textK z) (qdrop (textK y) c.L) = _
      unfold qdrop
      rw [mget_filter, if_neg (fun q => hne q.symm)]
      exact h5
  · intro t ht
    obtain ⟨h1, h2⟩ := mem_keysS_drop.1 ht
    obtain ⟨z, rfl, hz⟩ := h.s t h1
    refine ⟨z, rfl, ?_⟩
    show mget z (mdel y c.V) ≠ none
    rw [mget_del y z c.V h.nv, if_neg (by rintro rfl; exact h2 rfl)]
    exact hz

theorem cdrops_facts (ys : List Ky) (c : CS) (hn : (c.V.map (·.1)).Nodup) : (cdrops ys c).ttl = c.ttl ∧ ((cdrops ys c).V.map (·.1)).Nodup ∧ ((keysS c).Nodup → (keysS (cdrops ys c)).Nodup) ∧ (∀ y, mget y (cdrops ys c).V = if y ∈ ys then none else mget y c.V) ∧
    (∀ t, t ∈ keysS (cdrops ys c) ↔ t ∈ keysS c ∧ t ∉ ys.map textK) ∧ (∀ t, t ∉ ys.map textK → mget t (cdrops ys c).L = mget t c.L) ∧ (cdrops ys c).al = c.al ∧ (cdrops ys c).kp = c.kp ∧ (cdrops ys c).mo = c.mo := by
  induction ys generalizing c with
  | nil => simp [cdrops, hn]
  | cons z r ih =>
    have e : cdrops (z :: r) c = cdrops r (cdrop c z) := rfl
    rw [e]
    obtain ⟨i1, i2, i3, i4, i5, i6, i7, i8, i9⟩ := ih (cdrop c z) (mdel_nodup z c.V hn)
    refine ⟨i1, i2, fun h => i3 (keysS_drop_nd h), fun y => ?_, fun t => ?_, fun t => ?_, i7, i8, i9⟩
    · rw [i4]
      have : mget y (cdrop c z).V = if z = y then none else mget y c.V := mget_del z y c.V hn
      rw [this]
      by_cases h1 : y ∈ r
      · simp [h1]
      · by_cases h2 : z = y
        · simp [h2]
        · have h2' : ¬ y = z := fun q => h2 q.symm
          simp [h1, h2, h2']
    · rw [i5, mem_keysS_drop]
      simp only [List.map_cons, List.mem_cons, not_or]
      constructor
      · rintro ⟨⟨a, b⟩, d⟩; exact ⟨a, b, d⟩
      · rintro ⟨a, b, d⟩; exact ⟨⟨a, b⟩, d⟩
    · intro hnt
      simp only [List.map_cons, List.mem_cons, not_or] at hnt
      rw [i6 t hnt.2]
      have : mget t (cdrop c z).L = if textK z = t then none else mget t c.L := mget_filter (textK z) t c.L
      rw [this, if_neg (fun q => hnt.1 q.symm)]

theorem mem_keys_room {al : Int} {a : ByteArray} {size : Int} {t k : List KV} (hn : ((t ++ k).map (·.1)).Nodup) {x : ByteArray} :
    (x ∈ ((roomR al a size t k).1 ++ (roomR al a size t k).2.1).map (·.1) ↔ (x ∈ (t ++ k).map (·.1) ∧ x ≠ a ∧ x ∉ (roomR al a size t k).2.2)) ∧ (x ∈ (roomR al a size t k).2.2 → x ∈ (t ++ k).map (·.1) ∧ x ≠ a) := by
  have hp := roomV_perm al size ((dropV a t).length + (dropV a k).length) (dropV a t) (dropV a k)
  have hm : ∀ y, y ∈ (dropV a t ++ dropV a k).map (·.1) ↔ y ∈ (t ++ k).map (·.1) ∧ y ≠ a := by
    intro y
    simp only [List.map_append, List.mem_append, mem_dropV]
    constructor
    · rintro (⟨h1, h2⟩ | ⟨h1, h2⟩)
      · exact ⟨.inl h1, h2⟩
      · exact ⟨.inr h1, h2⟩
    · rintro ⟨h1 | h1, h2⟩
      · exact .inl ⟨h1, h2⟩
      · exact .inr ⟨h1, h2⟩
  have hnd : ((dropV a t ++ dropV a k).map (·.1)).Nodup := by
    simp only [List.map_append] at *
    exact hn.sublist (((List.filter_sublist).map _).append ((List.filter_sublist).map _))
  have hnd2 := hp.nodup_iff.2 hnd
  rw [List.nodup_append] at hnd2
  constructor
  · constructor
    · intro hx
      have h1 := (hm x).1 (hp.mem_iff.1 (List.mem_append_left _ hx))
      exact ⟨h1.1, h1.2, fun hg => hnd2.2.2 x hx x hg rfl⟩
    · rintro ⟨h1, h2, h3⟩
      have := hp.mem_iff.2 ((hm x).2 ⟨h1, h2⟩)
      rcases List.mem_append.1 this with h | h
      · exact h
      · exact absurd h h3
  · intro hx
    exact (hm x).1 (hp.mem_iff.1 (List.mem_append_right _ hx))

/-- The keys that go for room. -/
theorem gone_keys {c : CS} {p : Pu} (h : Good c p) (y : Ky) (v : ByteArray) : ∃ ys : List Ky, cgone c y v = ys.map textK ∧ ∀ x ∈ ys, rightK x = true ∧ tiny x := by
  have : ∀ t ∈ cgone c y v, ∃ z, textK z = t ∧ rightK z = true ∧ tiny z := by
    intro t ht
    obtain ⟨z, h1, h2⟩ := h.s t ((mem_keys_room h.ns).2 ht).1
    cases hz : mget z c.V with
    | none => exact absurd hz h2
    | some u => obtain ⟨a, b, _⟩ := h.v z u hz; exact ⟨z, h1, a, b⟩
  generalize cgone c y v = l at *
  clear h
  induction l with
  | nil => exact ⟨[], rfl, by simp⟩
  | cons t r ih =>
    obtain ⟨ys, h1, h2⟩ := ih (fun u hu => this u (by simp [hu]))
    obtain ⟨z, h3, h4, h5⟩ := this t (by simp)
    refine ⟨z :: ys, by rw [List.map_cons, h3, h1], fun x hx => ?_⟩
    rcases List.mem_cons.1 hx with rfl | hx
    · exact ⟨h4, h5⟩
    · exact h2 x hx

theorem Good.put {c : CS} {p : Pu} (h : Good c p) {y : Ky} {v : ByteArray} {now : Int} {ys : List Ky} (hy1 : rightK y = true) (hy2 : tiny y) (hg : cgone c y v = ys.map textK) (hys : ∀ x ∈ ys, rightK x = true ∧ tiny x) :
    Good (cdrops ys (cputS c y v now)) (p ++ [(y, v, now)]) := by
  have hnv : ((cputS c y v now).V.map (·.1)).Nodup := mput_nodup y v c.V h.nv
  obtain ⟨f1, f2, f3, f4, f5, f6, _⟩ := cdrops_facts ys (cputS c y v now) hnv
  have hroom := fun x => mem_keys_room (al := c.al) (a := textK y) (size := sizeK y v) h.ns (x := x)
  have hkS : ∀ x, x ∈ keysS (cputS c y v now) ↔ x = textK y ∨ (x ∈ keysS c ∧ x ≠ textK y ∧ x ∉ cgone c y v) := by
    intro x
    have := (hroom x).1
    unfold keysS cputS
    rw [List.cons_append, List.map_cons, List.mem_cons]
    unfold cgone
    rw [this]
  have hny : textK y ∉ cgone c y v := fun q => ((hroom _).2 q).2 rfl
  have hyy : y ∉ ys := fun q => hny (by rw [hg]; exact List.mem_map_of_mem q)
  refine ⟨f2, f3 ?_, ?_, ?_⟩
  · have hp := roomV_perm c.al (sizeK y v) ((dropV (textK y) c.T).length + (dropV (textK y) c.K).length) (dropV (textK y) c.T) (dropV (textK y) c.K)
    have hnd : ((dropV (textK y) c.T ++ dropV (textK y) c.K).map (·.1)).Nodup := by
      have := h.ns
      unfold keysS at this
      simp only [List.map_append] at *
      exact this.sublist (((List.filter_sublist).map _).append ((List.filter_sublist).map _))
    have hnd2 := (List.nodup_append.1 (hp.nodup_iff.2 hnd)).1
    unfold keysS cputS
    rw [List.cons_append, List.map_cons, List.nodup_cons]
    exact ⟨fun q => ((hroom _).1.1 q).2.1 rfl, hnd2⟩
  · intro z u hz
    rw [f4] at hz
    by_cases hzy : z ∈ ys
    · rw [if_pos hzy] at hz; cases hz
    · rw [if_neg hzy] at hz
      have hzV : (if y = z then some v else mget z c.V) = some u := by
        rw [← mget_put]; exact hz
      by_cases e : y = z
      · subst e
        rw [if_pos rfl] at hzV
        cases hzV
        refine ⟨hy1, hy2, (f5 _).2 ⟨(hkS _).2 (.inl rfl), by rw [← hg]; exact hny⟩, now, by rw [lastP_snoc, if_pos rfl], ?_⟩
        rw [f6 _ (by rw [← hg]; exact hny), f1]
        show mget (textK y) (qset (textK y) (now + c.ttl) c.L) = _
        rw [mget_qset, if_pos rfl]; rfl
      · rw [if_neg e] at hzV
        obtain ⟨h1, h2, h3, n0, h4, h5⟩ := h.v z u hzV
        have hne : textK z ≠ textK y := fun q => e (textK_inj hy1 h1 q.symm)
        have hng : textK z ∉ ys.map textK := by
          intro q
          obtain ⟨x, hx, hxe⟩ := List.mem_map.1 q
          exact hzy (textK_inj (hys x hx).1 h1 hxe ▸ hx)
        refine ⟨h1, h2, (f5 _).2 ⟨(hkS _).2 (.inr ⟨h3, hne, by rw [hg]; exact hng⟩), hng⟩, n0, by rw [lastP_snoc, if_neg e]; exact h4, ?_⟩
        rw [f6 _ hng, f1]
        show mget (textK z) (qset (textK y) (now + c.ttl) c.L) = _
        rw [mget_qset, if_neg (fun q => hne q.symm)]
        exact h5
  · intro t ht
    obtain ⟨h1, h2⟩ := (f5 t).1 ht
    have hgen : ∀ z, textK z = t → (y = z ∨ mget z c.V ≠ none) → ∃ z, textK z = t ∧ mget z (cdrops ys (cputS c y v now)).V ≠ none := by
      intro z hz hor
      refine ⟨z, hz, ?_⟩
      rw [f4, if_neg (fun q => h2 (hz ▸ List.mem_map_of_mem q))]
      show mget z (mput y v c.V) ≠ none
      rw [mget_put]
      by_cases e : y = z
      · rw [if_pos e]; simp
      · rw [if_neg e]
        rcases hor with hor | hor
        · exact absurd hor e
        · exact hor
    rcases (hkS t).1 h1 with rfl | ⟨h3, h4, h5⟩
    · exact hgen y rfl (.inl rfl)
    · obtain ⟨z, hz1, hz2⟩ := h.s t h3
      exact hgen z hz1 (.inr hz2)

theorem touchP_perm (kp : Int) (a : ByteArray) (s : Int) (t k : List KV) : (((touchP kp a s t k).1 ++ (touchP kp a s t k).2).map (·.1)).Perm (a :: ((dropV a t ++ dropV a k).map (·.1))) := by
  unfold touchP
  split
  · simp
  · simp only [List.map_append, List.map_cons]
    exact List.perm_middle
theorem mem_drop2 {a x : ByteArray} {t k : List KV} : x ∈ (dropV a t ++ dropV a k).map (·.1) ↔ x ∈ (t ++ k).map (·.1) ∧ x ≠ a := by
  simp only [List.map_append, List.mem_append, mem_dropV]
  constructor
  · rintro (⟨h1, h2⟩ | ⟨h1, h2⟩)
    · exact ⟨.inl h1, h2⟩
    · exact ⟨.inr h1, h2⟩
  · rintro ⟨h1 | h1, h2⟩
    · exact .inl ⟨h1, h2⟩
    · exact .inr ⟨h1, h2⟩

theorem Good.touch {c : CS} {p : Pu} (h : Good c p) {y : Ky} {sz : Int} (hm : textK y ∈ keysS c) : Good (ctouch c y sz) p := by
  have hp : (keysS (ctouch c y sz)).Perm (textK y :: ((dropV (textK y) c.T ++ dropV (textK y) c.K).map (·.1))) :=
    ((backV_perm c.kp (touchP c.kp (textK y) sz c.T c.K).2.length (touchP c.kp (textK y) sz c.T c.K).1 (touchP c.kp (textK y) sz c.T c.K).2).map (fun x : KV => x.1)).trans (touchP_perm c.kp (textK y) sz c.T c.K)
  have hk : ∀ x, x ∈ keysS (ctouch c y sz) ↔ x ∈ keysS c := by
    intro x
    rw [hp.mem_iff, List.mem_cons, mem_drop2]
    constructor
    · rintro (rfl | ⟨h1, _⟩)
      · exact hm
      · exact h1
    · intro hx
      by_cases e : x = textK y
      · exact .inl e
      · exact .inr ⟨hx, e⟩
  have hnd : (keysS (ctouch c y sz)).Nodup := by
    rw [hp.nodup_iff, List.nodup_cons]
    refine ⟨fun q => (mem_drop2.1 q).2 rfl, ?_⟩
    have := h.ns
    unfold keysS at this
    simp only [List.map_append] at *
    exact this.sublist (((List.filter_sublist).map _).append ((List.filter_sublist).map _))
  refine ⟨h.nv, hnd, fun z v hz => ?_, fun t ht => h.s t ((hk t).1 ht)⟩
  obtain ⟨h1, h2, h3, h4⟩ := h.v z v hz
  exact ⟨h1, h2, (hk _).2 h3, h4⟩
theorem Good.nil (al kp mo ttl : Int) : Good ⟨al, kp, mo, ttl, [], [], [], []⟩ [] := ⟨by simp, by simp [keysS], by simp [mget], by simp [keysS]⟩

/-- A cache of which all that was put, in this order, is known: (n: how often, at most). -/
structure Par (c : CS) (al kp mo ttl : Int) : Prop where
  a : c.al = al
  k : c.kp = kp
  m : c.mo = mo
  t : c.ttl = ttl
def CacheG (b : Nat) (al kp mo ttl : Int) (p : Pu) (n : Nat) : Assn := ex fun c : CS => pur (Good c p ∧ Par c al kp mo ttl) * CacheR b c n
section
variable {k : Env} {w : World} {b n : Nat} {al kp mo ttl : Int} {p : Pu} {R : Assn}
theorem cg_open (h : Sat k w (CacheG b al kp mo ttl p n * R)) : ∃ c, Good c p ∧ Par c al kp mo ttl ∧ Sat k w (CacheR b c n * R) := by
  obtain ⟨c, h⟩ := Sat.ex.1 h
  rw [star_assoc] at h
  obtain ⟨⟨h1, h2⟩, h⟩ := Sat.pure.1 h
  exact ⟨c, h1, h2, h⟩
theorem cg_close {c : CS} (h : Sat k w (CacheR b c n * R)) (h1 : Good c p) (h2 : Par c al kp mo ttl) : Sat k w (CacheG b al kp mo ttl p n * R) :=
  Sat.ex.2 ⟨c, by rw [star_assoc]; exact Sat.pure.2 ⟨⟨h1, h2⟩, h⟩⟩
theorem ca_more {c : CS} (h : Sat k w (CacheR b c n * R)) : Sat k w (CacheR b c (n + 1) * R) := by
  obtain ⟨s, q, m, hs⟩ := ca_open h
  have := qv_more hs.get3 (Nat.le_succ n)
  exact ca_close (c := c) this.put3 rfl rfl rfl rfl rfl rfl rfl rfl
theorem ca_facts {c : CS} (h : Sat k w (CacheR b c n * R)) : sumV c.T + sumV c.K ≤ c.al ∧ c.al ≤ 1073741824 ∧ 0 ≤ sumV c.T ∧ 0 ≤ sumV c.K ∧ (c.T.length : Int) + c.K.length ≤ c.al := by
  obtain ⟨s, q, m, hs⟩ := ca_open h
  obtain ⟨a1, a2, a3, a4, a5, a6, a7, a8, a9⟩ := sv_facts hs.swap
  exact ⟨a1, a5, a8, a9, a4⟩
end
theorem cput_good (k : Env) (w : World) (R : Assn) (b n : Nat) (al kp mo ttl : Int) (p : Pu) (y : Ky) (v : ByteArray) (now : Int) (hy2 : tiny y) (hv : v.size ≤ 1000000000) (ht1 : 1 ≤ ttl) (ht2 : ttl ≤ 549755813888) (hn : n + 1 ≤ 1000000000) (h : Sat k w (CacheG b al kp mo ttl p n * R)) :
    Calls Try.prog 18 #[pq b, kyV y, .string v, .int .i64 now] w fun e w' => ∃ v' er, e = .returned (.tuple #[v', .int .i64 er]) ∧ ((er = 0 ∧ 0 ≤ now ∧ now ≤ 549755813888 ∧ Sat k w' (CacheG b al kp mo ttl (p ++ [(y, v, now)]) (n + 1) * R)) ∨ (er ≠ 0 ∧ Sat k w' (CacheG b al kp mo ttl p (n + 1) * R))) := by
  obtain ⟨c, hg, hp, hs⟩ := cg_open h
  obtain ⟨rfl, rfl, rfl, rfl⟩ := hp
  by_cases ha : rightK y = false ∨ now < 0 ∨ 549755813888 < now
  · exact (cput_arg k w R b n c y v now hy2 ha hs).mono fun e w' ⟨he, h'⟩ => ⟨_, _, he, .inr ⟨by decide, cg_close (ca_more h') hg ⟨rfl, rfl, rfl, rfl⟩⟩⟩
  · have h1 : rightK y = true := by
      cases hr : rightK y with
      | true => rfl
      | false => exact absurd (.inl hr) ha
    have h2 : ¬ now < 0 := fun q => ha (.inr (.inl q))
    have h3 : ¬ 549755813888 < now := fun q => ha (.inr (.inr q))
    by_cases hb : c.mo < sizeK y v
    · exact (cput_big k w R b n c y v now h1 hy2 hv h2 h3 hb hs).mono fun e w' ⟨he, h'⟩ => ⟨_, _, he, .inr ⟨by decide, cg_close (ca_more h') hg ⟨rfl, rfl, rfl, rfl⟩⟩⟩
    · obtain ⟨ys, hgo, hys⟩ := gone_keys hg y v
      obtain ⟨q1, q2, q3, q4, q5⟩ := ca_facts hs
      have hl : (ys.length : Int) ≤ 1073741824 := by
        have e1 : ys.length = (cgone c y v).length := by rw [hgo, List.length_map]
        have e2 : (cgone c y v).length ≤ (dropV (textK y) c.T).length + (dropV (textK y) c.K).length := (roomV_sub _ _ _ _ _).2.2
        have e3 : (dropV (textK y) c.T).length ≤ c.T.length := List.length_filter_le _ _
        have e4 : (dropV (textK y) c.K).length ≤ c.K.length := List.length_filter_le _ _
        omega
      have hnv : ((cputS c y v now).V.map (·.1)).Nodup := mput_nodup y v c.V hg.nv
      obtain ⟨f1, _, _, _, _, _, f7, f8, f9⟩ := cdrops_facts ys (cputS c y v now) hnv
      exact (cput_ok k w R b n c y v now ys h1 hy2 hv h2 h3 (by omega) ht1 ht2 hn hgo hys hl hs).mono fun e w' ⟨v', he, h'⟩ => ⟨v', _, he, .inl ⟨rfl, by omega, by omega, cg_close h'.drop (hg.put h1 hy2 hgo hys) ⟨f7, f8, f9, f1⟩⟩⟩

theorem cget_good (k : Env) (w : World) (R : Assn) (b n : Nat) (al kp mo ttl : Int) (p : Pu) (y : Ky) (now : Int) (hn : n ≤ 1000000000) (h : Sat k w (CacheG b al kp mo ttl p n * R)) :
    Calls Try.prog 19 #[pq b, kyV y, .int .i64 now] w fun e w' => ∃ v is, e = .returned (.tuple #[.string v, .bool is]) ∧ (is = true → ∃ n0, lastP p y = some (v, n0) ∧ now < n0 + ttl) ∧ Sat k w' (CacheG b al kp mo ttl p n * R) := by
  obtain ⟨c, hg, hp, hs⟩ := cg_open h
  obtain ⟨rfl, rfl, rfl, rfl⟩ := hp
  cases hv : mget y c.V with
  | none => exact (cget_none k w R b n c y now hv hs).mono fun e w' ⟨he, h'⟩ => ⟨_, _, he, fun q => (by cases q), cg_close h' hg ⟨rfl, rfl, rfl, rfl⟩⟩
  | some v =>
    obtain ⟨h1, h2, h3, n0, h4, h5⟩ := hg.v y v hv
    by_cases hle : n0 + c.ttl ≤ now
    · exact (cget_late k w R b n c y now _ v h1 h2 hn hv h5 hle hs).mono fun e w' ⟨he, h'⟩ => ⟨_, _, he, fun q => (by cases q), cg_close h' (hg.drop h1) ⟨rfl, rfl, rfl, rfl⟩⟩
    · obtain ⟨sz, hsz⟩ : ∃ sz, mget (textK y) (c.T ++ c.K) = some sz := Option.isSome_iff_exists.1 (mget_isSome.2 h3)
      exact (cget_some k w R b n c y now _ sz v h1 h2 hv h5 hle hsz hs).mono fun e w' ⟨he, h'⟩ => ⟨_, _, he, fun _ => ⟨n0, h4, by omega⟩, cg_close h' (hg.touch h3) ⟨rfl, rfl, rfl, rfl⟩⟩

theorem cbytes_good (k : Env) (w : World) (R : Assn) (b n : Nat) (al kp mo ttl : Int) (p : Pu) (h : Sat k w (CacheG b al kp mo ttl p n * R)) :
    Calls Try.prog 20 #[pq b] w fun e w' => ∃ z, e = .returned (.int .i64 z) ∧ z ≤ al ∧ Sat k w' (CacheG b al kp mo ttl p n * R) := by
  obtain ⟨c, hg, hp, hs⟩ := cg_open h
  obtain ⟨rfl, rfl, rfl, rfl⟩ := hp
  obtain ⟨q1, q2, q3, q4, q5⟩ := ca_facts hs
  exact (cbytes_any k w R b n c (by omega) hs).mono fun e w' ⟨he, h'⟩ => ⟨_, he, by omega, cg_close h' hg ⟨rfl, rfl, rfl, rfl⟩⟩

theorem roomV_len (al size : Int) (n : Nat) (t k : List KV) : (roomV al size n t k).2.2.length ≤ n := (roomV_sub al size n t k).2.2

end Go.Proofs.Ytlilogcojeoelaa
