/- The cache and the document's: one holds what the other holds. Plain data, no program. -/
import Derived.Test.YtlilogcojeoelaaCacheP
import Derived.Test.YtlilogcojeoelaaMH
import Derived.Test.YtlilogcojeoelaaR12H
namespace Go.Proofs.Ytlilogcojeoelaa
set_option linter.all false
open Go Go.RowKit Classical

theorem nodup_of_map {α β : Type} {f : α → β} {l : List α} (h : (l.map f).Nodup) : l.Nodup := (List.pairwise_map.1 h).imp fun hne e => hne (congrArg f e)
theorem mem_takeWhile_p {α : Type} {p : α → Bool} {l : List α} {x : α} (h : x ∈ l.takeWhile p) : p x = true := by
  induction l with
  | nil => simp at h
  | cons a r ih =>
    rw [List.takeWhile_cons] at h
    split at h
    · rcases List.mem_cons.1 h with rfl | q
      · assumption
      · exact ih q
    · simp at h

def docOf (c : CS) (P : List PV) : DS := ⟨c.al, c.kp, c.mo, c.ttl, c.T, c.K, c.L, P⟩
def dropPs (ts : List ByteArray) (P : List PV) : List PV := ts.foldl (fun p t => dropP t p) P
theorem doc_drop (c : CS) (P : List PV) (y : Ky) : dgone (docOf c P) (textK y) = docOf (cdrop c y) (dropP (textK y) P) := rfl
theorem doc_drops (ys : List Ky) (c : CS) (P : List PV) : dgones (ys.map textK) (docOf c P) = docOf (cdrops ys c) (dropPs (ys.map textK) P) := by
  induction ys generalizing c P with
  | nil => rfl
  | cons y r ih => exact ih (cdrop c y) (dropP (textK y) P)
theorem doc_put (c : CS) (P : List PV) (y : Ky) (v : ByteArray) (now : Int) : dputS (docOf c P) y v now = docOf (cputS c y v now) (dropP (textK y) P ++ [(textK y, v)]) := rfl
theorem doc_touch (c : CS) (P : List PV) (y : Ky) (n : Int) : dtouch (docOf c P) (textK y) n = docOf (ctouch c y n) P := rfl
theorem resP_of {y : Ky} (h : rightK y = true) : resP (textK y) = y := by
  obtain ⟨h1, h2⟩ := isP_text h
  unfold resP
  rw [if_pos h1, h2]
theorem resP_all {ys : List Ky} (h : ∀ y ∈ ys, rightK y = true) : (ys.map textK).map resP = ys := by
  induction ys with
  | nil => rfl
  | cons y r ih =>
    rw [List.map_cons, List.map_cons, resP_of (h y (by simp)), ih fun z hz => h z (by simp [hz])]
theorem dropPs_len (ts : List ByteArray) (P : List PV) : (dropPs ts P).length ≤ P.length := by
  induction ts generalizing P with
  | nil => exact Nat.le_refl _
  | cons t r ih => exact Nat.le_trans (ih (dropP t P)) (dropP_len t P)
theorem mget_dropPs (ts : List ByteArray) (P : List PV) (b : ByteArray) : mget b (dropPs ts P) = if b ∈ ts then none else mget b P := by
  induction ts generalizing P with
  | nil => simp [dropPs]
  | cons t r ih =>
    have e : dropPs (t :: r) P = dropPs r (dropP t P) := rfl
    rw [e, ih]
    unfold dropP
    rw [mget_filter]
    by_cases h1 : b ∈ r
    · simp [h1]
    · by_cases h2 : t = b
      · simp [h2]
      · have h2' : ¬ b = t := fun q => h2 q.symm
        simp [h1, h2, h2']

structure Tie (c : CS) (P : List PV) (p : Pu) : Prop where
  g : Good c p
  lk : ∀ x ∈ c.L, x.1 ∈ keysS c
  pv : ∀ y, rightK y = true → mget (textK y) P = mget y c.V
  sz : ∀ t ∈ keysS c, t.size ≤ 300000

theorem Tie.drop {c : CS} {P : List PV} {p : Pu} (h : Tie c P p) {y : Ky} (hy : rightK y = true) : Tie (cdrop c y) (dropP (textK y) P) p := by
  refine ⟨h.g.drop hy, ?_, ?_, fun t ht => h.sz t (mem_keysS_drop.1 ht).1⟩
  · intro x hx
    have hx' : x ∈ qdrop (textK y) c.L := hx
    unfold qdrop at hx'
    rw [List.mem_filter] at hx'
    exact mem_keysS_drop.2 ⟨h.lk x hx'.1, by simpa using hx'.2⟩
  · intro z hz
    show mget (textK z) (dropP (textK y) P) = mget z (mdel y c.V)
    unfold dropP
    rw [mget_filter, mget_del y z c.V h.g.nv, h.pv z hz]
    by_cases e : y = z
    · subst e; simp
    · rw [if_neg e, if_neg (fun q => e (textK_inj hy hz q))]
theorem Tie.drops {ys : List Ky} {c : CS} {P : List PV} {p : Pu} (h : Tie c P p) (hy : ∀ y ∈ ys, rightK y = true) : Tie (cdrops ys c) (dropPs (ys.map textK) P) p := by
  induction ys generalizing c P with
  | nil => exact h
  | cons y r ih => exact ih (h.drop (hy y (by simp))) fun z hz => hy z (by simp [hz])

theorem cdrops_LL (ys : List Ky) (c : CS) (M : List KA) : cdrops ys { c with L := M } = { cdrops ys c with L := M.filter fun x => decide (x.1 ∉ ys.map textK) } := by
  induction ys generalizing c M with
  | nil =>
    have : M.filter (fun x => decide (x.1 ∉ ([] : List Ky).map textK)) = M := by simp
    rw [this]; rfl
  | cons y r ih =>
    have e : cdrops (y :: r) { c with L := M } = cdrops r { cdrop c y with L := qdrop (textK y) M } := rfl
    have e2 : cdrops (y :: r) c = cdrops r (cdrop c y) := rfl
    rw [e, e2, ih]
    have e3 : (qdrop (textK y) M).filter (fun x => decide (x.1 ∉ r.map textK)) = M.filter fun x => decide (x.1 ∉ (y :: r).map textK) := by
      unfold qdrop
      rw [List.filter_filter]
      congr 1
      funext x
      by_cases h1 : x.1 = textK y
      · simp [h1]
      · by_cases h2 : x.1 ∈ r.map textK
        · simp [h1, h2]
        · simp [h1, h2]
    rw [e3]
theorem cdrops_L (ys : List Ky) (c : CS) : (cdrops ys c).L = c.L.filter fun x => decide (x.1 ∉ ys.map textK) := by
  have := cdrops_LL ys c c.L
  exact congrArg CS.L this
theorem cdrops_tick {ys : List Ky} {c : CS} {now : Int} (h : qdue now c.L = ys.map textK) : cdrops ys { c with L := qrest now c.L } = cdrops ys c := by
  have e0 : cdrops ys c = cdrops ys { c with L := c.L } := rfl
  rw [e0, cdrops_LL, cdrops_LL]
  have e1 : (qrest now c.L).filter (fun x => decide (x.1 ∉ ys.map textK)) = c.L.filter fun x => decide (x.1 ∉ ys.map textK) := by
    have e2 : c.L = c.L.takeWhile (fun x => decide (x.2 ≤ now)) ++ qrest now c.L := (List.takeWhile_append_dropWhile).symm
    conv => rhs; rw [e2]
    rw [List.filter_append]
    have e3 : (c.L.takeWhile fun x => decide (x.2 ≤ now)).filter (fun x => decide (x.1 ∉ ys.map textK)) = [] := by
      rw [List.filter_eq_nil_iff]
      intro x hx
      have : x.1 ∈ qdue now c.L := List.mem_map_of_mem hx
      rw [h] at this
      simpa using this
    rw [e3, List.nil_append]
  rw [e1]

theorem Tie.put {c : CS} {P : List PV} {p : Pu} (h : Tie c P p) {y : Ky} {v : ByteArray} {now : Int} {ys : List Ky} (hy1 : rightK y = true) (hy2 : tiny y) (hsz : (textK y).size ≤ 300000) (hg : cgone c y v = ys.map textK) (hys : ∀ x ∈ ys, rightK x = true ∧ tiny x) :
    Tie (cdrops ys (cputS c y v now)) (dropPs (ys.map textK) (dropP (textK y) P ++ [(textK y, v)])) (p ++ [(y, v, now)]) := by
  have hnv : ((cputS c y v now).V.map (·.1)).Nodup := mput_nodup y v c.V h.g.nv
  obtain ⟨f1, f2, f3, f4, f5, f6, _⟩ := cdrops_facts ys (cputS c y v now) hnv
  have hroom := fun x => mem_keys_room (al := c.al) (a := textK y) (size := sizeK y v) h.g.ns (x := x)
  have hkS : ∀ x, x ∈ keysS (cputS c y v now) ↔ x = textK y ∨ (x ∈ keysS c ∧ x ≠ textK y ∧ x ∉ cgone c y v) := by
    intro x
    have := (hroom x).1
    unfold keysS cputS
    rw [List.cons_append, List.map_cons, List.mem_cons]
    unfold cgone
    rw [this]
  refine ⟨h.g.put hy1 hy2 hg hys, ?_, ?_, ?_⟩
  · intro x hx
    rw [cdrops_L, List.mem_filter] at hx
    obtain ⟨hx1, hx2⟩ := hx
    have hx2' : x.1 ∉ ys.map textK := by simpa using hx2
    refine (f5 _).2 ⟨(hkS _).2 ?_, hx2'⟩
    by_cases e : x.1 = textK y
    · exact .inl e
    · have hx3 : x ∈ qset (textK y) (now + c.ttl) c.L := hx1
      unfold qset qins at hx3
      have hx4 : x ∈ qdrop (textK y) c.L := by
        rcases List.mem_append.1 hx3 with q | q
        · exact (List.takeWhile_sublist _).mem q
        · rcases List.mem_cons.1 q with q | q
          · exact absurd (by rw [q]) e
          · exact (List.dropWhile_sublist _).mem q
      unfold qdrop at hx4
      exact .inr ⟨h.lk x (List.mem_filter.1 hx4).1, e, by rw [hg]; exact hx2'⟩
  · intro z hz
    rw [mget_dropPs, f4, mget_app]
    have hmem : textK z ∈ ys.map textK ↔ z ∈ ys := by
      constructor
      · intro q
        obtain ⟨u, hu, e⟩ := List.mem_map.1 q
        exact textK_inj (hys u hu).1 hz e ▸ hu
      · exact fun q => List.mem_map_of_mem q
    by_cases e1 : z ∈ ys
    · rw [if_pos e1, if_pos (hmem.2 e1)]
    · rw [if_neg e1, if_neg (fun q => e1 (hmem.1 q))]
      have e2 : mget z (cputS c y v now).V = if y = z then some v else mget z c.V := mget_put y z v c.V
      rw [e2]
      unfold dropP
      rw [mget_filter, h.pv z hz]
      by_cases e3 : y = z
      · subst e3; simp [mget]
      · have e4 : ¬ textK y = textK z := fun q => e3 (textK_inj hy1 hz q)
        rw [if_neg e3, if_neg e4]
        simp [mget, e4]
  · intro t ht
    rcases (hkS t).1 ((f5 t).1 ht).1 with rfl | ⟨q, _⟩
    · exact hsz
    · exact h.sz t q

theorem Tie.touch {c : CS} {P : List PV} {p : Pu} (h : Tie c P p) {y : Ky} {n : Int} (hm : textK y ∈ keysS c) : Tie (ctouch c y n) P p := by
  have hp : (keysS (ctouch c y n)).Perm (textK y :: ((dropV (textK y) c.T ++ dropV (textK y) c.K).map (·.1))) :=
    ((backV_perm c.kp (touchP c.kp (textK y) n c.T c.K).2.length (touchP c.kp (textK y) n c.T c.K).1 (touchP c.kp (textK y) n c.T c.K).2).map (fun x : KV => x.1)).trans (touchP_perm c.kp (textK y) n c.T c.K)
  have hk : ∀ x, x ∈ keysS (ctouch c y n) ↔ x ∈ keysS c := by
    intro x
    rw [hp.mem_iff, List.mem_cons, mem_drop2]
    constructor
    · rintro (rfl | ⟨h1, _⟩)
      · exact hm
      · exact h1
    · intro hx
      by_cases e : x = textK y
      · exact .inl e
      · exact .inr ⟨hx, e⟩
  exact ⟨h.g.touch hm, fun x hx => (hk _).2 (h.lk x hx), h.pv, fun t ht => h.sz t ((hk t).1 ht)⟩

theorem mget_perm {V W : List (Ky × ByteArray)} (hp : W.Perm V) (hn : (V.map (·.1)).Nodup) (y : Ky) : mget y W = mget y V := by
  have hn2 : (W.map (·.1)).Nodup := (hp.map _).nodup_iff.2 hn
  cases hq : mget y V with
  | some v => exact (mget_mem hn2).2 (hp.mem_iff.2 ((mget_mem hn).1 hq))
  | none =>
    rw [mget_none] at hq ⊢
    exact fun x hx => hq x (hp.mem_iff.1 hx)
theorem Tie.copy {c : CS} {P : List PV} {p : Pu} (h : Tie c P p) {W : List (Ky × ByteArray)} (hp : W.Perm c.V) : Tie { c with V := W } P p := by
  have hm := fun y => mget_perm hp h.g.nv y
  refine ⟨⟨(hp.map _).nodup_iff.2 h.g.nv, h.g.ns, ?_, ?_⟩, h.lk, ?_, h.sz⟩
  · intro y v hv
    have hv' : mget y W = some v := hv
    rw [hm] at hv'
    exact h.g.v y v hv'
  · intro t ht
    obtain ⟨y, h1, h2⟩ := h.g.s t ht
    exact ⟨y, h1, by show mget y W ≠ none; rw [hm]; exact h2⟩
  · intro y hy
    show _ = mget y W
    rw [hm]
    exact h.pv y hy

/-- Texts that are kept are keys' texts. -/
theorem Good.keys {c : CS} {p : Pu} (h : Good c p) {l : List ByteArray} (hl : ∀ t ∈ l, t ∈ keysS c) : ∃ ys : List Ky, l = ys.map textK ∧ ∀ y ∈ ys, rightK y = true ∧ tiny y ∧ mget y c.V ≠ none := by
  have : ∀ t ∈ l, ∃ z, textK z = t ∧ rightK z = true ∧ tiny z ∧ mget z c.V ≠ none := by
    intro t ht
    obtain ⟨z, h1, h2⟩ := h.s t (hl t ht)
    cases hz : mget z c.V with
    | none => exact absurd hz h2
    | some u => obtain ⟨a, b, _⟩ := h.v z u hz; exact ⟨z, h1, a, b, by rw [hz]; simp⟩
  clear hl h
  induction l with
  | nil => exact ⟨[], rfl, by simp⟩
  | cons t r ih =>
    obtain ⟨ys, h1, h2⟩ := ih (fun u hu => this u (by simp [hu]))
    obtain ⟨z, h3, h4⟩ := this t (by simp)
    refine ⟨z :: ys, by rw [List.map_cons, h3, h1], fun x hx => ?_⟩
    rcases List.mem_cons.1 hx with rfl | hx
    · exact h4
    · exact h2 x hx
theorem keysS_of {c : CS} {x : ByteArray} : x ∈ keysS c ↔ x ∈ c.T.map (·.1) ∨ x ∈ c.K.map (·.1) := by
  unfold keysS
  rw [List.map_append, List.mem_append]
theorem cdropsI_eq {ys : List Ky} {c : CS} (hn : (c.V.map (·.1)).Nodup) (hy : ys.Nodup) (hm : ∀ y ∈ ys, mget y c.V ≠ none) : cdropsI ys c = cdrops ys c := by
  induction ys generalizing c with
  | nil => rfl
  | cons y r ih =>
    rw [List.nodup_cons] at hy
    have e : cdropsI (y :: r) c = cdropsI r (cdropI c y) := rfl
    have e2 : cdropI c y = cdrop c y := by unfold cdropI; rw [if_neg (hm y (by simp))]
    rw [e, e2]
    refine ih (c := cdrop c y) (mdel_nodup y c.V hn) hy.2 fun z hz => ?_
    show mget z (mdel y c.V) ≠ none
    rw [mget_del y z c.V hn, if_neg (by rintro rfl; exact hy.1 hz)]
    exact hm z (by simp [hz])
theorem Good.flush {c : CS} {p : Pu} (h : Good c p) {yk yt : List Ky} (h1 : c.K.map (·.1) = yk.map textK) (h2 : c.T.map (·.1) = yt.map textK) (hk : ∀ y ∈ yk, mget y c.V ≠ none) (ht : ∀ y ∈ yt, mget y c.V ≠ none) : cdropsI (yk ++ yt) c = cdrops (yk ++ yt) c := by
  refine cdropsI_eq h.nv ?_ ?_
  · have hn := h.ns
    unfold keysS at hn
    rw [List.map_append] at hn
    have hp : ((yk ++ yt).map textK).Perm (c.T.map (·.1) ++ c.K.map (·.1)) := by
      rw [List.map_append, ← h1, ← h2]
      exact List.perm_append_comm
    exact nodup_of_map (hp.nodup_iff.2 hn)
  · intro y hy
    rcases List.mem_append.1 hy with q | q
    · exact hk y q
    · exact ht y q

theorem qv_sorted {k : Env} {w : World} {b n : Nat} {L : List KA} {R : Assn} (h : Sat k w (QueueV b L n * R)) (now : Int) : dueL L now = qdue now L ∧ restL L now = qrest now L := by
  obtain ⟨H, s, hq, _, _⟩ := qv_open h
  obtain ⟨S, _, hs, he, _⟩ := hq.ex
  have hd : ∀ x ∈ qrest now L, now < x.2 := by
    intro x hx
    unfold qrest at hx
    rw [← he, dropWhile_map_itp] at hx
    obtain ⟨z, hz, rfl⟩ := List.mem_map.1 hx
    exact sorted_drop hs now z hz
  have e2 : L = L.takeWhile (fun x => decide (x.2 ≤ now)) ++ qrest now L := (List.takeWhile_append_dropWhile).symm
  have ht : ∀ x ∈ L.takeWhile (fun x => decide (x.2 ≤ now)), x.2 ≤ now := by
    intro x hx
    have := mem_takeWhile_p hx
    simpa using this
  constructor
  · unfold dueL qdue
    congr 1
    conv => lhs; rw [e2]
    rw [List.filter_append]
    have e3 : (qrest now L).filter (fun x => decide (x.2 ≤ now)) = [] := by
      rw [List.filter_eq_nil_iff]
      intro x hx
      have := hd x hx
      simp; omega
    have e4 : (L.takeWhile fun x => decide (x.2 ≤ now)).filter (fun x => decide (x.2 ≤ now)) = L.takeWhile fun x => decide (x.2 ≤ now) := by
      rw [List.filter_eq_self]
      intro x hx
      have := ht x hx
      simpa using this
    rw [e3, e4, List.append_nil]
  · unfold restL
    conv => lhs; rw [e2]
    rw [List.filter_append]
    have e3 : (qrest now L).filter (fun x => decide (¬ x.2 ≤ now)) = qrest now L := by
      rw [List.filter_eq_self]
      intro x hx
      have := hd x hx
      simp; omega
    have e4 : (L.takeWhile fun x => decide (x.2 ≤ now)).filter (fun x => decide (¬ x.2 ≤ now)) = [] := by
      rw [List.filter_eq_nil_iff]
      intro x hx
      have := ht x hx
      simpa using this
    rw [e3, e4, List.nil_append]
theorem ca_more' {k : Env} {w : World} {b n : Nat} {c : CS} {R : Assn} (h : Sat k w (CacheR b c n * R)) {m : Nat} (hm : n ≤ m) : Sat k w (CacheR b c m * R) := by
  obtain ⟨s, q, mm, hs⟩ := ca_open h
  have := qv_more hs.get3 hm
  exact ca_close (c := c) this.put3 rfl rfl rfl rfl rfl rfl rfl rfl
theorem ca_sorted {k : Env} {w : World} {b n : Nat} {c : CS} {R : Assn} (h : Sat k w (CacheR b c n * R)) (now : Int) : dueL c.L now = qdue now c.L ∧ restL c.L now = qrest now c.L := by
  obtain ⟨s, q, m, hs⟩ := ca_open h
  exact qv_sorted hs.get3 now
theorem ca_len {k : Env} {w : World} {b n : Nat} {c : CS} {R : Assn} (h : Sat k w (CacheR b c n * R)) : c.L.length ≤ n := by
  obtain ⟨s, q, m, hs⟩ := ca_open h
  exact (qv_keys hs.get3).2
theorem ca_store {k : Env} {w : World} {b n : Nat} {c : CS} {R : Assn} (h : Sat k w (CacheR b c n * R)) : NdV c.T c.K ∧ posV c.T ∧ posV c.K ∧ sumV c.T + sumV c.K ≤ c.al ∧ sumV c.K ≤ c.kp ∧ c.al ≤ 1073741824 ∧ (c.T.length : Int) + c.K.length ≤ c.al ∧ 0 ≤ sumV c.T ∧ 0 ≤ sumV c.K := by
  obtain ⟨s, q, m, hs⟩ := ca_open h
  obtain ⟨f1, f2, f3, f4, f5, f6, f7, f8, f9⟩ := sv_facts hs.swap
  exact ⟨f3, f6, f7, f1, f2, f5, f4, f8, f9⟩

end Go.Proofs.Ytlilogcojeoelaa
