/- The law CachePlays: what each pair of operations does, of the program and of the document. -/
import Derived.Test.YtlilogcojeoelaaCacheY
import Derived.Test.YtlilogcojeoelaaCacheW
import Derived.Test.YtlilogcojeoelaaCacheX
namespace Go.Proofs.Ytlilogcojeoelaa
set_option linter.all false
open Go Go.RowKit

theorem nodup_leB : ∀ (l m : List ByteArray), l.Nodup → (∀ x ∈ l, x ∈ m) → l.length ≤ m.length
  | [], _, _, _ => Nat.zero_le _
  | a :: r, m, hn, hs => by
    obtain ⟨m1, m2, rfl⟩ := List.append_of_mem (hs a List.mem_cons_self)
    have hn' := List.nodup_cons.1 hn
    have := nodup_leB r (m1 ++ m2) hn'.2 (fun x hx => by
      have h1 := hs x (List.mem_cons_of_mem a hx)
      simp only [List.mem_append, List.mem_cons] at h1 ⊢
      rcases h1 with h1 | rfl | h1
      · exact .inl h1
      · exact absurd hx hn'.1
      · exact .inr h1)
    simp only [List.length_cons, List.length_append] at this ⊢
    omega
theorem mem_of_mget {V : Type} {t : ByteArray} {v : V} {P : List (ByteArray × V)} (h : mget t P = some v) : t ∈ P.map (·.1) := by
  refine Classical.byContradiction fun q => ?_
  have : mget t P = none := mget_none.2 fun x hx e => q (by rw [← e]; exact List.mem_map_of_mem hx)
  rw [h] at this; cases this
theorem Tie.len {c : CS} {P : List PV} {p : Pu} (h : Tie c P p) : c.T.length + c.K.length ≤ P.length := by
  have h1 := nodup_leB (keysS c) (P.map (·.1)) h.g.ns (fun t ht => by
    obtain ⟨y, rfl, hy⟩ := h.g.s t ht
    cases hv : mget y c.V with
    | none => exact absurd hv hy
    | some v =>
      obtain ⟨hr, _⟩ := h.g.v y v hv
      exact mem_of_mget ((h.pv y hr).trans hv))
  unfold keysS at h1
  simpa using h1

structure Bnd (c : CS) : Prop where
  t1 : 1 ≤ c.ttl
  t2 : c.ttl ≤ 549755813888
  m : c.mo ≤ c.al
  k0 : 0 ≤ c.kp
  ka : c.kp ≤ c.al
theorem Bnd.of {c d : CS} (h : Bnd c) (h1 : d.al = c.al) (h2 : d.kp = c.kp) (h3 : d.mo = c.mo) (h4 : d.ttl = c.ttl) : Bnd d := by
  obtain ⟨a1, a2, a3, a4, a5⟩ := h
  exact ⟨by rw [h4]; exact a1, by rw [h4]; exact a2, by rw [h3, h1]; exact a3, by rw [h2]; exact a4, by rw [h2, h1]; exact a5⟩
theorem Bnd.drops {c : CS} (h : Bnd c) {ys : List Ky} (hn : (c.V.map (·.1)).Nodup) : Bnd (cdrops ys c) := by
  obtain ⟨f1, _, _, _, _, _, f7, f8, f9⟩ := cdrops_facts ys c hn
  exact h.of f7 f8 f9 f1

/-- A cache and the document's, and what ties them. -/
structure Two (c : CS) (P : List PV) (p : Pu) (n : Nat) : Prop where
  t : Tie c P p
  b : Bnd c
  l : P.length ≤ n
  n : n ≤ 100
def shortK (y : Ky) : Prop := y.db.size + y.ro.size + y.nm.size ≤ 500
theorem shortK.tiny {y : Ky} (h : shortK y) : tiny y := by unfold shortK at h; unfold Proofs.Ytlilogcojeoelaa.tiny; omega

def PutP (k : Env) (b n : Nat) (c c' : CS) (y : Ky) (v : ByteArray) (now er : Int) (ys : List Ky) : Prop := ∀ w R, Sat k w (CacheR b c n * R) →
  Calls Try.prog 18 #[pq b, kyV y, .string v, .int .i64 now] w fun e w' => ∃ v', e = .returned (.tuple #[v', .int .i64 er]) ∧ Sat k w' (Kys v' ys * (CacheR b c' (n + 1) * R))
def PutD (k : Env) (r : Nat) (d d' : DS) (y : Ky) (v : ByteArray) (now er : Int) (ys : List Ky) : Prop := ∀ w R, Sat k w (DocR r d * R) →
  Calls Try.prog 22 #[pq r, kyV y, .string v, .int .i64 now] w fun e w' => ∃ v', e = .returned (.tuple #[v', .int .i64 er]) ∧ Sat k w' (KysR v' ys * (DocR r d' * R))
theorem put_both {k : Env} {w : World} {R : Assn} {b n : Nat} (r : Nat) {c : CS} {P : List PV} {p : Pu} (H : Two c P p n) {y : Ky} {v : ByteArray} (now : Int) (hs : shortK y) (hv : v.size ≤ 500) (hn : n < 100) (h : Sat k w (CacheR b c n * R)) :
    ∃ er ys c' P' p', Two c' P' p' (n + 1) ∧ ys.length ≤ n ∧ PutP k b n c c' y v now er ys ∧ PutD k r (docOf c P) (docOf c' P') y v now er ys := by
  obtain ⟨ht, hb, hP, _⟩ := H
  have hty := hs.tiny
  by_cases ha : rightK y = false ∨ now < 0 ∨ 549755813888 < now
  · refine ⟨1, [], c, P, p, ⟨ht, hb, by omega, by omega⟩, Nat.zero_le _, fun w R h => ?_, fun w R h => ?_⟩
    · exact (cput_arg k w R b n c y v now hty ha h).mono fun e w' ⟨he, h'⟩ => ⟨_, he, rec_nil (ca_more h')⟩
    · exact (rdput_arg k w R r _ y v now hty (by omega) ha h).mono fun e w' ⟨he, h'⟩ => ⟨_, he, rec_nil h'⟩
  · have h1 : rightK y = true := by
      cases hr : rightK y with
      | true => rfl
      | false => exact absurd (.inl hr) ha
    have h2 : ¬ now < 0 := fun q => ha (.inr (.inl q))
    have h3 : ¬ 549755813888 < now := fun q => ha (.inr (.inr q))
    have hz := sizeK_pos (v := v) h1
    by_cases hbg : c.mo < sizeK y v
    · have hpe : putE (docOf c P).mo (sizeK y v) = 2 := by
        show putE c.mo (sizeK y v) = 2
        unfold putE; rw [if_neg (by omega), if_pos hbg]
      refine ⟨2, [], c, P, p, ⟨ht, hb, by omega, by omega⟩, Nat.zero_le _, fun w R h => ?_, fun w R h => ?_⟩
      · exact (cput_big k w R b n c y v now h1 hty (by omega) h2 h3 hbg h).mono fun e w' ⟨he, h'⟩ => ⟨_, he, rec_nil (ca_more h')⟩
      · have := rdput_err k w R r (docOf c P) y v now hty (by omega) h1 h2 h3 (.inr hbg) (by rw [hpe]; decide) h
        rw [hpe] at this
        exact this.mono fun e w' ⟨he, h'⟩ => ⟨_, he, rec_nil h'⟩
    · obtain ⟨ys, hgo, hys⟩ := gone_keys ht.g y v
      obtain ⟨s1, s2, s3, s4, s5, s6, s7, s8, s9⟩ := ca_store h
      have hlL := ca_len h
      have hl := ht.len
      have hsub := fun x => mem_keys_room (al := c.al) (a := textK y) (size := sizeK y v) ht.g.ns (x := x)
      have hlen : (roomR c.al (textK y) (sizeK y v) c.T c.K).1.length + (roomR c.al (textK y) (sizeK y v) c.T c.K).2.1.length + (cgone c y v).length ≤ n := by
        have hp := (roomV_perm c.al (sizeK y v) ((dropV (textK y) c.T).length + (dropV (textK y) c.K).length) (dropV (textK y) c.T) (dropV (textK y) c.K)).length_eq
        have e3 : (dropV (textK y) c.T).length ≤ c.T.length := List.length_filter_le _ _
        have e4 : (dropV (textK y) c.K).length ≤ c.K.length := List.length_filter_le _ _
        simp only [List.length_append, List.length_map] at hp
        unfold cgone roomR
        omega
      have hyl : ys.length = (cgone c y v).length := by rw [hgo, List.length_map]
      have hnv : ((cputS c y v now).V.map (·.1)).Nodup := mput_nodup y v c.V ht.g.nv
      have htk := textK_short hs
      have hd1 := dropPs_len (ys.map textK) (dropP (textK y) P ++ [(textK y, v)])
      have hd2 := dropP_len (textK y) P
      rw [List.length_append, List.length_singleton] at hd1
      refine ⟨0, ys, cdrops ys (cputS c y v now), dropPs (ys.map textK) (dropP (textK y) P ++ [(textK y, v)]), p ++ [(y, v, now)], ⟨ht.put h1 hty (by omega) hgo hys, (hb.of (d := cputS c y v now) rfl rfl rfl rfl).drops hnv, by omega, by omega⟩, by omega, fun w R h => ?_, fun w R h => ?_⟩
      · exact cput_ok k w R b n c y v now ys h1 hty (by omega) h2 h3 (by omega) hb.t1 hb.t2 (by omega) hgo hys (by omega) h
      · have e1 : (roomR (docOf c P).al (textK y) (sizeK y v) (docOf c P).T (docOf c P).K).2.2 = ys.map textK := hgo
        have e0 : (roomR c.al (textK y) (sizeK y v) c.T c.K).2.2.length ≤ n := by
          have : (roomR c.al (textK y) (sizeK y v) c.T c.K).2.2 = cgone c y v := rfl
          rw [this]; omega
        have := rdput_ok k w R r (docOf c P) y v now hty (by omega) h1 h2 h3 hb.t1 hb.t2 hz (by show sizeK y v ≤ c.mo; omega) hb.m s6 s1 s2 s3 s4 (by show (c.L.length : Int) ≤ _; omega) (by show (P.length : Int) ≤ _; omega)
          (fun s hs => ht.sz s ((hsub s).2 hs).1) (by show ((roomR c.al (textK y) (sizeK y v) c.T c.K).2.2.length : Int) ≤ _; omega)
          (by show (((textK y, sizeK y v) :: (roomR c.al (textK y) (sizeK y v) c.T c.K).1).length : Int) + (roomR c.al (textK y) (sizeK y v) c.T c.K).2.1.length ≤ _; rw [List.length_cons]; omega) h
        rw [e1, resP_all fun x hx => (hys x hx).1, doc_put, doc_drops] at this
        exact this

def GetP (k : Env) (b n : Nat) (c c' : CS) (y : Ky) (now : Int) (v : ByteArray) (is : Bool) : Prop := ∀ w R, Sat k w (CacheR b c n * R) →
  Calls Try.prog 19 #[pq b, kyV y, .int .i64 now] w fun e w' => e = .returned (.tuple #[.string v, .bool is]) ∧ Sat k w' (CacheR b c' n * R)
def GetD (k : Env) (r : Nat) (d d' : DS) (y : Ky) (now : Int) (v : ByteArray) (is : Bool) : Prop := ∀ w R, Sat k w (DocR r d * R) →
  Calls Try.prog 24 #[pq r, kyV y, .int .i64 now] w fun e w' => e = .returned (.tuple #[.string v, .bool is]) ∧ Sat k w' (DocR r d' * R)
theorem get_both {k : Env} {w : World} {R : Assn} {b n : Nat} (r : Nat) {c : CS} {P : List PV} {p : Pu} (H : Two c P p n) {y : Ky} (now : Int) (hs : shortK y) (h : Sat k w (CacheR b c n * R)) :
    ∃ v is c' P' p', Two c' P' p' n ∧ GetP k b n c c' y now v is ∧ GetD k r (docOf c P) (docOf c' P') y now v is := by
  obtain ⟨ht, hb, hP, hn⟩ := H
  have hty := hs.tiny
  obtain ⟨s1, s2, s3, s4, s5, s6, s7, s8, s9⟩ := ca_store h
  have hlL := ca_len h
  have hl := ht.len
  cases hv : mget y c.V with
  | none =>
    refine ⟨⟨#[]⟩, false, c, P, p, ⟨ht, hb, hP, hn⟩, fun w R h => cget_none k w R b n c y now hv h, fun w R h => ?_⟩
    cases hq : mget (textK y) c.L with
    | none => exact rdget_none k w R r (docOf c P) y now hty hq h
    | some t =>
      refine rdget_wrong k w R r (docOf c P) y now t hty hq ?_ h
      cases hr : rightK y with
      | false => rfl
      | true =>
        obtain ⟨x, hx, he⟩ := List.mem_map.1 (mem_of_mget hq)
        obtain ⟨z, hz1, hz2⟩ := ht.g.s _ (ht.lk x hx)
        cases hzv : mget z c.V with
        | none => exact absurd hzv hz2
        | some u =>
          obtain ⟨q1, _⟩ := ht.g.v z u hzv
          have := textK_inj q1 hr (hz1.trans he)
          subst this
          rw [hv] at hzv; cases hzv
  | some v =>
    obtain ⟨h1, h2, h3, n0, h4, h5⟩ := ht.g.v y v hv
    by_cases hle : n0 + c.ttl ≤ now
    · refine ⟨⟨#[]⟩, false, cdrop c y, dropP (textK y) P, p, ⟨ht.drop h1, hb.of rfl rfl rfl rfl, Nat.le_trans (dropP_len _ _) hP, hn⟩, fun w R h => cget_late k w R b n c y now _ v h1 h2 (by omega) hv h5 hle h, fun w R h => ?_⟩
      exact rdget_late k w R r (docOf c P) y now _ hty h5 h1 hle (by show (c.L.length : Int) ≤ _; omega) (by show (P.length : Int) ≤ _; omega) (by show (c.T.length : Int) + c.K.length ≤ _; omega) h
    · obtain ⟨sz, hsz⟩ : ∃ sz, mget (textK y) (c.T ++ c.K) = some sz := Option.isSome_iff_exists.1 (mget_isSome.2 h3)
      refine ⟨v, true, ctouch c y sz, P, p, ⟨ht.touch h3, hb.of rfl rfl rfl rfl, hP, hn⟩, fun w R h => cget_some k w R b n c y now _ sz v h1 h2 hv h5 hle hsz h, fun w R h => ?_⟩
      refine rdget_some k w R r (docOf c P) y now _ sz v hty h5 h1 hle ((ht.pv y h1).trans hv) (by show (P.length : Int) ≤ _; omega) (fun sb w' R' h' => ?_) h
      by_cases hks : c.kp < sz
      · exact (rtouch_t k w' R' sb c.al c.kp c.mo c.T c.K (textK y) sz s6 s2 s3 s4 s5 hsz hks h').mono fun e w'' ⟨v, he, h''⟩ => ⟨v, he, h''.drop⟩
      · refine (rtouch_k k w' R' sb c.al c.kp c.mo c.T c.K (textK y) sz s6 hb.k0 hb.ka ?_ s1 s2 s3 s4 s5 hsz hks h').mono fun e w'' ⟨v, he, h''⟩ => ⟨v, he, h''.drop⟩
        have hm := (mget_mem s1).1 hsz
        rcases List.mem_append.1 hm with hm | hm
        · exact s2 _ hm
        · exact s3 _ hm

def DropP (k : Env) (b n : Nat) (c c' : CS) (y : Ky) (is : Bool) : Prop := ∀ w R, Sat k w (CacheR b c n * R) →
  Calls Try.prog 25 #[pq b, kyV y] w fun e w' => e = .returned (.bool is) ∧ Sat k w' (CacheR b c' n * R)
def DropD (k : Env) (r : Nat) (d d' : DS) (y : Ky) (is : Bool) : Prop := ∀ w R, Sat k w (DocR r d * R) →
  Calls Try.prog 26 #[pq r, kyV y] w fun e w' => e = .returned (.bool is) ∧ Sat k w' (DocR r d' * R)
theorem drop_both {k : Env} {w : World} {R : Assn} {b n : Nat} (r : Nat) {c : CS} {P : List PV} {p : Pu} (H : Two c P p n) {y : Ky} (hs : shortK y) (h : Sat k w (CacheR b c n * R)) :
    ∃ is c' P' p', Two c' P' p' n ∧ DropP k b n c c' y is ∧ DropD k r (docOf c P) (docOf c' P') y is := by
  obtain ⟨ht, hb, hP, hn⟩ := H
  have hty := hs.tiny
  have hlL := ca_len h
  have hl := ht.len
  have HD := fun w R h => rddrop_any k w R r (docOf c P) y hty (by show (c.L.length : Int) ≤ _; omega) (by show (P.length : Int) ≤ _; omega) (by show (c.T.length : Int) + c.K.length ≤ _; omega) h
  cases hv : mget y c.V with
  | some v =>
    obtain ⟨h1, h2, h3, n0, h4, h5⟩ := ht.g.v y v hv
    refine ⟨true, cdrop c y, dropP (textK y) P, p, ⟨ht.drop h1, hb.of rfl rfl rfl rfl, Nat.le_trans (dropP_len _ _) hP, hn⟩, fun w R h => cdrop_some k w R b n c y v h1 hty (by omega) hv h, fun w R h => ?_⟩
    have := HD w R h
    have e1 : (mget (textK y) ((docOf c P).T ++ (docOf c P).K)).isSome = true := mget_isSome.2 h3
    rw [e1, h1, if_pos rfl] at this
    exact this
  | none =>
    cases hr : rightK y with
    | false =>
      refine ⟨false, c, P, p, ⟨ht, hb, hP, hn⟩, fun w R h => cdrop_none k w R b n c y hv h, fun w R h => ?_⟩
      have := HD w R h
      rw [hr, if_neg (by decide)] at this
      exact this
    | true =>
      have hno : textK y ∉ keysS c := by
        intro q
        obtain ⟨z, hz1, hz2⟩ := ht.g.s _ q
        cases hzv : mget z c.V with
        | none => exact absurd hzv hz2
        | some u =>
          obtain ⟨q1, _⟩ := ht.g.v z u hzv
          have := textK_inj q1 hr hz1
          subst this
          rw [hv] at hzv; cases hzv
      have hnT : ∀ x ∈ c.T, x.1 ≠ textK y := fun x hx e => hno (keysS_of.2 (.inl (e ▸ List.mem_map_of_mem hx)))
      have hnK : ∀ x ∈ c.K, x.1 ≠ textK y := fun x hx e => hno (keysS_of.2 (.inr (e ▸ List.mem_map_of_mem hx)))
      have hnL : ∀ x ∈ c.L, x.1 ≠ textK y := fun x hx e => hno (e ▸ ht.lk x hx)
      have e5 : dgone (docOf c P) (textK y) = docOf c (dropP (textK y) P) := by
        show DS.mk c.al c.kp c.mo c.ttl (dropV (textK y) c.T) (dropV (textK y) c.K) (dropV (textK y) c.L) (dropP (textK y) P) = _
        rw [dropV_same hnT, dropV_same hnK, dropV_same hnL]; rfl
      refine ⟨false, c, dropP (textK y) P, p, ⟨⟨ht.g, ht.lk, fun z hz => ?_, ht.sz⟩, hb, Nat.le_trans (dropP_len _ _) hP, hn⟩, fun w R h => cdrop_none k w R b n c y hv h, fun w R h => ?_⟩
      · unfold dropP
        rw [mget_filter, ht.pv z hz]
        split
        · rename_i e
          have := textK_inj hr hz e
          subst this
          exact hv.symm
        · rfl
      · have := HD w R h
        have e1 : (mget (textK y) ((docOf c P).T ++ (docOf c P).K)).isSome = false := by
          cases hq : (mget (textK y) ((docOf c P).T ++ (docOf c P).K)).isSome with
          | false => rfl
          | true => exact absurd (mget_isSome.1 hq) hno
        rw [e1, hr, if_pos rfl, e5] at this
        exact this

def TickP (k : Env) (b n : Nat) (c c' : CS) (now : Int) (ys : List Ky) : Prop := ∀ w R, Sat k w (CacheR b c n * R) →
  Calls Try.prog 27 #[pq b, .int .i64 now] w fun e w' => ∃ v, e = .returned v ∧ Sat k w' (Kys v ys * (CacheR b c' n * R))
def TickD (k : Env) (r : Nat) (d d' : DS) (now : Int) (ys : List Ky) : Prop := ∀ w R, Sat k w (DocR r d * R) →
  Calls Try.prog 28 #[pq r, .int .i64 now] w fun e w' => ∃ v, e = .returned v ∧ Sat k w' (KysR v ys * (DocR r d' * R))
theorem tick_both {k : Env} {w : World} {R : Assn} {b n : Nat} (r : Nat) {c : CS} {P : List PV} {p : Pu} (H : Two c P p n) (now : Int) (h : Sat k w (CacheR b c n * R)) :
    ∃ ys c' P' p', Two c' P' p' n ∧ ys.length ≤ n ∧ TickP k b n c c' now ys ∧ TickD k r (docOf c P) (docOf c' P') now ys := by
  obtain ⟨ht, hb, hP, hn⟩ := H
  have hlL := ca_len h
  have hl := ht.len
  obtain ⟨hd, hr⟩ := ca_sorted h now
  have hin : ∀ t ∈ qdue now c.L, t ∈ keysS c := by
    intro t hq
    unfold qdue at hq
    obtain ⟨x, hx, rfl⟩ := List.mem_map.1 hq
    exact ht.lk x ((List.takeWhile_sublist _).mem hx)
  obtain ⟨ys, hy1, hy2⟩ := ht.g.keys hin
  have hyl : ys.length ≤ n := by
    have e : (qdue now c.L).length = ys.length := by rw [hy1, List.length_map]
    have e2 : (qdue now c.L).length ≤ c.L.length := by unfold qdue; rw [List.length_map]; exact (List.takeWhile_sublist _).length_le
    omega
  refine ⟨ys, cdrops ys c, dropPs (ys.map textK) P, p, ⟨ht.drops fun y hy => (hy2 y hy).1, hb.drops ht.g.nv, Nat.le_trans (dropPs_len _ _) hP, hn⟩, hyl, fun w R h => ?_, fun w R h => ?_⟩
  · have := ctick_any k w R b n c ys now (fun y hy => ⟨(hy2 y hy).1, (hy2 y hy).2.1⟩) hy1 (by omega) (by omega) h
    rw [cdrops_tick hy1] at this
    exact this
  · have hd' : dueL (docOf c P).L now = ys.map textK := hd.trans hy1
    have hr' : restL (docOf c P).L now = qrest now c.L := hr
    have := rdtick_any k w R r (docOf c P) now (fun s hs => ht.sz s (hin s (by rw [hy1, ← hd']; exact hs))) (by show (c.L.length : Int) ≤ _; omega) (by show (P.length : Int) ≤ _; omega) (by show (c.T.length : Int) + c.K.length ≤ _; omega) h
    rw [hd', hr', resP_all fun y hy => (hy2 y hy).1] at this
    have e6 : ({ docOf c P with L := qrest now c.L } : DS) = docOf { c with L := qrest now c.L } P := rfl
    rw [e6, doc_drops, cdrops_tick hy1] at this
    exact this

def FlushP (k : Env) (b n : Nat) (c c' : CS) (z : Int) : Prop := ∀ w R, Sat k w (CacheR b c n * R) →
  Calls Try.prog 29 #[pq b] w fun e w' => e = .returned (.int .i64 z) ∧ Sat k w' (CacheR b c' n * R)
def FlushD (k : Env) (r : Nat) (d d' : DS) (z : Int) : Prop := ∀ w R, Sat k w (DocR r d * R) →
  Calls Try.prog 30 #[pq r] w fun e w' => e = .returned (.int .i64 z) ∧ Sat k w' (DocR r d' * R)
def KeysP (k : Env) (b n : Nat) (c : CS) (ys : List Ky) : Prop := ∀ w R, Sat k w (CacheR b c n * R) →
  Calls Try.prog 32 #[pq b] w fun e w' => ∃ v, e = .returned v ∧ Sat k w' (Kys v ys * (CacheR b c n * R))
def KeysD (k : Env) (r : Nat) (d : DS) (ys : List Ky) : Prop := ∀ w R, Sat k w (DocR r d * R) →
  Calls Try.prog 33 #[pq r] w fun e w' => ∃ v, e = .returned v ∧ Sat k w' (KysR v ys * (DocR r d * R))
def BytesP (k : Env) (b n : Nat) (c : CS) (z : Int) : Prop := ∀ w R, Sat k w (CacheR b c n * R) →
  Calls Try.prog 20 #[pq b] w fun e w' => e = .returned (.int .i64 z) ∧ Sat k w' (CacheR b c n * R)
def BytesD (k : Env) (r : Nat) (d : DS) (z : Int) : Prop := ∀ w R, Sat k w (DocR r d * R) →
  Calls Try.prog 34 #[pq r] w fun e w' => e = .returned (.int .i64 z) ∧ Sat k w' (DocR r d * R)
/-- The keys of both segments. -/
theorem Two.ks {c : CS} {P : List PV} {p : Pu} {n : Nat} (H : Two c P p n) : ∃ yk yt : List Ky, (c.K.map (·.1) = yk.map textK ∧ c.T.map (·.1) = yt.map textK) ∧ (yk ++ yt).length ≤ n ∧ (∀ y ∈ yk, rightK y = true ∧ tiny y ∧ mget y c.V ≠ none) ∧ (∀ y ∈ yt, rightK y = true ∧ tiny y ∧ mget y c.V ≠ none) := by
  obtain ⟨ht, hb, hP, hn⟩ := H
  have hl := ht.len
  obtain ⟨yk, hk1, hk2⟩ := ht.g.keys (l := c.K.map (·.1)) fun t q => keysS_of.2 (.inr q)
  obtain ⟨yt, ht1, ht2⟩ := ht.g.keys (l := c.T.map (·.1)) fun t q => keysS_of.2 (.inl q)
  have e1 := congrArg List.length hk1
  have e2 := congrArg List.length ht1
  simp only [List.length_map] at e1 e2
  exact ⟨yk, yt, ⟨hk1, ht1⟩, by rw [List.length_append]; omega, hk2, ht2⟩
theorem flush_both {k : Env} {w : World} {R : Assn} {b n : Nat} (r : Nat) {c : CS} {P : List PV} {p : Pu} (H : Two c P p n) (h : Sat k w (CacheR b c n * R)) :
    ∃ z c' P' p', Two c' P' p' n ∧ FlushP k b n c c' z ∧ FlushD k r (docOf c P) (docOf c' P') z := by
  obtain ⟨yk, yt, ⟨hk1, ht1⟩, hyl, hk2, ht2⟩ := H.ks
  obtain ⟨ht, hb, hP, hn⟩ := H
  have hlL := ca_len h
  have hl := ht.len
  rw [List.length_append] at hyl
  have hall : ∀ y ∈ yk ++ yt, rightK y = true := by
    intro y hy
    rcases List.mem_append.1 hy with q | q
    · exact (hk2 y q).1
    · exact (ht2 y q).1
  refine ⟨((yk ++ yt).length : Nat), cdrops (yk ++ yt) c, dropPs ((yk ++ yt).map textK) P, p, ⟨ht.drops hall, hb.drops ht.g.nv, Nat.le_trans (dropPs_len _ _) hP, hn⟩, fun w R h => ?_, fun w R h => ?_⟩
  · have := cflush_any k w R b n c yk yt (by omega) (fun y hy => ⟨(hk2 y hy).1, (hk2 y hy).2.1⟩) (fun y hy => ⟨(ht2 y hy).1, (ht2 y hy).2.1⟩) hk1 ht1 (by omega) (by omega) h
    rw [ht.g.flush hk1 ht1 (fun y hy => (hk2 y hy).2.2) (fun y hy => (ht2 y hy).2.2)] at this
    exact this
  · have e1 : (docOf c P).K.map (·.1) ++ (docOf c P).T.map (·.1) = (yk ++ yt).map textK := by
      show c.K.map (·.1) ++ c.T.map (·.1) = _
      rw [hk1, ht1, List.map_append]
    have := rdflush_any k w R r (docOf c P) (fun s hs => ht.sz s (by rcases List.mem_append.1 hs with q | q; exact keysS_of.2 (.inr q); exact keysS_of.2 (.inl q))) (by show (c.T.length : Int) ≤ _; omega) (by show (c.K.length : Int) ≤ _; omega) (by show (c.L.length : Int) ≤ _; omega) (by show (P.length : Int) ≤ _; omega) h
    rw [e1, resP_all hall, doc_drops] at this
    exact this
theorem keys_both {k : Env} {b n : Nat} (r : Nat) {c : CS} {P : List PV} {p : Pu} (H : Two c P p n) : ∃ ys, ys.length ≤ n ∧ KeysP k b n c ys ∧ KeysD k r (docOf c P) ys := by
  obtain ⟨yk, yt, ⟨hk1, ht1⟩, hyl, hk2, ht2⟩ := H.ks
  obtain ⟨ht, hb, hP, hn⟩ := H
  have hl := ht.len
  have hyl' := hyl
  rw [List.length_append] at hyl'
  have hall : ∀ y ∈ yk ++ yt, rightK y = true := by
    intro y hy
    rcases List.mem_append.1 hy with q | q
    · exact (hk2 y q).1
    · exact (ht2 y q).1
  refine ⟨yk ++ yt, hyl, fun w R h => ?_, fun w R h => ?_⟩
  · exact ckeys_any k w R b n c yk yt (fun y hy => ⟨(hk2 y hy).1, (hk2 y hy).2.1⟩) (fun y hy => ⟨(ht2 y hy).1, (ht2 y hy).2.1⟩) hk1 ht1 (by omega) (by omega) h
  · have e1 : (docOf c P).K.map (·.1) ++ (docOf c P).T.map (·.1) = (yk ++ yt).map textK := by
      show c.K.map (·.1) ++ c.T.map (·.1) = _
      rw [hk1, ht1, List.map_append]
    have := rdkeys_any k w R r (docOf c P) (fun s hs => ht.sz s (by rcases List.mem_append.1 hs with q | q; exact keysS_of.2 (.inr q); exact keysS_of.2 (.inl q))) (by show (c.T.length : Int) ≤ _; omega) (by show (c.K.length : Int) ≤ _; omega) h
    rw [e1, resP_all hall] at this
    exact this
theorem bytes_both {k : Env} {w : World} {R : Assn} {b n : Nat} (r : Nat) {c : CS} (P : List PV) (h : Sat k w (CacheR b c n * R)) : ∃ z, BytesP k b n c z ∧ BytesD k r (docOf c P) z := by
  obtain ⟨s1, s2, s3, s4, s5, s6, s7, s8, s9⟩ := ca_store h
  refine ⟨sumV c.K + sumV c.T, fun w R h => ?_, fun w R h => ?_⟩
  · exact cbytes_any k w R b n c (by omega) h
  · exact rbytes_any k w R r (docOf c P) s2 s3 (by show sumV c.T ≤ _; omega) (by show sumV c.K ≤ _; omega) s8 s9 h

end Go.Proofs.Ytlilogcojeoelaa
