/- The law FillAll, walked. -/
import Derived.Test.YtbeidnddahglbaaFillK
import Derived.Test.YtbeidnddahglbaaCacheP
import Derived.Deep.CutBlock
import Derived.Deep.DeepCutAuto
namespace Go.Proofs.Ytbeidnddahglbaa
set_option linter.all false
open Go Go.RowKit

def okKyc (cs : List Value) : Prop := ∃ z : Ky, cs = kyc z ∧ okKy z
theorem openKeyS {H : Type} {enc : TypeId × Value → H} {W : World} {a : Option Addr} {len cap : Nat} {d : DataW H} {p : List MemPlace} {held : Bool} (hw : okWt Try.prog 46 d)
    (h : DataW.Trod enc Try.prog W 0 (fun _ => true) held 46 (.slice a len cap) d p) : ∃ xs, IsRecs W a len cap 4 okKyc xs :=
  isRecs_openW Try.underlying46 (by kernel_rfl) (fun fuel cs x hx hwx => openKy hx hwx) hw h

/-- What holds of all that is kept, while nothing changes. -/
structure AllI (c : CS) (S : List (Ky × StM)) (A : Ky → Prop) : Prop where
  good : ∃ p, Good c p
  par : c.al = 4000 ∧ c.kp = 1000 ∧ c.mo = 1000 ∧ c.ttl = 99
  nd : (S.map (·.1)).Nodup
  mt : ∀ z, mget z c.V = none ↔ mget z S = none
  st : ∀ z s, mget z S = some s → s.ep = 0 ∧ s.names = [] ∧ s.nums = [] ∧ A z

theorem mdels_get (ys : List Ky) (S : List (Ky × StM)) (hn : (S.map (·.1)).Nodup) : ((mdels ys S).map (·.1)).Nodup ∧ ∀ z, mget z (mdels ys S) = if z ∈ ys then none else mget z S := by
  induction ys generalizing S with
  | nil => exact ⟨hn, fun z => by simp [mdels]⟩
  | cons y r ih =>
    obtain ⟨h1, h2⟩ := ih (mdel y S) (mdel_nodup y S hn)
    refine ⟨h1, fun z => ?_⟩
    show mget z (mdels r (mdel y S)) = _
    rw [h2, mget_del _ _ _ hn]
    by_cases e1 : z ∈ r
    · simp [e1]
    · by_cases e2 : y = z
      · subst e2; simp
      · have : ¬ z = y := fun q => e2 q.symm
        simp [e1, e2, this]
theorem gone_not {c : CS} {p : Pu} (h : Good c p) {y : Ky} {v : ByteArray} {ys : List Ky} (hg : cgone c y v = ys.map textK) : y ∉ ys := by
  intro q
  have : textK y ∈ cgone c y v := by rw [hg]; exact List.mem_map_of_mem q
  exact ((mem_keys_room h.ns).2 this).2 rfl
theorem gone_len {c : CS} {y : Ky} {v : ByteArray} {ys : List Ky} (hg : cgone c y v = ys.map textK) : ys.length ≤ c.T.length + c.K.length := by
  have e1 : ys.length = (cgone c y v).length := by rw [hg, List.length_map]
  have e2 : (cgone c y v).length ≤ (dropV (textK y) c.T).length + (dropV (textK y) c.K).length := (roomV_sub _ _ _ _ _).2.2
  have e3 : (dropV (textK y) c.T).length ≤ c.T.length := List.length_filter_le _ _
  have e4 : (dropV (textK y) c.K).length ≤ c.K.length := List.length_filter_le _ _
  omega

theorem AllI.put {c : CS} {S : List (Ky × StM)} {A : Ky → Prop} (h : AllI c S A) {y : Ky} {v : ByteArray} {now : Int} {ys : List Ky} {s : StM} (hy1 : rightK y = true) (hy2 : tiny y) (hg : cgone c y v = ys.map textK) (hys : ∀ x ∈ ys, rightK x = true ∧ tiny x) (h1 : s.ep = 0) (h2 : s.names = []) (h3 : s.nums = []) :
    AllI (cdrops ys (cputS c y v now)) (mput y s (mdels ys S)) (fun z => A z ∨ z = y) := by
  obtain ⟨p, hp⟩ := h.good
  have hnv : ((cputS c y v now).V.map (·.1)).Nodup := mput_nodup y v c.V hp.nv
  obtain ⟨f1, f2, f3, f4, f5, f6, f7, f8, f9⟩ := cdrops_facts ys (cputS c y v now) hnv
  obtain ⟨m1, m2⟩ := mdels_get ys S h.nd
  have hny := gone_not hp hg
  obtain ⟨a1, a2, a3, a4⟩ := h.par
  refine ⟨⟨_, hp.put (now := now) hy1 hy2 hg hys⟩, ⟨by rw [f7]; exact a1, by rw [f8]; exact a2, by rw [f9]; exact a3, by rw [f1]; exact a4⟩, mput_nodup _ _ _ m1, fun z => ?_, fun z s' hz => ?_⟩
  · rw [f4, mget_put, m2]
    show (if z ∈ ys then none else mget z (mput y v c.V)) = none ↔ _
    rw [mget_put]
    by_cases e : y = z
    · subst e; simp [hny]
    · rw [if_neg e, if_neg e]
      by_cases e2 : z ∈ ys
      · simp [e2]
      · rw [if_neg e2, if_neg e2]; exact h.mt z
  · rw [mget_put, m2] at hz
    by_cases e : y = z
    · rw [if_pos e] at hz
      cases hz
      exact ⟨h1, h2, h3, .inr e.symm⟩
    · rw [if_neg e] at hz
      split at hz
      · cases hz
      · obtain ⟨q1, q2, q3, q4⟩ := h.st z s' hz
        exact ⟨q1, q2, q3, .inl q4⟩
theorem AllI.mono {c : CS} {S : List (Ky × StM)} {A B : Ky → Prop} (h : AllI c S A) (hm : ∀ z, A z → B z) : AllI c S B :=
  ⟨h.good, h.par, h.nd, h.mt, fun z s hz => by obtain ⟨q1, q2, q3, q4⟩ := h.st z s hz; exact ⟨q1, q2, q3, hm z q4⟩⟩
theorem AllI.drop {c : CS} {S : List (Ky × StM)} {A : Ky → Prop} (h : AllI c S A) {y : Ky} (hy : rightK y = true) : AllI (cdrop c y) (mdel y S) (fun z => A z ∧ z ≠ y) := by
  obtain ⟨p, hp⟩ := h.good
  refine ⟨⟨_, hp.drop hy⟩, h.par, mdel_nodup _ _ h.nd, fun z => ?_, fun z s hz => ?_⟩
  · show mget z (mdel y c.V) = none ↔ _
    rw [mget_del _ _ _ hp.nv, mget_del _ _ _ h.nd]
    by_cases e : y = z
    · simp [e]
    · rw [if_neg e, if_neg e]; exact h.mt z
  · rw [mget_del _ _ _ h.nd] at hz
    split at hz
    · cases hz
    · rename_i e
      obtain ⟨q1, q2, q3, q4⟩ := h.st z s hz
      exact ⟨q1, q2, q3, q4, fun q => e q.symm⟩
theorem AllI.not {c : CS} {S : List (Ky × StM)} {A : Ky → Prop} (h : AllI c S A) {y : Ky} (hy : mget y S = none) : AllI c S (fun z => A z ∧ z ≠ y) :=
  ⟨h.good, h.par, h.nd, h.mt, fun z s hz => by
    obtain ⟨q1, q2, q3, q4⟩ := h.st z s hz
    exact ⟨q1, q2, q3, q4, fun q => by rw [q, hy] at hz; cases hz⟩⟩
theorem AllI.empty {c : CS} {S : List (Ky × StM)} {A : Ky → Prop} (h : AllI c S A) (hA : ∀ z, ¬ A z) : c.T = [] ∧ c.K = [] := by
  obtain ⟨p, hp⟩ := h.good
  have hS : ∀ z, mget z S = none := by
    intro z
    cases hz : mget z S with
    | none => rfl
    | some s => exact absurd (h.st z s hz).2.2.2 (hA z)
  have hk : keysS c = [] := by
    cases hq : keysS c with
    | nil => rfl
    | cons t r =>
      obtain ⟨y, _, hy⟩ := hp.s t (by rw [hq]; simp)
      exact absurd ((h.mt y).2 (hS y)) hy
  unfold keysS at hk
  rw [List.map_eq_nil_iff, List.append_eq_nil_iff] at hk
  exact hk

def FA (b n nv : Nat) (V : VS) (A : Ky → Prop) : Assn := ex fun p : CS × List (Ky × StM) => pur (AllI p.1 p.2 A) * FillR b p.1 n nv V p.2
section
variable {k : Env} {w : World} {R : Assn} {b n nv : Nat} {V : VS} {A : Ky → Prop}
theorem fa_open (h : Sat k w (FA b n nv V A * R)) : ∃ c S, AllI c S A ∧ Sat k w (FillR b c n nv V S * R) := by
  obtain ⟨⟨c, S⟩, h⟩ := Sat.ex.1 h
  rw [star_assoc] at h
  obtain ⟨h1, h⟩ := Sat.pure.1 h
  exact ⟨c, S, h1, h⟩
theorem fa_close {c : CS} {S : List (Ky × StM)} (h : Sat k w (FillR b c n nv V S * R)) (h1 : AllI c S A) : Sat k w (FA b n nv V A * R) :=
  Sat.ex.2 ⟨(c, S), by rw [star_assoc]; exact Sat.pure.2 ⟨h1, h⟩⟩
theorem fi_facts {c : CS} {S : List (Ky × StM)} (h : Sat k w (FillR b c n nv V S * R)) : c.al ≤ 1073741824 ∧ (c.T.length : Int) + c.K.length ≤ c.al ∧ 0 ≤ sumV c.T ∧ 0 ≤ sumV c.K ∧ sumV c.T + sumV c.K ≤ c.al := by
  obtain ⟨cb, vb, m, hs⟩ := fi_open h
  obtain ⟨q1, q2, q3, q4, q5⟩ := ca_facts hs.swap
  exact ⟨q2, q5, q3, q4, q1⟩
end

theorem freshNil (V : VS) : freshV V V.ep [] [] := ⟨rfl, rfl⟩
theorem busyNil (V : VS) : ¬ busyV V [] := by rintro ⟨s, hs, _⟩; cases hs
theorem sizeK_le {y : Ky} {v : ByteArray} (h : rightK y = true) : sizeK y v = 16 + (y.db.size + y.ro.size + y.nm.size + 5) + v.size := by
  unfold sizeK
  rw [if_pos h]
  have : (textK y).size = y.db.size + y.ro.size + y.nm.size + 5 := by
    unfold textK
    rw [if_pos h]
    simp only [ByteArray.size_append]
    have h1 : zb.size = 1 := rfl
    have h2 : (bin2 y.fm).size = 2 := rfl
    omega
  omega

section
variable (k : Env) (w : World) (R : Assn) (b n nv : Nat) (A : Ky → Prop)
theorem fa_fill (y : Ky) (ep : Int) (a i : Option Addr) (ac ic : Nat) (names : List ByteArray) (nums : List Int) (he : ep = 0) (hn : names = []) (hm : nums = []) (hy2 : y.db.size + y.ro.size + y.nm.size ≤ 60) (hnn : n + 1 ≤ 1000) (h : Sat k w (FA b n nv VS.new A * R)) :
    Calls Try.prog 9 #[pq b, kyV y, .string ⟨#[118]⟩, .agg #[.int .i64 ep, .slice a names.length ac, .slice i nums.length ic], .int .i64 1] w fun e w' => ∃ t er, e = .returned (.tuple #[.bool t, .int .i64 er]) ∧ Sat k w' (FA b (n + 1) nv VS.new (fun z => A z ∨ z = y) * R) := by
  obtain ⟨c, S, h1, h2⟩ := fa_open h
  subst he hn hm
  have ht : tiny y := by unfold tiny; omega
  obtain ⟨p, hp⟩ := h1.good
  obtain ⟨a1, a2, a3, a4⟩ := h1.par
  obtain ⟨q1, q2, q3, q4, q5⟩ := fi_facts h2
  cases hr : rightK y with
  | false =>
    exact (ffill_err k w R b n n nv c c VS.new S y _ 1 _ 0 a i ac ic [] [] (rd_nil _ _ _) (rdi_nil _ _ _) (by simp) (by simp) ⟨fun _ => freshNil VS.new, fun _ => rfl⟩ ⟨fun q => (by cases q), fun q => absurd q (busyNil _)⟩
      (fun cb w' R' h' => cput_arg k w' R' cb n c y _ 1 ht (.inl hr) h') (by decide) h2).mono fun e w' ⟨p, q⟩ => ⟨_, _, p, fa_close (fi_more q (Nat.le_succ n)) (h1.mono fun z hz => .inl hz)⟩
  | true =>
    obtain ⟨ys, hg, hys⟩ := gone_keys hp y ⟨#[118]⟩
    have hl := gone_len hg
    have hs := sizeK_le (v := ⟨#[118]⟩) hr
    have hs1 : (⟨#[118]⟩ : ByteArray).size = 1 := rfl
    exact (ffill_ok k w R b n (n + 1) nv c (cdrops ys (cputS c y ⟨#[118]⟩ 1)) VS.new S y ⟨#[118]⟩ 1 ys 0 a i ac ic [] [] (rd_nil _ _ _) (rdi_nil _ _ _) (by simp) (by simp) ⟨fun _ => freshNil VS.new, fun _ => rfl⟩ ⟨fun q => (by cases q), fun q => absurd q (busyNil _)⟩ (by omega)
      (fun cb w' R' h' => cput_ok k w' R' cb n c y ⟨#[118]⟩ 1 ys hr ht (by decide) (by omega) (by omega) (by rw [hs, a3, hs1]; omega) (by rw [a4]; decide) (by rw [a4]; decide) (by omega) hg hys (by omega) h') h2).mono fun e w' ⟨p, s, p1, p2, p3, q⟩ => ⟨_, _, p, fa_close q (h1.put hr ht hg hys p1 p2 p3)⟩
theorem fa_look (y : Ky) (hn : n ≤ 1000000000) (h : Sat k w (FA b n nv VS.new.all A * R)) :
    Calls Try.prog 11 #[pq b, kyV y, .int .i64 2] w fun e w' => e = .returned (.tuple #[.string ⟨#[]⟩, .bool false]) ∧ Sat k w' (FA b n nv VS.new.all (fun z => A z ∧ z ≠ y) * R) := by
  obtain ⟨c, S, h1, h2⟩ := fa_open h
  cases hy : mget y S with
  | none => exact (flook_none k w R b n nv c _ S y 2 hy h2).mono fun e w' ⟨p, q⟩ => ⟨p, fa_close q (h1.not hy)⟩
  | some s =>
    obtain ⟨s1, s2, s3, s4⟩ := h1.st y s hy
    obtain ⟨ep, a, ac, names, i, ic, nums⟩ := s
    simp only at s1 s2 s3
    subst s1 s2 s3
    obtain ⟨p, hp⟩ := h1.good
    obtain ⟨v, hv⟩ : ∃ v, mget y c.V = some v := by
      cases hq : mget y c.V with
      | none => rw [(h1.mt y).1 hq] at hy; cases hy
      | some v => exact ⟨v, rfl⟩
    obtain ⟨r1, r2, _⟩ := hp.v y v hv
    exact (flook_stale k w R b n n nv c (cdrop c y) _ S y 2 0 a i ac ic [] [] hy (by simp) (by simp) false false ⟨fun q => (by cases q), fun q => absurd q.1 (by decide)⟩ ⟨fun q => (by cases q), fun q => absurd q (busyNil _)⟩ rfl
      (fun cb w' R' h' => (cdrop_some k w' R' cb n c y v r1 r2 hn hv h').mono fun e w'' ⟨p, q⟩ => ⟨_, p, q⟩) h2).mono fun e w' ⟨p, q⟩ => ⟨p, fa_close q (h1.drop r1)⟩
theorem fa_size (hA : ∀ z, ¬ A z) (V : VS) (h : Sat k w (FA b n nv V A * R)) :
    Calls Try.prog 17 #[pq b] w fun e w' => e = .returned (.tuple #[.int .i64 0, .int .i64 0]) ∧ Sat k w' (FA b n nv V A * R) := by
  obtain ⟨c, S, h1, h2⟩ := fa_open h
  obtain ⟨hT, hK⟩ := h1.empty hA
  refine (fsize_any k w R b n nv c V S [] [] (by simp) (by simp) (by rw [hK]; rfl) (by rw [hT]; rfl) (by simp) (by simp) (by rw [hK, hT]; simp [sumV]) h2).mono fun e w' ⟨p, q⟩ => ⟨?_, fa_close q h1⟩
  rw [p, hK, hT]; simp [sumV]
end

end Go.Proofs.Ytbeidnddahglbaa
