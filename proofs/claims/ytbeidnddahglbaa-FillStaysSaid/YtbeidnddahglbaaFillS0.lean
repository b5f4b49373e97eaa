/- The law FillStays: what holds of the answer that is kept. -/
import Derived.Test.YtbeidnddahglbaaFillAl
namespace Go.Proofs.Ytbeidnddahglbaa
set_option linter.all false
open Go Go.RowKit

abbrev bkept : ByteArray := ⟨#[107, 101, 112, 116]⟩
abbrev kk : Ky := ⟨⟨#[100]⟩, ⟨#[]⟩, 0, bkept⟩
theorem kk_right : rightK kk = true := by decide +kernel
theorem kk_tiny : tiny kk := by unfold tiny; decide
theorem kk_v : sizeK kk bv = 27 := by decide +kernel

theorem roomV_keep (al size : Int) (n : Nat) (t k : List KV) (hk : sumV k + size ≤ al) : (roomV al size n t k).2.1 = k ∧ ∀ x ∈ (roomV al size n t k).2.2, x ∈ t.map (·.1) := by
  induction n generalizing t with
  | zero => simp [roomV]
  | succ n ih =>
    rw [roomV]
    split
    · rename_i hlt
      rcases List.eq_nil_or_concat t with rfl | ⟨t', x, rfl⟩
      · simp only [sumV] at hlt; omega
      · rw [List.concat_eq_append]
        simp only [List.getLast?_append, List.getLast?_singleton, Option.some_or, List.dropLast_concat]
        obtain ⟨h1, h2⟩ := ih t'
        refine ⟨h1, fun y hy => ?_⟩
        rcases List.mem_cons.1 hy with rfl | hy
        · simp
        · have := h2 y hy
          simp only [List.map_append, List.mem_append]
          exact .inl this
    · simp
theorem dropV_other {a : ByteArray} {l : List KV} (h : a ∉ l.map (·.1)) : dropV a l = l := by
  unfold dropV
  rw [List.filter_eq_self]
  intro x hx
  simp only [decide_eq_true_eq]
  intro e
  exact h (List.mem_map.2 ⟨x, hx, e⟩)
theorem cdrops_K (ys : List Ky) (c : CS) (h : ∀ y ∈ ys, textK y ∉ c.K.map (·.1)) : (cdrops ys c).K = c.K := by
  induction ys generalizing c with
  | nil => rfl
  | cons z r ih =>
    have hz : dropV (textK z) c.K = c.K := dropV_other (h z (by simp))
    have e : cdrops (z :: r) c = cdrops r (cdrop c z) := rfl
    have hK : (cdrop c z).K = c.K := hz
    rw [e, ih (cdrop c z) (fun y hy => by rw [hK]; exact h y (by simp [hy])), hK]

structure StayI (c : CS) (S : List (Ky × StM)) (V : VS) (two : Bool) : Prop where
  good : ∃ p, Good c p
  par : c.al = 1000 ∧ c.kp = 100 ∧ c.mo = 100 ∧ c.ttl = 1000
  nd : (S.map (·.1)).Nodup
  val : mget kk c.V = some bv
  till : mget (textK kk) c.L = some 1001
  seg : c.K = [(textK kk, 27)] ∨ (c.K = [] ∧ ((two = false ∧ c.T = [(textK kk, 27)]) ∨ (two = true ∧ mget (textK kk) c.T = some 27)))
  st : ∃ s, mget kk S = some s ∧ s.ep = V.ep ∧ s.names = [bkept] ∧ s.nums = [V.N bkept]
  ep : V.ep = 0
  dir : ∀ q, V.D bkept q = false

theorem StayI.two {c : CS} {S : List (Ky × StM)} {V : VS} {b : Bool} (h : StayI c S V b) : StayI c S V true := by
  refine ⟨h.good, h.par, h.nd, h.val, h.till, ?_, h.st, h.ep, h.dir⟩
  rcases h.seg with q | ⟨q1, ⟨_, q2⟩ | ⟨_, q2⟩⟩
  · exact .inl q
  · exact .inr ⟨q1, .inr ⟨rfl, by rw [q2]; simp [mget]⟩⟩
  · exact .inr ⟨q1, .inr ⟨rfl, q2⟩⟩
theorem StayI.sz {c : CS} {S : List (Ky × StM)} {V : VS} {b : Bool} (h : StayI c S V b) : mget (textK kk) (c.T ++ c.K) = some 27 := by
  obtain ⟨p, hp⟩ := h.good
  rw [mget_app]
  rcases h.two.seg with q | ⟨q1, ⟨q0, _⟩ | ⟨_, q2⟩⟩
  · have hn := hp.ns
    unfold keysS at hn
    rw [List.map_append, List.nodup_append] at hn
    have : mget (textK kk) c.T = none := by
      rw [mget_none]
      intro x hx e
      exact hn.2.2 (textK kk) (List.mem_map.2 ⟨x, hx, e⟩) (textK kk) (by rw [q]; simp) rfl
    rw [this, q]
    simp [mget]
  · cases q0
  · rw [q2]; rfl
theorem StayI.write {c : CS} {S : List (Ky × StM)} {V : VS} {b : Bool} (h : StayI c S V b) (cl : Int) {x : ByteArray} (hx : x ≠ bkept) : StayI c S ((V.dirty cl [x]).bump [x]) b := by
  have hm : memB bkept [x] = false := by rw [memB_not, List.mem_singleton]; exact fun e => hx e.symm
  have hN : ((V.dirty cl [x]).bump [x]).N bkept = V.N bkept := by
    show V.N bkept + (if memB bkept [x] then 1 else 0) = _
    rw [hm]; simp
  refine ⟨h.good, h.par, h.nd, h.val, h.till, h.seg, ?_, h.ep, fun q => ?_⟩
  · obtain ⟨s, s1, s2, s3, s4⟩ := h.st
    exact ⟨s, s1, s2, s3, by rw [s4, hN]⟩
  · show (V.D bkept q || (decide (q = cl) && memB bkept [x])) = false
    rw [hm, h.dir q]; simp

theorem StayI.put {c : CS} {S : List (Ky × StM)} {V : VS} (h : StayI c S V false) {y : Ky} {v : ByteArray} {now : Int} {ys : List Ky} (s : StM) (hyk : y ≠ kk) (hy1 : rightK y = true) (hy2 : tiny y) (hsz : sizeK y v ≤ 900) (hg : cgone c y v = ys.map textK) (hys : ∀ x ∈ ys, rightK x = true ∧ tiny x) :
    StayI (cdrops ys (cputS c y v now)) (mput y s (mdels ys S)) V true := by
  obtain ⟨p, hp⟩ := h.good
  have hnv : ((cputS c y v now).V.map (·.1)).Nodup := mput_nodup y v c.V hp.nv
  obtain ⟨f1, f2, f3, f4, f5, f6, f7, f8, f9⟩ := cdrops_facts ys (cputS c y v now) hnv
  obtain ⟨m1, m2⟩ := mdels_get ys S h.nd
  obtain ⟨a1, a2, a3, a4⟩ := h.par
  have hne : textK y ≠ textK kk := fun e => hyk (textK_inj hy1 kk_right e)
  have hroom : textK kk ∉ cgone c y v ∧ ((cdrops ys (cputS c y v now)).K = [(textK kk, 27)] ∨ ((cdrops ys (cputS c y v now)).K = [] ∧ mget (textK kk) (cdrops ys (cputS c y v now)).T = some 27)) := by
    rcases h.seg with q | ⟨q1, ⟨_, q2⟩ | ⟨q0, _⟩⟩
    · have hdK : dropV (textK y) c.K = c.K := dropV_other (by rw [q]; simp; exact hne)
      have hkeep := roomV_keep c.al (sizeK y v) ((dropV (textK y) c.T).length + (dropV (textK y) c.K).length) (dropV (textK y) c.T) (dropV (textK y) c.K) (by rw [hdK, q, a1]; simp only [sumV]; omega)
      have hnt : textK kk ∉ cgone c y v := by
        intro hx
        have := hkeep.2 _ hx
        have hT := (mem_dropV (a := textK y) (l := c.T)).1 this
        have hn := hp.ns
        unfold keysS at hn
        rw [List.map_append, List.nodup_append] at hn
        exact hn.2.2 (textK kk) hT.1 (textK kk) (by rw [q]; simp) rfl
      have hK : (cputS c y v now).K = [(textK kk, 27)] := by
        show (roomR c.al (textK y) (sizeK y v) c.T c.K).2.1 = _
        unfold roomR
        rw [hkeep.1, hdK, q]
      refine ⟨hnt, .inl ?_⟩
      rw [cdrops_K _ _ (fun z hz => ?_), hK]
      rw [hK]
      simp only [List.map_cons, List.map_nil, List.mem_singleton]
      intro e
      exact hnt (by rw [hg, ← e]; exact List.mem_map_of_mem hz)
    · have hdT : dropV (textK y) c.T = c.T := dropV_other (by rw [q2]; simp; exact hne)
      have hdK : dropV (textK y) c.K = [] := by rw [q1]; rfl
      have hst : roomR c.al (textK y) (sizeK y v) c.T c.K = (c.T, [], []) := by
        unfold roomR
        rw [hdT, hdK]
        exact roomV_stop _ (by rw [q2, a1]; simp only [sumV]; omega)
      have hgn : cgone c y v = [] := by unfold cgone; rw [hst]
      have hyn : ys = [] := by
        rw [hgn] at hg
        cases ys with
        | nil => rfl
        | cons a b => cases hg
      subst hyn
      refine ⟨by rw [hgn]; simp, .inr ⟨?_, ?_⟩⟩
      · show (roomR c.al (textK y) (sizeK y v) c.T c.K).2.1 = []
        rw [hst]
      · show mget (textK kk) ((textK y, sizeK y v) :: (roomR c.al (textK y) (sizeK y v) c.T c.K).1) = _
        rw [hst, mget, if_neg hne, q2]
        simp [mget]
    · cases q0
  have hkn : kk ∉ ys := fun q => hroom.1 (by rw [hg]; exact List.mem_map_of_mem q)
  refine ⟨⟨_, hp.put (now := now) hy1 hy2 hg hys⟩, ⟨by rw [f7]; exact a1, by rw [f8]; exact a2, by rw [f9]; exact a3, by rw [f1]; exact a4⟩, mput_nodup _ _ _ m1, ?_, ?_, ?_, ?_, h.ep, h.dir⟩
  · rw [f4, if_neg hkn]
    show mget kk (mput y v c.V) = _
    rw [mget_put, if_neg hyk]; exact h.val
  · rw [f6 _ (by rw [← hg]; exact hroom.1)]
    show mget (textK kk) (qset (textK y) (now + c.ttl) c.L) = _
    rw [mget_qset, if_neg hne]; exact h.till
  · rcases hroom.2 with q | ⟨q1, q2⟩
    · exact .inl q
    · exact .inr ⟨q1, .inr ⟨rfl, q2⟩⟩
  · obtain ⟨s', s1, s2, s3, s4⟩ := h.st
    exact ⟨s', by rw [mget_put, if_neg hyk, m2, if_neg hkn]; exact s1, s2, s3, s4⟩

theorem StayI.touch {c : CS} {S : List (Ky × StM)} {V : VS} {b : Bool} (h : StayI c S V b) : StayI (ctouch c kk 27) S V false := by
  obtain ⟨p, hp⟩ := h.good
  obtain ⟨a1, a2, a3, a4⟩ := h.par
  have hmem : textK kk ∈ keysS c := by
    have := h.sz
    exact mget_isSome.1 (by rw [this]; rfl)
  have hK : dropV (textK kk) c.K = [] := by
    rcases h.two.seg with q | ⟨q1, _⟩
    · rw [q]; exact dropV_self _ _
    · rw [q1]; rfl
  have ht : touchP c.kp (textK kk) 27 c.T c.K = (dropV (textK kk) c.T, [(textK kk, 27)]) := by
    unfold touchP
    rw [if_neg (by omega), hK]
  refine ⟨⟨_, hp.touch (sz := 27) hmem⟩, h.par, h.nd, h.val, h.till, .inl ?_, h.st, h.ep, h.dir⟩
  show (touchR c.kp (textK kk) 27 c.T c.K).2.1 = _
  unfold touchR
  rw [ht]
  simp only
  rw [backV_stop _ (by simp only [sumV]; omega)]

def FS (b n nv : Nat) (two : Bool) : Assn := ex fun p : CS × List (Ky × StM) × VS => pur (StayI p.1 p.2.1 p.2.2 two) * FillR b p.1 n nv p.2.2 p.2.1
section
variable {k : Env} {w : World} {R : Assn} {b n nv : Nat} {two : Bool}
theorem fs_open (h : Sat k w (FS b n nv two * R)) : ∃ c S V, StayI c S V two ∧ Sat k w (FillR b c n nv V S * R) := by
  obtain ⟨⟨c, S, V⟩, h⟩ := Sat.ex.1 h
  rw [star_assoc] at h
  obtain ⟨h1, h⟩ := Sat.pure.1 h
  exact ⟨c, S, V, h1, h⟩
theorem fs_close {c : CS} {S : List (Ky × StM)} {V : VS} (h : Sat k w (FillR b c n nv V S * R)) (h1 : StayI c S V two) : Sat k w (FS b n nv two * R) :=
  Sat.ex.2 ⟨(c, S, V), by rw [star_assoc]; exact Sat.pure.2 ⟨h1, h⟩⟩
theorem fs_of_fo {ep : Int} {names : List ByteArray} {nums : List Int} (he : ep = 0) (hn : names = [bkept]) (hm : nums = [0]) (h : Sat k w (FO b n nv 1000 100 100 1000 kk VS.new (some ⟨bv, 1 + 1000, ep, names, nums⟩) * R)) : Sat k w (FS b n nv false * R) := by
  obtain ⟨c, S, h1, h2, h3⟩ := fo_open h
  obtain ⟨s, rfl, s1, s2, s3, _, _, _⟩ := h2
  obtain ⟨T, K, hT, rfl⟩ := h1
  simp only [kk_v] at hT
  refine fs_close h3 ⟨⟨[(kk, bv, 1)], ?_⟩, ⟨rfl, rfl, rfl, rfl⟩, by simp, by simp [mget], by simp [mget], ?_, ⟨s, by simp [mget], by rw [s1]; exact he, by rw [s2]; exact hn, by rw [s3]; exact hm⟩, rfl, fun _ => rfl⟩
  · have hk : keysS ⟨1000, 100, 100, 1000, T, K, [(textK kk, 1 + 1000)], [(kk, bv)]⟩ = [textK kk] := by
      unfold keysS
      rcases hT with ⟨rfl, rfl⟩ | ⟨rfl, rfl⟩ <;> rfl
    refine ⟨by simp, by rw [hk]; simp, fun y v hy => ?_, fun t ht => ?_⟩
    · have hy : (if kk = y then some bv else none) = some v := hy
      split at hy
      · rename_i e
        cases hy
        subst e
        refine ⟨kk_right, kk_tiny, by rw [hk]; simp, 1, rfl, by simp [mget]⟩
      · cases hy
    · rw [hk, List.mem_singleton] at ht
      exact ⟨kk, ht.symm, by simp [mget]⟩
  · rcases hT with ⟨rfl, rfl⟩ | ⟨rfl, rfl⟩
    · exact .inr ⟨rfl, .inl ⟨rfl, rfl⟩⟩
    · exact .inl rfl
end

section
variable (k : Env) (w : World) (R : Assn) (b n nv : Nat) (two : Bool)
theorem fs_start (h : Sat k w (FS b n nv two * R)) :
    Calls Try.prog 10 #[pq b, .slice none 0 0] w fun e w' => ∃ s : StM, e = .returned s.v ∧ s.ep = 0 ∧ s.names = [] ∧ s.nums = [] ∧ Sat k w' (stampS s * (FS b n nv two * R)) := by
  obtain ⟨c, S, V, h1, h2⟩ := fs_open h
  exact (fstart_any k w R b n nv c V S none 0 [] (rd_nil _ _ _) (by simp) h2).mono fun e w' ⟨s, p1, p2, p3, p4, q⟩ => ⟨s, p1, by rw [p2]; exact h1.ep, p3, p4, (fs_close q.swap h1).swap⟩
theorem fs_write (cl : Int) (a : Option Addr) (cap : Nat) (x : ByteArray) (hx : x ≠ bkept) (hr : Rd k R a [x]) (hn : nv ≤ 1000000) (h : Sat k w (FS b n nv two * R)) :
    Calls Try.prog 12 #[pq b, .int .i64 cl, .slice a 1 cap] w fun e w' => e = .returned (.tuple #[]) ∧ Sat k w' (FS b n (nv + 2) two * R) := by
  obtain ⟨c, S, V, h1, h2⟩ := fs_open h
  exact (fwrite_any k w R b n nv c V S cl a cap [x] hr (by simp; omega) h2).mono fun e w' ⟨p, q⟩ => ⟨p, fs_close q (h1.write cl hx)⟩
theorem fs_fill (x : ByteArray) (ep : Int) (a i : Option Addr) (ac ic : Nat) (names : List ByteArray) (nums : List Int) (he : ep = 0) (hn : names = []) (hm : nums = []) (hx2 : x.size ≤ 60) (hnn : n + 1 ≤ 1000) (h : Sat k w (FS b n nv false * R)) :
    Calls Try.prog 9 #[pq b, .agg #[.string ⟨#[]⟩, .string ⟨#[]⟩, .int .i64 0, .string x], .string ⟨#[119]⟩, .agg #[.int .i64 ep, .slice a names.length ac, .slice i nums.length ic], .int .i64 1] w fun e w' => ∃ t er, e = .returned (.tuple #[.bool t, .int .i64 er]) ∧ Sat k w' (FS b (n + 1) nv true * R) := by
  obtain ⟨c, S, V, h1, h2⟩ := fs_open h
  subst he hn hm
  have ht : tiny ⟨⟨#[]⟩, ⟨#[]⟩, 0, x⟩ := by
    unfold tiny
    have : (⟨#[]⟩ : ByteArray).size = 0 := rfl
    simp only [this]; omega
  obtain ⟨p, hp⟩ := h1.good
  obtain ⟨a1, a2, a3, a4⟩ := h1.par
  obtain ⟨q1, q2, q3, q4, q5⟩ := fi_facts h2
  have hyk : (⟨⟨#[]⟩, ⟨#[]⟩, 0, x⟩ : Ky) ≠ kk := by
    intro e
    have := congrArg (fun y : Ky => y.db.size) e
    have this : (0 : Nat) = 1 := this
    omega
  have hf : freshV V 0 [] [] := ⟨h1.ep.symm, rfl⟩
  generalize hyy : (⟨⟨#[]⟩, ⟨#[]⟩, 0, x⟩ : Ky) = y at *
  have hkv : Value.agg #[.string ⟨#[]⟩, .string ⟨#[]⟩, .int .i64 0, .string x] = kyV y := by rw [← hyy]; rfl
  rw [hkv]
  have hsz : y.db.size + y.ro.size + y.nm.size ≤ 60 := by
    rw [← hyy]
    have : (⟨#[]⟩ : ByteArray).size = 0 := rfl
    simp only [this]; omega
  cases hr : rightK y with
  | false =>
    exact (ffill_err k w R b n n nv c c V S y _ 1 _ 0 a i ac ic [] [] (rd_nil _ _ _) (rdi_nil _ _ _) (by simp) (by simp) ⟨fun _ => hf, fun _ => rfl⟩ ⟨fun q => (by cases q), fun q => absurd q (busyNil _)⟩
      (fun cb w' R' h' => cput_arg k w' R' cb n c y _ 1 ht (.inl hr) h') (by decide) h2).mono fun e w' ⟨p, q⟩ => ⟨_, _, p, fs_close (fi_more q (Nat.le_succ n)) h1.two⟩
  | true =>
    obtain ⟨ys, hg, hys⟩ := gone_keys hp y ⟨#[119]⟩
    have hl := gone_len hg
    have hs := sizeK_le (v := ⟨#[119]⟩) hr
    have hs1 : (⟨#[119]⟩ : ByteArray).size = 1 := rfl
    exact (ffill_ok k w R b n (n + 1) nv c (cdrops ys (cputS c y ⟨#[119]⟩ 1)) V S y ⟨#[119]⟩ 1 ys 0 a i ac ic [] [] (rd_nil _ _ _) (rdi_nil _ _ _) (by simp) (by simp) ⟨fun _ => hf, fun _ => rfl⟩ ⟨fun q => (by cases q), fun q => absurd q (busyNil _)⟩ (by omega)
      (fun cb w' R' h' => cput_ok k w' R' cb n c y ⟨#[119]⟩ 1 ys hr ht (by decide) (by omega) (by omega) (by rw [hs, a3, hs1]; omega) (by rw [a4]; decide) (by rw [a4]; decide) (by omega) hg hys (by omega) h') h2).mono fun e w' ⟨p, s, p1, p2, p3, q⟩ => ⟨_, _, p, fs_close q (h1.put s hyk hr ht (by rw [hs, hs1]; omega) hg hys)⟩
theorem fs_look (now : Int) (hnow : now ≤ 1000) (h : Sat k w (FS b n nv two * R)) :
    Calls Try.prog 11 #[pq b, .agg #[.string ⟨#[100]⟩, .string ⟨#[]⟩, .int .i64 0, .string ⟨#[107, 101, 112, 116]⟩], .int .i64 now] w fun e w' => e = .returned (.tuple #[.string ⟨#[118]⟩, .bool true]) ∧ Sat k w' (FS b n nv false * R) := by
  obtain ⟨c, S, V, h1, h2⟩ := fs_open h
  obtain ⟨s, s1, s2, s3, s4⟩ := h1.st
  obtain ⟨ep, a, ac, names, i, ic, nums⟩ := s
  simp only at s2 s3 s4
  subst s2 s3 s4
  exact (flook_got k w R b n n nv c (ctouch c kk 27) V S kk now bv V.ep a i ac ic [bkept] [V.N bkept] s1 (by simp) (by simp) true false ⟨fun _ => ⟨rfl, rfl⟩, fun _ => rfl⟩ ⟨fun q => (by cases q), fun q => absurd q (by
    rintro ⟨s, hs, q, hq⟩
    rw [List.mem_singleton] at hs
    subst hs
    rw [h1.dir q] at hq; cases hq)⟩ rfl rfl
    (fun cb w' R' h' => cget_some k w' R' cb n c kk now 1001 27 bv kk_right kk_tiny h1.val h1.till (by omega) h1.sz h') h2).mono fun e w' ⟨p, q⟩ => ⟨p, fs_close q h1.touch⟩
end

end Go.Proofs.Ytbeidnddahglbaa
