/- Package fill: one key alone: what is kept of it, step by step. -/
import Derived.Test.YtbeidnddahglbaaFillH
import Derived.Test.YtbeidnddahglbaaCacheD
namespace Go.Proofs.Ytbeidnddahglbaa
set_option linter.all false
open Go Go.RowKit

def One (c : CS) (al kp mo ttl : Int) (y : Ky) : Option (ByteArray × Int) → Prop
  | none => c = ⟨al, kp, mo, ttl, [], [], [], []⟩
  | some (v, t) => ∃ T K, ((T = [(textK y, sizeK y v)] ∧ K = []) ∨ (T = [] ∧ K = [(textK y, sizeK y v)])) ∧ c = ⟨al, kp, mo, ttl, T, K, [(textK y, t)], [(y, v)]⟩

theorem dropV_self (a : ByteArray) (s : Int) : dropV a [(a, s)] = [] := by simp [dropV]
theorem qdrop_self (a : ByteArray) (s : Int) : qdrop a [(a, s)] = [] := by simp [qdrop]
theorem roomR_gone {al size : Int} {a : ByteArray} {t k : List KV} (ht : dropV a t = []) (hk : dropV a k = []) : roomR al a size t k = ([], [], []) := by
  unfold roomR; rw [ht, hk]; rfl
theorem qset_gone {a : ByteArray} {t : Int} {L : List KA} (h : qdrop a L = []) : qset a t L = [(a, t)] := by
  unfold qset qins; rw [h]; rfl

theorem One.gone {c : CS} {al kp mo ttl : Int} {y : Ky} {o : Option (ByteArray × Int)} (h : One c al kp mo ttl y o) : dropV (textK y) c.T = [] ∧ dropV (textK y) c.K = [] ∧ qdrop (textK y) c.L = [] ∧ mdel y c.V = [] ∧ (∀ v, mput y v c.V = [(y, v)]) ∧ c.al = al ∧ c.kp = kp ∧ c.mo = mo ∧ c.ttl = ttl := by
  cases o with
  | none =>
    have h : c = _ := h
    subst h
    exact ⟨rfl, rfl, rfl, rfl, fun v => rfl, rfl, rfl, rfl, rfl⟩
  | some x =>
    obtain ⟨v, t⟩ := x
    obtain ⟨T, K, h1, rfl⟩ := h
    refine ⟨?_, ?_, qdrop_self _ _, by simp [mdel], fun v => by simp [mput], rfl, rfl, rfl, rfl⟩
    · rcases h1 with ⟨rfl, rfl⟩ | ⟨rfl, rfl⟩
      · exact dropV_self _ _
      · rfl
    · rcases h1 with ⟨rfl, rfl⟩ | ⟨rfl, rfl⟩
      · rfl
      · exact dropV_self _ _
theorem One.put {c : CS} {al kp mo ttl : Int} {y : Ky} {o : Option (ByteArray × Int)} (h : One c al kp mo ttl y o) (v : ByteArray) (now : Int) :
    cgone c y v = ([] : List Ky).map textK ∧ One (cdrops [] (cputS c y v now)) al kp mo ttl y (some (v, now + ttl)) := by
  obtain ⟨h1, h2, h3, h4, h5, h6, h7, h8, h9⟩ := h.gone
  have hr := roomR_gone (al := c.al) (size := sizeK y v) h1 h2
  refine ⟨by unfold cgone; rw [hr]; rfl, [(textK y, sizeK y v)], [], .inl ⟨rfl, rfl⟩, ?_⟩
  unfold cdrops cputS
  simp only [List.foldl_nil]
  rw [hr, qset_gone h3, h5, h6, h7, h8, h9]
theorem One.drop {c : CS} {al kp mo ttl : Int} {y : Ky} {o : Option (ByteArray × Int)} (h : One c al kp mo ttl y o) : One (cdrop c y) al kp mo ttl y none := by
  obtain ⟨h1, h2, h3, h4, h5, h6, h7, h8, h9⟩ := h.gone
  show cdrop c y = _
  unfold cdrop
  rw [h1, h2, h3, h4, h6, h7, h8, h9]
theorem One.touch {c : CS} {al kp mo ttl : Int} {y : Ky} {v : ByteArray} {t : Int} (h : One c al kp mo ttl y (some (v, t))) (hkp : sizeK y v ≤ kp) :
    mget y c.V = some v ∧ mget (textK y) c.L = some t ∧ mget (textK y) (c.T ++ c.K) = some (sizeK y v) ∧ One (ctouch c y (sizeK y v)) al kp mo ttl y (some (v, t)) := by
  obtain ⟨h1, h2, h3, h4, h5, h6, h7, h8, h9⟩ := h.gone
  obtain ⟨T, K, hT, rfl⟩ := h
  refine ⟨by simp [mget], by simp [mget], ?_, ?_⟩
  · rcases hT with ⟨rfl, rfl⟩ | ⟨rfl, rfl⟩ <;> simp [mget]
  · refine ⟨[], [(textK y, sizeK y v)], .inr ⟨rfl, rfl⟩, ?_⟩
    have ht : touchP kp (textK y) (sizeK y v) T K = ([], [(textK y, sizeK y v)]) := by
      unfold touchP
      rw [if_neg (by omega)]
      simp only at h1 h2
      rw [h1, h2]
    unfold ctouch touchR
    simp only at h1 h2 ⊢
    rw [ht]
    simp only
    rw [backV_stop _ (by simp [sumV]; omega)]

/-- What is kept of one key: its value, till when, and its stamp. -/
structure Kept where
  v : ByteArray
  till : Int
  ep : Int
  names : List ByteArray
  nums : List Int
def SOne (S : List (Ky × StM)) (y : Ky) : Option Kept → Prop
  | none => S = []
  | some q => ∃ s : StM, S = [(y, s)] ∧ s.ep = q.ep ∧ s.names = q.names ∧ s.nums = q.nums ∧ q.names.length ≤ 1000000000 ∧ q.nums.length ≤ 1000000000 ∧ sizeK y q.v ≤ 1073741824
def Kept.cv (o : Option Kept) : Option (ByteArray × Int) := o.map fun q => (q.v, q.till)
def FO (b n nv : Nat) (al kp mo ttl : Int) (y : Ky) (V : VS) (o : Option Kept) : Assn :=
  ex fun p : CS × List (Ky × StM) => pur (One p.1 al kp mo ttl y (Kept.cv o) ∧ SOne p.2 y o) * FillR b p.1 n nv V p.2
section
variable {k : Env} {w : World} {R : Assn} {b n nv : Nat} {al kp mo ttl : Int} {y : Ky} {V : VS} {o : Option Kept}
theorem fo_open (h : Sat k w (FO b n nv al kp mo ttl y V o * R)) : ∃ c S, One c al kp mo ttl y (Kept.cv o) ∧ SOne S y o ∧ Sat k w (FillR b c n nv V S * R) := by
  obtain ⟨⟨c, S⟩, h⟩ := Sat.ex.1 h
  rw [star_assoc] at h
  obtain ⟨⟨h1, h2⟩, h⟩ := Sat.pure.1 h
  exact ⟨c, S, h1, h2, h⟩
theorem fo_close {c : CS} {S : List (Ky × StM)} (h : Sat k w (FillR b c n nv V S * R)) (h1 : One c al kp mo ttl y (Kept.cv o)) (h2 : SOne S y o) : Sat k w (FO b n nv al kp mo ttl y V o * R) :=
  Sat.ex.2 ⟨(c, S), by rw [star_assoc]; exact Sat.pure.2 ⟨⟨h1, h2⟩, h⟩⟩
end
theorem fi_more {k : Env} {w : World} {R : Assn} {b n nv n' : Nat} {c : CS} {V : VS} {S : List (Ky × StM)} (h : Sat k w (FillR b c n nv V S * R)) (hn : n ≤ n') : Sat k w (FillR b c n' nv V S * R) := by
  obtain ⟨cb, vb, m, hs⟩ := fi_open h
  obtain ⟨s, q, mm, h1⟩ := ca_open hs.swap
  have h2 := qv_more h1.get3 hn
  have h3 := ca_close (c := c) (n := n') h2.put3 rfl rfl rfl rfl rfl rfl rfl rfl
  exact fi_close (cb := cb) (vb := vb) (m := m) h3.swap rfl
theorem fi_morev {k : Env} {w : World} {R : Assn} {b n nv nv' : Nat} {c : CS} {V : VS} {S : List (Ky × StM)} (h : Sat k w (FillR b c n nv V S * R)) (hn : nv ≤ nv') : Sat k w (FillR b c n nv' V S * R) := by
  obtain ⟨cb, vb, m, hs⟩ := fi_open h
  have h2 := vv_more hs.get3 hn
  exact fi_close (cb := cb) (vb := vb) (m := m) h2.put3 rfl
theorem fo_more {k : Env} {w : World} {R : Assn} {b n nv n' nv' : Nat} {al kp mo ttl : Int} {y : Ky} {V : VS} {o : Option Kept} (h : Sat k w (FO b n nv al kp mo ttl y V o * R)) (hn : n ≤ n') (hv : nv ≤ nv') : Sat k w (FO b n' nv' al kp mo ttl y V o * R) := by
  obtain ⟨c, S, h1, h2, h3⟩ := fo_open h
  exact fo_close (fi_morev (fi_more h3 hn) hv) h1 h2

theorem bool_of (P : Prop) : ∃ t : Bool, t = true ↔ P := by
  by_cases h : P
  · exact ⟨true, fun _ => h, fun _ => rfl⟩
  · exact ⟨false, fun q => (by cases q), fun q => absurd q h⟩

section
variable (k : Env) (w : World) (R : Assn) (b n nv : Nat) (al kp mo ttl : Int) (y : Ky) (V : VS) (o : Option Kept)
theorem fo_fill_no (v : ByteArray) (now ep : Int) (a i : Option Addr) (ac ic : Nat) (names : List ByteArray) (nums : List Int) (hr : Rd k R a names) (hi : RdI k R i nums) (hn : names.length ≤ 1000000000) (hm : nums.length ≤ 1000000000)
    (hno : ¬ freshV V ep names nums ∨ busyV V names) (h : Sat k w (FO b n nv al kp mo ttl y V o * R)) :
    Calls Try.prog 9 #[pq b, kyV y, .string v, .agg #[.int .i64 ep, .slice a names.length ac, .slice i nums.length ic], .int .i64 now] w fun e w' => e = .returned (.tuple #[.bool false, .int .i64 0]) ∧ Sat k w' (FO b n nv al kp mo ttl y V o * R) := by
  obtain ⟨c, S, h1, h2, h3⟩ := fo_open h
  obtain ⟨tf, htf⟩ := bool_of (freshV V ep names nums)
  obtain ⟨tb, htb⟩ := bool_of (busyV V names)
  refine (ffill_no k w R b n nv c V S y v now ep a i ac ic names nums hr hi hn hm tf tb htf htb ?_ h3).mono fun e w' ⟨p, q⟩ => ⟨p, fo_close q h1 h2⟩
  rcases hno with q | q
  · left
    cases tf with
    | false => rfl
    | true => exact absurd (htf.1 rfl) q
  · exact .inr (htb.2 q)
theorem fo_fill_ok (v : ByteArray) (now ep : Int) (a i : Option Addr) (ac ic : Nat) (names : List ByteArray) (nums : List Int) (hr : Rd k R a names) (hi : RdI k R i nums) (hn : names.length ≤ 1000000000) (hm : nums.length ≤ 1000000000)
    (hf : freshV V ep names nums) (hb : ¬ busyV V names) (hy1 : rightK y = true) (hy2 : tiny y) (hv : v.size ≤ 1000000000) (n0 : ¬ now < 0) (n1 : ¬ 549755813888 < now) (hs : sizeK y v ≤ mo) (hmo : mo ≤ 1073741824) (ht1 : 1 ≤ ttl) (ht2 : ttl ≤ 549755813888) (hnn : n + 1 ≤ 1000000000) (h : Sat k w (FO b n nv al kp mo ttl y V o * R)) :
    Calls Try.prog 9 #[pq b, kyV y, .string v, .agg #[.int .i64 ep, .slice a names.length ac, .slice i nums.length ic], .int .i64 now] w fun e w' => e = .returned (.tuple #[.bool true, .int .i64 0]) ∧ Sat k w' (FO b (n + 1) nv al kp mo ttl y V (some ⟨v, now + ttl, ep, names, nums⟩) * R) := by
  obtain ⟨c, S, h1, h2, h3⟩ := fo_open h
  obtain ⟨hg, h4⟩ := h1.put v now
  obtain ⟨g1, g2, g3, g4, g5, g6, g7, g8, g9⟩ := h1.gone
  refine (ffill_ok k w R b n (n + 1) nv c (cdrops [] (cputS c y v now)) V S y v now [] ep a i ac ic names nums hr hi hn hm ⟨fun _ => hf, fun _ => rfl⟩ ⟨fun q => (by cases q), fun q => absurd q hb⟩ (by simp)
    (fun cb w' R' h' => cput_ok k w' R' cb n c y v now [] hy1 hy2 hv n0 n1 (by rw [g8]; exact hs) (by rw [g9]; exact ht1) (by rw [g9]; exact ht2) hnn hg (by simp) (by simp) h') h3).mono fun e w' ⟨p, s, p1, p2, p3, q⟩ => ⟨p, fo_close q h4 ⟨s, ?_, p1, p2, p3, hn, hm, Int.le_trans hs hmo⟩⟩
  show mput y s S = _
  cases o with
  | none => have h2 : S = [] := h2; rw [h2]; rfl
  | some x => obtain ⟨s', rfl, _⟩ := h2; simp [mput]
theorem fo_fill_big (v : ByteArray) (now ep : Int) (a i : Option Addr) (ac ic : Nat) (names : List ByteArray) (nums : List Int) (hr : Rd k R a names) (hi : RdI k R i nums) (hn : names.length ≤ 1000000000) (hm : nums.length ≤ 1000000000)
    (hf : freshV V ep names nums) (hb : ¬ busyV V names) (hy1 : rightK y = true) (hy2 : tiny y) (hv : v.size ≤ 1000000000) (n0 : ¬ now < 0) (n1 : ¬ 549755813888 < now) (hs : mo < sizeK y v) (h : Sat k w (FO b n nv al kp mo ttl y V o * R)) :
    Calls Try.prog 9 #[pq b, kyV y, .string v, .agg #[.int .i64 ep, .slice a names.length ac, .slice i nums.length ic], .int .i64 now] w fun e w' => ∃ er : Int, er ≠ 0 ∧ e = .returned (.tuple #[.bool false, .int .i64 er]) ∧ Sat k w' (FO b n nv al kp mo ttl y V o * R) := by
  obtain ⟨c, S, h1, h2, h3⟩ := fo_open h
  obtain ⟨g1, g2, g3, g4, g5, g6, g7, g8, g9⟩ := h1.gone
  exact (ffill_err k w R b n n nv c c V S y v now _ ep a i ac ic names nums hr hi hn hm ⟨fun _ => hf, fun _ => rfl⟩ ⟨fun q => (by cases q), fun q => absurd q hb⟩
    (fun cb w' R' h' => cput_big k w' R' cb n c y v now hy1 hy2 hv n0 n1 (by rw [g8]; exact hs) h') (by decide) h3).mono fun e w' ⟨p, q⟩ => ⟨_, by decide, p, fo_close q h1 h2⟩
theorem fo_look_none (now : Int) (h : Sat k w (FO b n nv al kp mo ttl y V none * R)) :
    Calls Try.prog 11 #[pq b, kyV y, .int .i64 now] w fun e w' => e = .returned (.tuple #[.string ⟨#[]⟩, .bool false]) ∧ Sat k w' (FO b n nv al kp mo ttl y V none * R) := by
  obtain ⟨c, S, h1, h2, h3⟩ := fo_open h
  have h4 : S = [] := h2
  exact (flook_none k w R b n nv c V S y now (by rw [h4]; rfl) h3).mono fun e w' ⟨p, q⟩ => ⟨p, fo_close q h1 h2⟩
theorem fo_look_stale (now : Int) (q : Kept) (hf : ¬ freshV V q.ep q.names q.nums) (hy1 : rightK y = true) (hy2 : tiny y) (hnn : n ≤ 1000000000) (h : Sat k w (FO b n nv al kp mo ttl y V (some q) * R)) :
    Calls Try.prog 11 #[pq b, kyV y, .int .i64 now] w fun e w' => e = .returned (.tuple #[.string ⟨#[]⟩, .bool false]) ∧ Sat k w' (FO b n nv al kp mo ttl y V none * R) := by
  obtain ⟨c, S, h1, ⟨s, rfl, p1, p2, p3, p4, p5, p6⟩, h3⟩ := fo_open h
  obtain ⟨ep, a, ac, names, i, ic, nums⟩ := s
  simp only at p1 p2 p3
  obtain ⟨T, K, hT, hc⟩ := id h1
  obtain ⟨tb, htb⟩ := bool_of (busyV V names)
  have hv : mget y c.V = some q.v := by rw [hc]; simp [mget]
  exact (flook_stale k w R b n n nv c (cdrop c y) V _ y now ep a i ac ic names nums (by simp [mget]) (by rw [p2]; exact p4) (by rw [p3]; exact p5) false tb ⟨fun q => (by cases q), fun q => absurd (by rw [p1, p2, p3] at q; exact q) hf⟩ htb rfl
    (fun cb w' R' h' => (cdrop_some k w' R' cb n c y q.v hy1 hy2 hnn hv h').mono fun e w'' ⟨p, q⟩ => ⟨_, p, q⟩) h3).mono fun e w' ⟨p, q⟩ => ⟨p, fo_close q h1.drop (by show mdel y _ = []; simp [mdel])⟩
theorem fo_look_busy (now : Int) (q : Kept) (hf : freshV V q.ep q.names q.nums) (hb : busyV V q.names) (h : Sat k w (FO b n nv al kp mo ttl y V (some q) * R)) :
    Calls Try.prog 11 #[pq b, kyV y, .int .i64 now] w fun e w' => e = .returned (.tuple #[.string ⟨#[]⟩, .bool false]) ∧ Sat k w' (FO b n nv al kp mo ttl y V (some q) * R) := by
  obtain ⟨c, S, h1, h2, h3⟩ := fo_open h
  obtain ⟨s, hS, p1, p2, p3, p4, p5, p6⟩ := id h2
  obtain ⟨ep, a, ac, names, i, ic, nums⟩ := s
  simp only at p1 p2 p3
  exact (flook_busy k w R b n nv c V S y now ep a i ac ic names nums (by rw [hS]; simp [mget]) (by rw [p2]; exact p4) (by rw [p3]; exact p5) true true ⟨fun _ => (by rw [p1, p2, p3]; exact hf), fun _ => rfl⟩ ⟨fun _ => (by rw [p2]; exact hb), fun _ => rfl⟩ rfl rfl h3).mono fun e w' ⟨p, q⟩ => ⟨p, fo_close q h1 h2⟩
theorem fo_look_got (now : Int) (q : Kept) (hf : freshV V q.ep q.names q.nums) (hb : ¬ busyV V q.names) (hy1 : rightK y = true) (hy2 : tiny y) (hkp : sizeK y q.v ≤ kp) (hle : ¬ q.till ≤ now) (h : Sat k w (FO b n nv al kp mo ttl y V (some q) * R)) :
    Calls Try.prog 11 #[pq b, kyV y, .int .i64 now] w fun e w' => e = .returned (.tuple #[.string q.v, .bool true]) ∧ Sat k w' (FO b n nv al kp mo ttl y V (some q) * R) := by
  obtain ⟨c, S, h1, h2, h3⟩ := fo_open h
  obtain ⟨s, hS, p1, p2, p3, p4, p5, p6⟩ := id h2
  obtain ⟨ep, a, ac, names, i, ic, nums⟩ := s
  simp only at p1 p2 p3
  obtain ⟨t1, t2, t3, t4⟩ := One.touch h1 hkp
  exact (flook_got k w R b n n nv c (ctouch c y (sizeK y q.v)) V S y now q.v ep a i ac ic names nums (by rw [hS]; simp [mget]) (by rw [p2]; exact p4) (by rw [p3]; exact p5) true false ⟨fun _ => (by rw [p1, p2, p3]; exact hf), fun _ => rfl⟩ ⟨fun q => (by cases q), fun q => absurd (by rw [p2] at q; exact q) hb⟩ rfl rfl
    (fun cb w' R' h' => cget_some k w' R' cb n c y now q.till (sizeK y q.v) q.v hy1 hy2 t1 t2 hle t3 h') h3).mono fun e w' ⟨p, q⟩ => ⟨p, fo_close q t4 h2⟩
end

end Go.Proofs.Ytbeidnddahglbaa
