/- Package pool: whatever is done, nobody waits while a connection is idle or may be made. -/
import Derived.Test.YticponkpgaofnaaPoolX
namespace Go.Proofs.Yticponkpgaofnaa
set_option linter.all false
open Go Go.RowKit

/-- Nobody waits while one is idle, or may be made. -/
def Full (P : PP) (G : List Gp) : Prop := ∀ g ∈ G, g.sp ≠ [] → (∀ c ∈ g.cs, c.cl ≠ -1) ∧ (g.cs.length : Int) = P.lim

def OkV (b : Nat) (P : PP) (n : Nat) : Assn :=
  ex fun p : Int × List Gp × List ByteArray => pur (Full P p.2.1 ∧ p.2.1.length ≤ n ∧ p.1 ≤ n) * PoolV b P p.1 p.2.1 p.2.2

section
variable {k : Env} {w : World} {R : Assn} {b n : Nat} {P : PP}
theorem ok_open (h : Sat k w (OkV b P n * R)) : ∃ (last : Int) (G : List Gp) (N : List ByteArray), Full P G ∧ G.length ≤ n ∧ last ≤ n ∧ Sat k w (PoolV b P last G N * R) := by
  obtain ⟨⟨last, G, N⟩, h⟩ := Sat.ex.1 h
  rw [star_assoc] at h
  obtain ⟨⟨h1, h2, h3⟩, h⟩ := Sat.pure.1 h
  exact ⟨last, G, N, h1, h2, h3, h⟩
theorem ok_close {last : Int} {G : List Gp} {N : List ByteArray} (h : Sat k w (PoolV b P last G N * R)) (h1 : Full P G) (h2 : G.length ≤ n) (h3 : last ≤ n) : Sat k w (OkV b P n * R) :=
  Sat.ex.2 ⟨(last, G, N), by rw [star_assoc]; exact Sat.pure.2 ⟨⟨h1, h2, h3⟩, h⟩⟩
end

theorem full_mid {P : PP} {p q : List Gp} {g g' : Gp} (h : Full P (p ++ g :: q)) (h' : g'.sp ≠ [] → (∀ c ∈ g'.cs, c.cl ≠ -1) ∧ (g'.cs.length : Int) = P.lim) : Full P (p ++ g' :: q) := by
  intro x hx
  rcases List.mem_append.1 hx with hx | hx
  · exact h x (by simp [hx])
  · rcases List.mem_cons.1 hx with rfl | hx
    · exact h'
    · exact h x (by simp [hx])
theorem full_at {P : PP} {p q : List Gp} {g : Gp} (h : Full P (p ++ g :: q)) (hs : g.sp ≠ []) : (∀ c ∈ g.cs, c.cl ≠ -1) ∧ (g.cs.length : Int) = P.lim := h g (by simp) hs
theorem full_map {P : PP} {G : List Gp} {f : Gp → Gp} (h : Full P G) (hf : ∀ g ∈ G, ((f g).sp ≠ [] → g.sp ≠ [] ∧ (f g).cs = g.cs)) : Full P (G.map f) := by
  intro x hx hs
  obtain ⟨g, hg, rfl⟩ := List.mem_map.1 hx
  obtain ⟨h1, h2⟩ := hf g hg hs
  rw [h2]
  exact h g hg h1
theorem full_withG {P : PP} {G : List Gp} (h : Full P G) (s : ByteArray) : Full P (withG s G) := by
  unfold withG
  split
  · exact h
  · intro x hx
    rcases List.mem_append.1 hx with hx | hx
    · exact h x hx
    · rw [List.mem_singleton] at hx; subst hx; exact fun hs => absurd rfl hs
theorem withG_len (s : ByteArray) (G : List Gp) : (withG s G).length ≤ G.length + 1 := by
  unfold withG; split <;> simp
theorem withG_mid (s : ByteArray) (G : List Gp) : ∃ p g q, withG s G = p ++ g :: q ∧ g.name = s := by
  unfold withG
  split
  · rename_i h
    obtain ⟨g, hg, hn⟩ := h
    obtain ⟨p, q, rfl⟩ := List.append_of_mem hg
    exact ⟨p, g, q, rfl, hn⟩
  · exact ⟨G, _, [], rfl, rfl⟩
theorem nohold_not {G : List Gp} {x : Int} (h : ¬ NoHold G x) : x ≠ -1 ∧ ∃ p g q r s c, G = p ++ g :: q ∧ g.cs = r ++ c :: s ∧ c.cl = x := by
  unfold NoHold at h
  have h1 : x ≠ -1 := fun e => h (.inl e)
  have h2 : ∃ c, c ∈ conns G ∧ c.cl = x := by
    refine Classical.byContradiction fun hn => h (.inr fun c hc e => hn ⟨c, hc, e⟩)
  obtain ⟨c, hc, e⟩ := h2
  obtain ⟨p, g, q, r, s, h3, h4⟩ := conns_split hc
  exact ⟨h1, p, g, q, r, s, c, h3, h4, e⟩
theorem waiter_nn {P : PP} {last : Int} {G : List Gp} {N : List ByteArray} {M K : List (Int × Int)} (hi : PInv P last G N M K) {g : Gp} (hg : g ∈ G) {y : Sp} (hy : y ∈ g.sp) : 0 ≤ y.1 :=
  hi.pi.pw y.1 (List.mem_flatMap.2 ⟨g, hg, List.mem_map_of_mem hy⟩)

section
variable (k : Env) (w : World) (R : Assn) (b : Nat) (P : PP) (n : Nat)

theorem ok_more (h : Sat k w (OkV b P n * R)) : Sat k w (OkV b P (n + 1) * R) := by
  obtain ⟨last, G, N, h1, h2, h3, h4⟩ := ok_open h
  exact ok_close h4 h1 (by omega) (by omega)

theorem ask_ok (s : ByteArray) (x now : Int) (hn : n ≤ 1000) (h : Sat k w (OkV b P n * R)) :
    Calls Try.prog 8 #[pt b, .string s, .int .i64 x, .int .i64 now] w fun e w' => ∃ v, e = .returned v ∧ Sat k w' (OkV b P (n + 1) * R) := by
  obtain ⟨last, G, N, h1, h2, h3, h4⟩ := ok_open h
  by_cases ha : x < 0 ∨ now < 0 ∨ 549755813888 < now
  · exact (ask_arg k w R b P last G N s x now ha h4).mono fun e w' ⟨he, hs⟩ => ⟨_, he, ok_close hs h1 (by omega) (by omega)⟩
  have q0 : ¬ x < 0 := fun c => ha (.inl c)
  have q1 : ¬ now < 0 := fun c => ha (.inr (.inl c))
  have q2 : ¬ 549755813888 < now := fun c => ha (.inr (.inr c))
  by_cases hh : NoHold G x
  · by_cases hw : x ∈ waitr G
    · exact (ask_waits k w R b P last G N s x now hh hw q0 q1 q2 h4).mono fun e w' ⟨he, hs⟩ => ⟨_, he, ok_close hs h1 (by omega) (by omega)⟩
    · obtain ⟨p, g, q, hgs, hgn⟩ := withG_mid s G
      have hG : (G.length : Int) ≤ 1073741824 := by omega
      have hf := full_withG h1 s
      have hl := withG_len s G
      obtain ⟨M, K, hi⟩ := pv_inv h4
      have hi := hi.withG s
      rw [hgs] at hf hl hi
      have hsz := hi.sz g (by simp)
      have hl' : ∀ g', (p ++ g' :: q).length ≤ n + 1 := fun g' => by simp at hl ⊢; omega
      by_cases hsp : g.sp = []
      · cases hb : bestC g.cs with
        | some c =>
          have hcm : c ∈ g.cs := by
            rcases bestC_mem hb with ⟨h, _⟩ | h
            · exact h
            · cases h
          obtain ⟨r, t, hc⟩ := List.append_of_mem hcm
          exact (ask_best k w R b P last G p q g N s x now hG hh hw q0 q1 q2 hgs hgn hsp r t c hc hb h4).mono fun e w' ⟨he, hs⟩ => ⟨_, he, ok_close hs (full_mid hf (fun hq => absurd hsp hq)) (hl' _) (by omega)⟩
        | none =>
          by_cases hlim : (g.cs.length : Int) < P.lim
          · exact (ask_made k w R b P last G p q g N s x now hG hh hw q0 q1 q2 hgs hgn hsp hb hlim (by omega) h4).mono fun e w' ⟨he, hs⟩ => ⟨_, he, ok_close hs (full_mid hf (fun hq => absurd hsp hq)) (hl' _) (by omega)⟩
          · exact (ask_full k w R b P last G p q g N s x now hG hh hw q0 q1 q2 hgs hgn hsp hb (by omega) h4).mono fun e w' ⟨he, hs⟩ => ⟨_, he, ok_close hs (full_mid hf (fun _ => ⟨(bestC_none hb).2, by simp only; omega⟩)) (hl' _) (by omega)⟩
      · exact (ask_behind k w R b P last G p q g N s x now hG hh hw q0 q1 q2 hgs hgn hsp h4).mono fun e w' ⟨he, hs⟩ => ⟨_, he, ok_close hs (full_mid hf (fun _ => by exact full_at (g := g) hf hsp)) (hl' _) (by omega)⟩
  · obtain ⟨hx, p, g, q, r, t, c, rfl, hc, rfl⟩ := nohold_not hh
    exact (ask_holds k w R b P last p q g N r t c hc s now (by omega) q1 q2 h4).mono fun e w' ⟨he, hs⟩ => ⟨_, he, ok_close hs h1 (by omega) (by omega)⟩

theorem give_ok (x now : Int) (h : Sat k w (OkV b P n * R)) :
    Calls Try.prog 9 #[pt b, .int .i64 x, .int .i64 now] w fun e w' => ∃ v, e = .returned v ∧ Sat k w' (OkV b P (n + 1) * R) := by
  obtain ⟨last, G, N, h1, h2, h3, h4⟩ := ok_open h
  obtain ⟨M, K, hi⟩ := pv_inv h4
  by_cases hh : NoHold G x
  · exact (give_none k w R b P last G N x now hh h4).mono fun e w' ⟨he, hs⟩ => ⟨_, he, ok_close hs h1 (by omega) (by omega)⟩
  · obtain ⟨hx, p, g, q, r, t, c, rfl, hc, rfl⟩ := nohold_not hh
    have hl' : ∀ g', (p ++ g' :: q).length ≤ n + 1 := fun g' => by simp at h2 ⊢; omega
    cases hp : c.pin with
    | true => exact (give_pin k w R b P last p q g N r t c hc hx hp now h4).mono fun e w' ⟨he, hs⟩ => ⟨_, he, ok_close hs h1 (by omega) (by omega)⟩
    | false =>
      cases hsp : g.sp with
      | nil => exact (give_free k w R b P last p q g N r t c hc hx hp hsp now h4).mono fun e w' ⟨he, hs⟩ => ⟨_, he, ok_close hs (full_mid h1 (fun hq => absurd hsp hq)) (hl' _) (by omega)⟩
      | cons y sp =>
        have hy := waiter_nn hi (g := g) (by simp) (y := y) (by simp [hsp])
        obtain ⟨f1, f2⟩ := full_at h1 (g := g) (by simp [hsp])
        rw [hc] at f1 f2
        refine (give_next k w R b P last p q g N r t c hc hx hp y sp hsp now h4).mono fun e w' ⟨he, hs⟩ => ⟨_, he, ok_close hs (full_mid h1 (fun _ => ⟨?_, by simpa using f2⟩)) (hl' _) (by omega)⟩
        intro d hd
        rcases List.mem_append.1 hd with hd | hd
        · exact f1 d (by simp [hd])
        · rcases List.mem_cons.1 hd with rfl | hd
          · simp only; omega
          · exact f1 d (by simp [hd])

theorem pin_ok (x : Int) (h : Sat k w (OkV b P n * R)) :
    Calls Try.prog 10 #[pt b, .int .i64 x] w fun e w' => ∃ v, e = .returned v ∧ Sat k w' (OkV b P (n + 1) * R) := by
  obtain ⟨last, G, N, h1, h2, h3, h4⟩ := ok_open h
  by_cases hh : NoHold G x
  · exact (pin_none k w R b P last G N x hh h4).mono fun e w' ⟨he, hs⟩ => ⟨_, he, ok_close hs h1 (by omega) (by omega)⟩
  · obtain ⟨hx, p, g, q, r, t, c, rfl, hc, rfl⟩ := nohold_not hh
    have hl' : ∀ g', (p ++ g' :: q).length ≤ n + 1 := fun g' => by simp at h2 ⊢; omega
    refine (pin_some k w R b P last p q g N r t c hc hx h4).mono fun e w' ⟨he, hs⟩ => ⟨_, he, ok_close hs (full_mid h1 (fun hq => ?_)) (hl' _) (by omega)⟩
    obtain ⟨f1, f2⟩ := full_at h1 (g := g) hq
    rw [hc] at f1 f2
    refine ⟨fun d hd => ?_, by simpa using f2⟩
    rcases List.mem_append.1 hd with hd | hd
    · exact f1 d (by simp [hd])
    · rcases List.mem_cons.1 hd with rfl | hd
      · exact hx
      · exact f1 d (by simp [hd])

theorem full_lost {P : PP} {p q : List Gp} {g : Gp} {r s : List Cn} {c : Cn} {y : Sp} {sp : List Sp} {m : Int} (h1 : Full P (p ++ g :: q)) (hc : g.cs = r ++ c :: s) (hsp : g.sp = y :: sp) (hy : 0 ≤ y.1) : Full P (p ++ ⟨g.name, (r ++ s) ++ [newLent m y.1], sp⟩ :: q) := by
  obtain ⟨f1, f2⟩ := full_at h1 (g := g) (by simp [hsp])
  rw [hc] at f1 f2
  refine full_mid h1 fun _ => ⟨fun d hd => ?_, by simp at f2 ⊢; omega⟩
  rcases List.mem_append.1 hd with hd | hd
  · exact f1 d (by rcases List.mem_append.1 hd with hd | hd <;> simp [hd])
  · rw [List.mem_singleton] at hd; subst hd; simp only [newLent]; omega

theorem lost_ok (m now : Int) (hn : n ≤ 1000) (h : Sat k w (OkV b P n * R)) :
    Calls Try.prog 11 #[pt b, .int .i64 m, .int .i64 now] w fun e w' => ∃ v, e = .returned v ∧ Sat k w' (OkV b P (n + 1) * R) := by
  obtain ⟨last, G, N, h1, h2, h3, h4⟩ := ok_open h
  obtain ⟨M, K, hi⟩ := pv_inv h4
  by_cases hh : ∀ c ∈ conns G, c.num ≠ m
  · exact (lost_none k w R b P last G N m now hh h4).mono fun e w' ⟨he, hs⟩ => ⟨_, he, ok_close hs h1 (by omega) (by omega)⟩
  · obtain ⟨c, hcm, rfl⟩ : ∃ c, c ∈ conns G ∧ c.num = m := Classical.byContradiction fun hn => hh fun c hc e => hn ⟨c, hc, e⟩
    obtain ⟨p, g, q, r, t, rfl, hc⟩ := conns_split hcm
    have hl' : ∀ g', (p ++ g' :: q).length ≤ n + 1 := fun g' => by simp at h2 ⊢; omega
    cases hsp : g.sp with
    | nil => exact (lost_free k w R b P last p q g N r t c hc hsp now h4).mono fun e w' ⟨he, hs⟩ => ⟨_, he, ok_close hs (full_mid h1 (fun hq => absurd hsp hq)) (hl' _) (by omega)⟩
    | cons y sp => exact (lost_next k w R b P last p q g N r t c hc y sp hsp now (by omega) h4).mono fun e w' ⟨he, hs⟩ => ⟨_, he, ok_close hs (full_lost h1 hc hsp (waiter_nn hi (g := g) (by simp) (y := y) (by simp [hsp]))) (hl' _) (by omega)⟩

theorem leave_ok (x now : Int) (hn : n ≤ 1000) (h : Sat k w (OkV b P n * R)) :
    Calls Try.prog 12 #[pt b, .int .i64 x, .int .i64 now] w fun e w' => ∃ v, e = .returned v ∧ Sat k w' (OkV b P (n + 1) * R) := by
  obtain ⟨last, G, N, h1, h2, h3, h4⟩ := ok_open h
  obtain ⟨M, K, hi⟩ := pv_inv h4
  by_cases hh : NoHold G x
  · refine (leave_none k w R b P last G N x now hh h4).mono fun e w' ⟨he, hs⟩ => ⟨_, he, ok_close hs (full_map h1 fun g _ hg => ⟨fun e => hg ?_, rfl⟩) (by rw [List.length_map]; omega) (by omega)⟩
    show leaveL x g.sp = []
    rw [e]; simp [leaveL, plc]
  · obtain ⟨hx, p, g, q, r, t, c, rfl, hc, rfl⟩ := nohold_not hh
    have hl' : ∀ g', (p ++ g' :: q).length ≤ n + 1 := fun g' => by simp at h2 ⊢; omega
    cases hsp : g.sp with
    | nil => exact (leave_free k w R b P last _ p q g N r t c rfl hc hx hsp _ now rfl h4).mono fun e w' ⟨he, hs⟩ => ⟨_, he, ok_close hs (full_mid h1 (fun hq => absurd hsp hq)) (hl' _) (by omega)⟩
    | cons y sp => exact (leave_next k w R b P last _ p q g N r t c rfl hc hx y sp hsp (by omega) _ now rfl h4).mono fun e w' ⟨he, hs⟩ => ⟨_, he, ok_close hs (full_lost h1 hc hsp (waiter_nn hi (g := g) (by simp) (y := y) (by simp [hsp]))) (hl' _) (by omega)⟩

theorem late_ok (now : Int) (hn : n ≤ 1000) (h : Sat k w (OkV b P n * R)) :
    Calls Try.prog 13 #[pt b, .int .i64 now] w fun e w' => ∃ v, e = .returned v ∧ Sat k w' (OkV b P (n + 1) * R) := by
  obtain ⟨last, G, N, h1, h2, h3, h4⟩ := ok_open h
  refine (late_pool k w R b P last G N now (by omega) h4).mono fun e w' ⟨v, he, hs⟩ => ⟨v, he, ok_close hs.drop (full_map h1 fun g _ hg => ⟨fun e => hg ?_, rfl⟩) (by rw [List.length_map]; omega) (by omega)⟩
  show stayF now g.sp = []
  rw [e]; rfl

set_option maxHeartbeats 1000000 in
theorem reap_early (last : Int) (G : List Gp) (N : List ByteArray) (now : Int) (h1 : now < -9223372036854775808 + P.idl) (h : Sat k w (PoolV b P last G N * R)) :
    Calls Try.prog 14 #[pt b, .int .i64 now] w fun e w' => e = .returned (.slice none 0 0) ∧ Sat k w' (PoolV b P last G N * R) := by
  obtain ⟨A, B, L, M, K, hi, hr⟩ := pv_open h
  obtain ⟨p1, p2, p3, p4, p5, p6, p7, p8⟩ := hi.ok
  obtain ⟨mG, vN, mC, mK, hs⟩ := pool_open hr
  have c3 : w.cell? ⟨b, 3, none⟩ = some (.int .i64 P.idl) := hs.cell 3
  have c5 : w.cell? ⟨b, 5, none⟩ = some (.map (some mG)) := hs.cell 5
  go_enter Try.func14, Try.ntmps14
  go_wp2_with (go_at_call 20; refine (pthere_any _ _ _ c5).mono ?_; rintro e w' ⟨rfl, rfl⟩)
  go_ret
  exact ⟨rfl, h⟩

theorem reap_ok (now : Int) (hn : n ≤ 1000) (h0 : now ≤ 9223372036854775807) (h : Sat k w (OkV b P n * R)) :
    Calls Try.prog 14 #[pt b, .int .i64 now] w fun e w' => ∃ v, e = .returned v ∧ Sat k w' (OkV b P (n + 1) * R) := by
  obtain ⟨last, G, N, h1, h2, h3, h4⟩ := ok_open h
  by_cases he : now < -9223372036854775808 + P.idl
  · exact (reap_early k w R b P last G N now he h4).mono fun e w' ⟨he, hs⟩ => ⟨_, he, ok_close hs h1 (by omega) (by omega)⟩
  · refine (reap_pool k w R b P last G N now (by omega) h0 (by omega) h4).mono fun e w' ⟨v, he, hs⟩ => ⟨v, he, ok_close hs.drop (full_map h1 fun g hg hs => ⟨hs, ?_⟩) (by rw [List.length_map]; omega) (by omega)⟩
    refine List.filter_eq_self.2 fun c hc => ?_
    have := (h1 g hg hs).1 c hc
    simp [oldC, this]

theorem count_ok (last : Int) (G : List Gp) (N : List ByteArray) (s : ByteArray) (h1 : Full P G) (h : Sat k w (PoolV b P last G N * R)) :
    Calls Try.prog 15 #[pt b, .string s] w fun e w' => ∃ a i t : Int, e = .returned (.tuple #[.int .i64 a, .int .i64 i, .int .i64 t]) ∧ a ≤ P.lim ∧ i ≤ a ∧ (t ≤ 0 ∨ (i ≤ 0 ∧ P.lim ≤ a)) ∧ Sat k w' (PoolV b P last G N * R) := by
  obtain ⟨M, K, hi⟩ := pv_inv h
  by_cases hg : ∃ g ∈ G, g.name = s
  · obtain ⟨g, hg, rfl⟩ := hg
    obtain ⟨p, q, rfl⟩ := List.append_of_mem hg
    have hsz := hi.sz g (by simp)
    have hid := idleN_le g.cs
    refine (count_some k w R b P last p q g N h).mono fun e w' ⟨he, hs⟩ => ⟨_, _, _, he, hsz, by omega, ?_, hs⟩
    by_cases hsp : g.sp = []
    · left; simp [hsp]
    · right
      obtain ⟨f1, f2⟩ := full_at h1 hsp
      have : idleN g.cs = 0 := by
        unfold idleN
        rw [List.length_eq_zero_iff, List.filter_eq_nil_iff]
        intro c hc
        simpa using f1 c hc
      omega
  · refine (count_none k w R b P last G N s (fun g hgm e => hg ⟨g, hgm, e⟩) h).mono fun e w' ⟨he, hs⟩ => ⟨_, _, _, he, ?_, by omega, .inl (by omega), hs⟩
    have := hi.ok.1
    omega
end

def hget (G : List Gp) (x : Int) : Option Int := ((conns G).find? fun c => decide (c.cl = x)).map (·.num)

theorem nodup_inj {α β : Type} (f : α → β) {l : List α} (h : (l.map f).Nodup) {a b : α} (ha : a ∈ l) (hb : b ∈ l) (e : f a = f b) : a = b := by
  induction l with
  | nil => cases ha
  | cons x r ih =>
    rw [List.map_cons, List.nodup_cons] at h
    rcases List.mem_cons.1 ha with h1 | h1 <;> rcases List.mem_cons.1 hb with h2 | h2
    · exact h1.trans h2.symm
    · subst h1; exact absurd (List.mem_map.2 ⟨b, h2, e.symm⟩) h.1
    · subst h2; exact absurd (List.mem_map.2 ⟨a, h1, e⟩) h.1
    · exact ih h.2 h1 h2

theorem hget_inj {P : PP} {last : Int} {G : List Gp} {N : List ByteArray} {M K : List (Int × Int)} (hi : PInv P last G N M K) {x y u v : Int} (hx : hget G x = some u) (hy : hget G y = some v) (hne : x ≠ y) : u ≠ v := by
  unfold hget at hx hy
  rw [Option.map_eq_some_iff] at hx hy
  obtain ⟨c, hc, rfl⟩ := hx
  obtain ⟨d, hd, rfl⟩ := hy
  intro e
  have c1 := List.mem_of_find?_eq_some hc
  have d1 := List.mem_of_find?_eq_some hd
  have c2 := List.find?_some hc
  have d2 := List.find?_some hd
  simp only [decide_eq_true_eq] at c2 d2
  have hcd : c = d := by
    exact nodup_inj (·.num) hi.pi.nu c1 d1 e
  subst hcd
  exact hne (c2.symm.trans d2)

theorem holds_any (k : Env) (w : World) (R : Assn) (b : Nat) (P : PP) (last : Int) (G : List Gp) (N : List ByteArray) (x : Int) (hx : 0 ≤ x) (h : Sat k w (PoolV b P last G N * R)) :
    Calls Try.prog 16 #[pt b, .int .i64 x] w fun e w' => e = .returned (.tuple #[.int .i64 ((hget G x).getD 0), .bool (hget G x).isSome]) ∧ Sat k w' (PoolV b P last G N * R) := by
  cases hh : (conns G).find? fun c => decide (c.cl = x) with
  | none =>
    have e1 : hget G x = none := by unfold hget; rw [hh]; rfl
    rw [e1]
    refine holds_none k w R b P last G N x (.inr fun c hc e => ?_) h
    have := List.find?_eq_none.1 hh c hc
    simp [e] at this
  | some c =>
    have e1 : hget G x = some c.num := by unfold hget; rw [hh]; rfl
    rw [e1]
    have c1 := List.mem_of_find?_eq_some hh
    have c2 := List.find?_some hh
    simp only [decide_eq_true_eq] at c2
    subst c2
    obtain ⟨p, g, q, r, s, rfl, hc⟩ := conns_split c1
    exact holds_some k w R b P last p q g N r s c hc (by omega) h

end Go.Proofs.Yticponkpgaofnaa
