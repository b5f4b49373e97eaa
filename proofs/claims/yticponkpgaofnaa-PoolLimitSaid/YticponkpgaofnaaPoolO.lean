/- Contracts of package pool: Reap. -/
import Derived.Test.YticponkpgaofnaaPoolN
namespace Go.Proofs.Yticponkpgaofnaa
set_option linter.all false
open Go Go.RowKit

/-- Is a connection idle for too long, and below a number? -/
def oldC (t i : Int) (c : Cn) : Bool := decide (c.num < i ∧ c.cl = -1 ∧ c.since ≤ t)
def reapG (t i : Int) (g : Gp) : Gp := ⟨g.name, g.cs.filter (fun c => !oldC t i c), g.sp⟩
def reapL (t : Int) (G : List Gp) : Nat → List Int
  | 0 => []
  | n + 1 => if ((conns G).any fun c => decide (c.num = (n : Int) + 1) && oldC t ((n : Int) + 2) c) = true then reapL t G n ++ [(n : Int) + 1] else reapL t G n
theorem reapL_len (t : Int) (G : List Gp) (n : Nat) : (reapL t G n).length ≤ n := by
  induction n with
  | zero => simp [reapL]
  | succ n ih =>
    rw [reapL]
    split
    · rw [List.length_append, List.length_singleton]; omega
    · omega
theorem reap_one (t : Int) (G : List Gp) (h : ∀ c ∈ conns G, 1 ≤ c.num) : G.map (reapG t 1) = G := by
  conv => rhs; rw [← List.map_id G]
  refine List.map_congr_left fun g hg => ?_
  have : g.cs.filter (fun c => !oldC t 1 c) = g.cs := by
    rw [List.filter_eq_self]
    intro c hc
    have := h c (List.mem_flatMap.2 ⟨g, hg, hc⟩)
    simp [oldC]; omega
  unfold reapG
  rw [this]; rfl
def rmC (t i : Int) (c : Cn) : Bool := decide (c.num = i ∧ c.cl = -1 ∧ c.since ≤ t)
def rmG (t i : Int) (g : Gp) : Gp := ⟨g.name, g.cs.filter (fun c => !rmC t i c), g.sp⟩
theorem reap_next (t i : Int) (G : List Gp) : G.map (reapG t (i + 1)) = (G.map (reapG t i)).map (rmG t i) := by
  rw [List.map_map]
  refine List.map_congr_left fun g _ => ?_
  show reapG t (i + 1) g = rmG t i (reapG t i g)
  unfold reapG rmG
  simp only [List.filter_filter]
  congr 1
  refine List.filter_congr fun c _ => ?_
  unfold oldC rmC
  by_cases h : c.cl = -1 ∧ c.since ≤ t
  · simp only [h, and_true, and_self]
    rw [← Bool.not_or, Bool.eq_iff_iff]
    simp
    omega
  · have h1 : ∀ P : Prop, ¬ (P ∧ c.cl = -1 ∧ c.since ≤ t) := fun P hp => h hp.2
    simp [h1]
theorem rm_none (t i : Int) (G : List Gp) (h : ∀ c ∈ conns G, c.num = i → ¬ (c.cl = -1 ∧ c.since ≤ t)) : G.map (rmG t i) = G := by
  conv => rhs; rw [← List.map_id G]
  refine List.map_congr_left fun g hg => ?_
  have : g.cs.filter (fun c => !rmC t i c) = g.cs := by
    rw [List.filter_eq_self]
    intro c hc
    have h1 := h c (List.mem_flatMap.2 ⟨g, hg, hc⟩)
    simp only [rmC, Bool.not_eq_true', decide_eq_false_iff_not]
    exact fun h2 => h1 h2.1 h2.2
  unfold rmG
  rw [this]; rfl
theorem rm_one (t : Int) (p q : List Gp) (g : Gp) (r s : List Cn) (c : Cn) (hc : g.cs = r ++ c :: s) (hn : ∀ d ∈ conns p ++ ((r ++ s) ++ conns q), d.num ≠ c.num) (h1 : c.cl = -1) (h2 : c.since ≤ t) :
    (p ++ g :: q).map (rmG t c.num) = p ++ ⟨g.name, r ++ s, g.sp⟩ :: q := by
  have hp := rm_none t c.num p fun d hd e => absurd e (hn d (by simp [hd]))
  have hq := rm_none t c.num q fun d hd e => absurd e (hn d (by simp [hd]))
  rw [List.map_append, List.map_cons, hp, hq]
  congr 2
  unfold rmG
  rw [hc]
  congr 1
  have hf : ∀ l : List Cn, (∀ d ∈ l, d ∈ r ++ s) → l.filter (fun d => !rmC t c.num d) = l := by
    intro l hl
    rw [List.filter_eq_self]
    intro d hd
    have := hn d (by have := hl d hd; simp only [List.mem_append] at this ⊢; exact .inr (.inl this))
    simp [rmC, this]
  rw [List.filter_append, List.filter_cons, if_neg (by simp [rmC, h1, h2]), hf r (fun d hd => by simp [hd]), hf s (fun d hd => by simp [hd])]
theorem reap_mem (t i : Int) (G : List Gp) (c : Cn) (hi : i ≤ c.num) : c ∈ conns (G.map (reapG t i)) ↔ c ∈ conns G := by
  simp only [conns, List.mem_flatMap, List.mem_map]
  constructor
  · rintro ⟨g', ⟨g, hg, rfl⟩, hc⟩
    exact ⟨g, hg, (List.mem_filter.1 hc).1⟩
  · rintro ⟨g, hg, hc⟩
    exact ⟨_, ⟨g, hg, rfl⟩, List.mem_filter.2 ⟨hc, by simp [oldC]; omega⟩⟩

theorem conns_split {G : List Gp} {c : Cn} (h : c ∈ conns G) : ∃ p g q r s, G = p ++ g :: q ∧ g.cs = r ++ c :: s := by
  obtain ⟨g, hg, hc⟩ := List.mem_flatMap.1 h
  obtain ⟨p, q, rfl⟩ := List.append_of_mem hg
  obtain ⟨r, s, hs⟩ := List.append_of_mem hc
  exact ⟨p, g, q, r, s, rfl, hs⟩

set_option maxHeartbeats 4000000 in
theorem reap_pool (k : Env) (w : World) (R : Assn) (b : Nat) (P : PP) (last : Int) (G : List Gp) (N : List ByteArray) (now : Int) (h1 : -9223372036854775808 + P.idl ≤ now) (h2 : now ≤ 9223372036854775807) (hl : last ≤ 1000000) (h : Sat k w (PoolV b P last G N * R)) :
    Calls Try.prog 14 #[pt b, .int .i64 now] w fun e w' => ∃ v, e = .returned v ∧ Sat k w' (Ints v (reapL (now - P.idl) G last.toNat) * (PoolV b P last (G.map (reapG (now - P.idl) (last + 1))) N * R)) := by
  obtain ⟨A, B, L, M, K, hi, hr⟩ := pv_open h
  have hi1 := hi.ok.2.2.2.2.2.2.1
  have hi2 := hi.ok.2.2.2.2.2.2.2
  have hl0 := hi.pi.l0
  have hlim := hi.ok.2.1
  have h3 : ¬ now < -9223372036854775808 + P.idl := by omega
  have hone := reap_one (now - P.idl) G fun c hc => (hi.pi.rg c hc).1
  obtain ⟨mG, vN, mC, mK, hs⟩ := pool_open hr
  have c5 : w.cell? ⟨b, 5, none⟩ = some (.map (some mG)) := hs.cell 5
  have c3 : w.cell? ⟨b, 3, none⟩ = some (.int .i64 P.idl) := hs.cell 3
  have HI0 := Lib.hid hi
  have HONE := Lib.hid hone
  have HLN : Hid ((last.toNat : Int) = last) := Int.toNat_of_nonneg hl0
  obtain ⟨ln, hln⟩ : ∃ ln, last.toNat = ln := ⟨_, rfl⟩
  have HLN2 := Lib.hid hln
  have hll : (ln : Int) = last := by rw [← hln]; exact HLN.out
  clear h hs hi hone hln
  go_enter Try.func14, Try.ntmps14
  go_wp2_with (go_at_call 20; refine (pthere_any _ _ _ c5).mono ?_; rintro e w' ⟨rfl, rfl⟩)
  clear c5 c3
  obtain ⟨t, ht⟩ : ∃ t, now - P.idl = t := ⟨_, rfl⟩
  have HTT := Lib.hid ht
  clear ht
  go_loopw [5, 6, 7] (fun v i _ wr => ∃ n : Nat, n ≤ ln ∧ i = .int .i64 ((n : Int) + 1) ∧ ∃ M' K', Hid (PInv P last (G.map (reapG t ((n : Int) + 1))) N M' K') ∧ Sat k wr (Ints v (reapL t G n) * (PoolR b P last A B L (G.map (reapG t ((n : Int) + 1))) N M' K' * R))) (fun _ i _ _ => (last + 2 - intOf i).toNat)
  case atStart =>
    refine ⟨0, Nat.zero_le _, rfl, M, K, ?_, ?_⟩
    · unfold Hid
      have := HONE.out
      rw [HTT.out] at this
      show PInv P last (G.map (reapG t 1)) N M K
      rw [this]; exact HI0.out
    · have := HONE.out
      rw [HTT.out] at this
      show Sat k w (Ints _ [] * (PoolR b P last A B L (G.map (reapG t 1)) N M K * R))
      rw [this]; exact own_nil hr
  case round =>
    clear hr
    obtain ⟨n, hn, rfl, M', K', HI, hr⟩ := hrel
    obtain ⟨va, vc, rfl⟩ := own_val hr
    have hrl := reapL_len t G n
    obtain ⟨mG, vN, mC, mK, hs⟩ := pool_open hr.swap
    have c4 : wr.cell? ⟨b, 4, none⟩ = some (.int .i64 last) := hs.cell 4
    have c7 : wr.cell? ⟨b, 7, none⟩ = some (.map (some mC)) := hs.cell 7
    have c3 : wr.cell? ⟨b, 3, none⟩ = some (.int .i64 P.idl) := hs.cell 3
    by_cases hlt : n < ln
    · have hlt2 : (n : Int) + 1 ≤ last := by omega
      have hlook := run_lookup_sat KInt mapC zeroC hs.get4 ((n : Int) + 1)
      rw [ments_get] at hlook
      have HRN := Lib.hid (reap_next t ((n : Int) + 1) G)
      cases hm : mget ((n : Int) + 1) M' with
      | none =>
        rw [hm] at hlook
        simp only [Option.map_none, Option.getD_none] at hlook
        have hno := HI.out.pi.getM_none.1 hm
        have HG2 : Hid (G.map (reapG t (((n + 1 : Nat) : Int) + 1)) = G.map (reapG t ((n : Int) + 1))) := by
          unfold Hid
          rw [show (((n + 1 : Nat) : Int) + 1) = ((n : Int) + 1) + 1 by omega, HRN.out, rm_none t _ _ fun c hc e => absurd e (hno c hc)]
        have HL2 : Hid (reapL t G (n + 1) = reapL t G n) := by
          unfold Hid
          rw [reapL, if_neg]
          intro ha
          obtain ⟨c, hc, he⟩ := List.any_eq_true.1 ha
          simp only [Bool.and_eq_true, decide_eq_true_eq] at he
          exact hno c ((reap_mem t _ G c (by omega)).2 hc) he.1
        clear hm hno
        go_wp2_with fail
        go_quiet (fail)
        go_wp2_with fail
        go_roundw
        case rel =>
          refine ⟨n + 1, by omega, by go_num, M', K', ?_, ?_⟩
          · unfold Hid; rw [HG2.out]; exact HI.out
          · rw [HG2.out, HL2.out]; exact hr.drewN _
        case measure => simp [intOf]; omega
      | some nv =>
        obtain ⟨hnv, c, hc, hcn⟩ := HI.out.pi.getM.1 hm
        obtain ⟨p, g, q, r, s, hGi, hgc⟩ := conns_split hc
        rw [hm] at hlook
        simp only [Option.map_some, Option.getD_some] at hlook
        rw [show nv = c.num by rw [hcn, hnv]] at hlook
        rw [hGi] at hr
        obtain ⟨mG2, vN2, mC2, mK2, a2, cap2, hs2⟩ := pool_conn hr.swap hgc
        have d2 : wr.cell? ⟨A c.num, 2, none⟩ = some (.int .i64 c.cl) := hs2.get3.cell 2
        have d3 : wr.cell? ⟨A c.num, 3, none⟩ = some (.int .i64 c.since) := hs2.get3.cell 3
        have ww : IntKind.i64.wrap (now - P.idl) = now - P.idl := IntWalk.i64_in _ (by omega)
        have hmem2 := (reap_mem t _ G c (by omega)).1 hc
        have huniq : ∀ d ∈ conns (G.map (reapG t ((n : Int) + 1))), d.num = (n : Int) + 1 → d = c := by
          intro d hd e
          have hp := hs2.get3
          obtain ⟨p2, g2, q2, r2, s2, hG2, hg2⟩ := conns_split hd
          rcases Decidable.em (d = c) with h | h
          · exact h
          · exfalso
            have hnu := HI.out.pi.nu
            have hp2 : (conns (G.map (reapG t ((n : Int) + 1)))).Perm (c :: (conns p ++ ((r ++ s) ++ conns q))) := by rw [hGi]; exact conns_perm p q g r s c hgc
            have hnu2 := (hp2.map (·.num)).nodup_iff.1 hnu
            rw [List.map_cons, List.nodup_cons] at hnu2
            have hd2 := hp2.mem_iff.1 hd
            rcases List.mem_cons.1 hd2 with h3 | h3
            · exact h h3
            · exact hnu2.1 (by rw [hcn, ← e]; exact List.mem_map_of_mem h3)
        have HL : Hid (reapL t G (n + 1) = if c.cl = -1 ∧ c.since ≤ t then reapL t G n ++ [(n : Int) + 1] else reapL t G n) := by
          unfold Hid
          rw [reapL]
          by_cases hq : c.cl = -1 ∧ c.since ≤ t
          · rw [if_pos hq, if_pos]
            refine List.any_eq_true.2 ⟨c, hmem2, ?_⟩
            simp [oldC, hcn, hq]
          · rw [if_neg hq, if_neg]
            intro ha
            obtain ⟨d, hd, he⟩ := List.any_eq_true.1 ha
            simp only [Bool.and_eq_true, decide_eq_true_eq, oldC] at he
            have := huniq d ((reap_mem t _ G d (by omega)).2 hd) he.1
            subst this
            exact hq he.2.2
        have HG : Hid (¬ (c.cl = -1 ∧ c.since ≤ t) → G.map (reapG t (((n + 1 : Nat) : Int) + 1)) = p ++ g :: q) := by
          intro hq
          rw [show (((n + 1 : Nat) : Int) + 1) = ((n : Int) + 1) + 1 by omega, HRN.out, rm_none t _ _ fun d hd e => by rw [huniq d hd e]; exact hq, hGi]
        have HGd : Hid ((c.cl = -1 ∧ c.since ≤ t) → G.map (reapG t (((n + 1 : Nat) : Int) + 1)) = p ++ ⟨g.name, r ++ s, g.sp⟩ :: q) := by
          intro hq
          have hnd : ∀ d ∈ conns p ++ ((r ++ s) ++ conns q), d.num ≠ c.num := by
            intro d hd e
            have hnu := HI.out.pi.nu
            have hp2 : (conns (G.map (reapG t ((n : Int) + 1)))).Perm (c :: (conns p ++ ((r ++ s) ++ conns q))) := by rw [hGi]; exact conns_perm p q g r s c hgc
            have hnu2 := (hp2.map (·.num)).nodup_iff.1 hnu
            rw [List.map_cons, List.nodup_cons] at hnu2
            exact hnu2.1 (by rw [← e]; exact List.mem_map_of_mem hd)
          rw [show (((n + 1 : Nat) : Int) + 1) = ((n : Int) + 1) + 1 by omega, HRN.out, hGi, ← hcn]
          exact rm_one t p q g r s c hgc hnd hq.1 hq.2
        have HI2 : Hid (PInv P last (p ++ g :: q) N M' K') := by unfold Hid; rw [← hGi]; exact HI.out
        have HGC := Lib.hid hgc
        have HCN := Lib.hid hcn
        clear hm hnv hc hGi hgc hmem2 huniq hs hs2 hcn
        by_cases hcl : c.cl = -1
        · have hclb : (c.cl == -1) = true := by simpa using hcl
          by_cases hsi : c.since ≤ now - P.idl
          · have hsb : decide (c.since ≤ now - P.idl) = true := by simpa using hsi
            have hyes : c.cl = -1 ∧ c.since ≤ t := by rw [← HTT.out]; exact ⟨hcl, hsi⟩
            have HG2 := Lib.hid (HGd.out hyes)
            have HL2 : Hid (reapL t G (n + 1) = reapL t G n ++ [(n : Int) + 1]) := by unfold Hid; rw [HL.out, if_pos hyes]
            have hpo := pi_others HI2.out HGC.out
            have hsz := HI2.out.sz g (by simp)
            have HD := Lib.hid (fun (w' : World) (R' : Assn) (h' : Sat k w' (PoolR b P last A B L (p ++ g :: q) N M' K' * R')) => drop_any k w' R' b P last A B L p q g N M' K' r s c HGC.out hpo (by omega) h')
            have HPI : Hid (PInv P last (p ++ ⟨g.name, r ++ s, g.sp⟩ :: q) N (mdel c.num M') (dropK c K')) := by
              refine HI2.out.turn rfl ?_ (pi_gone (pi_at HI2.out HGC.out).drop)
              have : (r ++ s).length ≤ g.cs.length := by rw [HGC.out]; simp
              show ((r ++ s).length : Int) ≤ P.lim
              omega
            clear hcl hyes hsi hpo hsz
            go_wp2_with fail
            go_quiet (fail)
            go_wp2_with fail
            refine (HD.out _ _ (hr.drewN _).swap).mono ?_
            rintro e w3 ⟨rfl, h3⟩
            go_wp2_with (at_builtin; refine wpList_append_sat TInts (h3.get3.alloc' _) (.tmp 59) (.tmp 61) _ 1 1 [.int .i64 ((n : Int) + 1)] rfl rfl rfl rfl rfl (fun _ => ⟨_, rfl, new_cells_at _ _ _ _ (by first | rfl | simp)⟩) (ints_one [(n : Int) + 1]) (by simp [maxLen]; omega) (by omega) ?_; intro a4 c4 w4 h4)
            go_roundw
            case rel =>
              refine ⟨n + 1, by omega, by go_num, mdel c.num M', dropK c K', ?_, ?_⟩
              · unfold Hid; rw [HG2.out]; exact HPI.out
              · rw [HG2.out, HL2.out]; exact ints_push h4.drop2
            case measure => simp [intOf]; omega
          · have hsb : decide (c.since ≤ now - P.idl) = false := by simpa using hsi
            have hno : ¬ (c.cl = -1 ∧ c.since ≤ t) := by rw [← HTT.out]; exact fun h => hsi h.2
            have HG2 := Lib.hid (HG.out hno)
            have HL2 : Hid (reapL t G (n + 1) = reapL t G n) := by unfold Hid; rw [HL.out, if_neg hno]
            clear hcl hno hsi
            go_wp2_with fail
            go_quiet (fail)
            go_wp2_with fail
            go_roundw
            case rel =>
              refine ⟨n + 1, by omega, by go_num, M', K', ?_, ?_⟩
              · unfold Hid; rw [HG2.out]; exact HI2.out
              · rw [HG2.out, HL2.out]; exact hr.drewN _
            case measure => simp [intOf]; omega
        · have hclb : (c.cl == -1) = false := by simpa using hcl
          have hno : ¬ (c.cl = -1 ∧ c.since ≤ t) := fun h => hcl h.1
          have HG2 := Lib.hid (HG.out hno)
          have HL2 : Hid (reapL t G (n + 1) = reapL t G n) := by unfold Hid; rw [HL.out, if_neg hno]
          clear hcl hno
          go_wp2_with fail
          go_quiet (fail)
          go_wp2_with fail
          go_roundw
          case rel =>
            refine ⟨n + 1, by omega, by go_num, M', K', ?_, ?_⟩
            · unfold Hid; rw [HG2.out]; exact HI2.out
            · rw [HG2.out, HL2.out]; exact hr.drewN _
          case measure => simp [intOf]; omega
    · obtain rfl : n = ln := by omega
      go_wp2_with fail
      go_ret
      refine ⟨_, rfl, ?_⟩
      rw [HLN2.out, HTT.out]
      have e : (n : Int) + 1 = last + 1 := by omega
      rw [e] at hr HI
      exact (pv_close hr.swap HI.out).swap

end Go.Proofs.Yticponkpgaofnaa
