/- Several texts in one: R12C, R12D, R12E, R12F, R12G. -/
import Derived.Test.YtlilogcojeoelaaMJ
import Derived.Test.YtlilogcojeoelaaCacheK0
namespace Go.Proofs.Ytlilogcojeoelaa
set_option linter.all false
open Go Go.RowKit

theorem strs_news {k : Env} {w : World} {R : Assn} {a : Option Addr} {c : Nat} {l : List ByteArray} (h : Sat k w (Strs (.slice a l.length c) l * R)) : 0 < l.length → ∃ ad', a = some ad' ∧ ∀ j u, (strs l)[j]? = some u → w.cell? (ad'.add j) = some u := by
  intro hp
  obtain ⟨g, rfl, _, hc, _⟩ := own_get h hp
  refine ⟨_, rfl, fun j u hu => ?_⟩
  have hj := (List.getElem?_eq_some_iff.1 hu).1
  rw [strs, List.length_map] at hj
  rw [Addr.add_lit, Nat.zero_add]
  exact (hc j (by omega)).trans hu
theorem strs_join {k : Env} {w : World} {v : Value} {l m : List ByteArray} {R : Assn} (h : Sat k w (Own 9 1 v (l.length + m.length) (strs l ++ strs m) * R)) : Sat k w (Strs v (l ++ m) * R) := by
  unfold Strs
  rw [List.length_append]
  unfold strs at h ⊢
  rw [List.map_append]; exact h

set_option maxRecDepth 100000 in
set_option maxHeartbeats 4000000 in
theorem rdkeys_any (k : Env) (w : World) (R : Assn) (b : Nat) (d : DS) (hs : ∀ s ∈ d.K.map (·.1) ++ d.T.map (·.1), s.size ≤ 300000) (hT : (d.T.length : Int) ≤ 536870912) (hK : (d.K.length : Int) ≤ 536870912) (h : Sat k w (DocR b d * R)) :
    Calls Try.prog 33 #[pq b] w fun e w' => ∃ v, e = .returned v ∧ Sat k w' (KysR v ((d.K.map (·.1) ++ d.T.map (·.1)).map resP) * (DocR b d * R)) := by
  obtain ⟨sb, qb, pa, pc, h1⟩ := dr_open h
  obtain ⟨a1, c1, a2, c2, hr⟩ := rv_open h1.swap
  have e0 : w.cell? ⟨b, 0, none⟩ = some (pq sb) := hr.get4.cell 0
  have f1 : w.cell? ⟨sb, 1, none⟩ = some (.slice a2 d.K.length c2) := hr.cell 1
  clear h h1
  go_enter Try.func33, Try.ntmps33
  go_wp2_with fail
  refine (rkeys_any k w _ a2 c2 d.K (by omega) hr.get3).mono ?_
  rintro e w1 ⟨v1, rfl, h2⟩
  clear e0 f1 hr
  have hkl : (d.K.map (·.1)).length ≤ 536870912 := by rw [List.length_map]; omega
  obtain ⟨ks, hks⟩ : ∃ ks, d.K.map (·.1) = ks := ⟨_, rfl⟩
  rw [hks] at h2 hkl hs
  have HKS := Lib.hid hks
  clear hks
  obtain ⟨xa, xc, rfl⟩ := own_val h2
  go_wp2_with (at_builtin; refine wpList_append_sat TStrs (own_nil h2) (.tmp 4) (.tmp 12) xa ks.length xc (strs ks) rfl rfl rfl rfl (by simp [strs]) (strs_news h2) (strs_one _) (by simp only [maxLen]; omega) (by omega) ?_; intro a3 c3 w3 h3; simp only [Nat.zero_add, List.nil_append] at h3; have e0 : w3.cell? ⟨b, 0, none⟩ = some (pq sb) := h3.get6.cell 0; have f0 : w3.cell? ⟨sb, 0, none⟩ = some (.slice a1 d.T.length c1) := h3.get4.cell 0)
  refine (rkeys_any k w3 _ a1 c1 d.T (by omega) h3.get5).mono ?_
  rintro e w4 ⟨v4, rfl, h4⟩
  clear e0 f0 h2
  have htl : (d.T.map (·.1)).length ≤ 536870912 := by rw [List.length_map]; omega
  obtain ⟨ts, hts⟩ : ∃ ts, d.T.map (·.1) = ts := ⟨_, rfl⟩
  rw [hts] at h4 htl hs
  have HTS := Lib.hid hts
  clear hts
  obtain ⟨ya, yc, rfl⟩ := own_val h4
  go_wp2_with (at_builtin; refine wpList_append_sat TStrs (Sat.get3 h4) (.tmp 14) (.tmp 22) ya ts.length yc (strs ts) rfl rfl rfl rfl (by simp [strs]) (strs_news h4) (strs_one _) (by simp only [maxLen]; omega) (by omega) ?_; intro a5 c5 w5 h5)
  have h6 := strs_join h5
  have hle : ks.length + ts.length = (ks ++ ts).length := (List.length_append).symm
  rw [hle] at h6 ⊢
  clear hle
  refine (rkeysof_any k w5 _ a5 c5 (ks ++ ts) hs (by rw [List.length_append]; omega) h6).mono ?_
  rintro e w6 ⟨v6, rfl, h7⟩
  go_wp2_with fail
  go_ret
  refine ⟨_, rfl, ?_⟩
  rw [HKS.out, HTS.out]
  have h8 : Sat k w6 (blk sb (.cells (cellsF (.slice a1 d.T.length c1) (.slice a2 d.K.length c2) d.al d.kp d.mo) 98 (0, 0)) * (Kvs (.slice a1 d.T.length c1) d.T * (Kvs (.slice a2 d.K.length c2) d.K * (blk b (.cells (cellsD sb qb (.slice pa d.P.length pc) d.ttl) 105 (0, 0)) * (Q11 qb d.L * (Prs (.slice pa d.P.length pc) d.P * (Strs (.slice a5 (ks ++ ts).length c5) (ks ++ ts) * (Strs (.slice ya ts.length yc) ts * (Strs (.slice xa ks.length xc) ks * (KysR v6 ((ks ++ ts).map resP) * R)))))))))) := h7.of_eq (by ac_rfl)
  have h9 := dr_close (d := d) (rv_close h8 rfl).swap rfl rfl rfl rfl rfl rfl rfl rfl
  exact h9.swap.drop.swap.drop.swap.drop.swap

set_option maxRecDepth 100000 in
set_option maxHeartbeats 4000000 in
theorem rddrop_any (k : Env) (w : World) (R : Assn) (b : Nat) (d : DS) (y : Ky) (hy : tiny y) (hl : (d.L.length : Int) ≤ 1073741824) (hp : (d.P.length : Int) ≤ 1073741824) (ht : (d.T.length : Int) + d.K.length ≤ 1073741824) (h : Sat k w (DocR b d * R)) :
    Calls Try.prog 26 #[pq b, kyV y] w fun e w' => e = .returned (.bool (rightK y && (mget (textK y) (d.T ++ d.K)).isSome)) ∧ Sat k w' (DocR b (if rightK y = true then dgone d (textK y) else d) * R) := by
  cases hr : rightK y with
  | false =>
    rw [if_neg (by simp), Bool.false_and]
    have h1 := h.alloc (.cells #[.string y.db, .string y.ro, .int .i64 y.fm, .string y.nm] 28)
    have CR := Lib.hid (fun w' R' => rright_any k w' R' y hy)
    have CT := Lib.hid (fun w' R' => rtext_any k w' R' y hy)
    clear h
    unfold kyV at CR CT ⊢
    go_enter Try.func26, Try.ntmps26
    go_upto_region 1 with fail
    generalize w.alloc (.cells #[.string y.db, .string y.ro, .int .i64 y.fm, .string y.nm] 28) = w1 at *
    generalize w.heap.size = o3 at *
    have d0 : w1.cell? ⟨o3, 0, none⟩ = some (.string y.db) := h1.cell 0
    have d1 : w1.cell? ⟨o3, 1, none⟩ = some (.string y.ro) := h1.cell 1
    have d2 : w1.cell? ⟨o3, 2, none⟩ = some (.int .i64 y.fm) := h1.cell 2
    have d3 : w1.cell? ⟨o3, 3, none⟩ = some (.string y.nm) := h1.cell 3
    rw [hr] at CR
    clear hr
    go_wp2_with fail
    refine (CR.out w1 _ h1).mono ?_
    rintro e w2 ⟨rfl, h2⟩
    go_wp2_with fail
    go_ret
    exact ⟨rfl, h2.drop⟩
  | true =>
    rw [if_pos rfl, Bool.true_and]
    have h1 := h.alloc (.cells #[.string y.db, .string y.ro, .int .i64 y.fm, .string y.nm] 28)
    have CR := Lib.hid (fun w' R' => rright_any k w' R' y hy)
    have CT := Lib.hid (fun w' R' => rtext_any k w' R' y hy)
    clear h
    unfold kyV at CR CT ⊢
    go_enter Try.func26, Try.ntmps26
    go_upto_region 1 with fail
    generalize w.alloc (.cells #[.string y.db, .string y.ro, .int .i64 y.fm, .string y.nm] 28) = w1 at *
    generalize w.heap.size = o3 at *
    have d0 : w1.cell? ⟨o3, 0, none⟩ = some (.string y.db) := h1.cell 0
    have d1 : w1.cell? ⟨o3, 1, none⟩ = some (.string y.ro) := h1.cell 1
    have d2 : w1.cell? ⟨o3, 2, none⟩ = some (.int .i64 y.fm) := h1.cell 2
    have d3 : w1.cell? ⟨o3, 3, none⟩ = some (.string y.nm) := h1.cell 3
    rw [hr] at CR
    clear hr
    go_wp2_with fail
    refine (CR.out w1 _ h1).mono ?_
    rintro e w2 ⟨rfl, h2⟩
    clear d0 d1 d2 d3
    have d0 : w2.cell? ⟨o3, 0, none⟩ = some (.string y.db) := h2.cell 0
    have d1 : w2.cell? ⟨o3, 1, none⟩ = some (.string y.ro) := h2.cell 1
    have d2 : w2.cell? ⟨o3, 2, none⟩ = some (.int .i64 y.fm) := h2.cell 2
    have d3 : w2.cell? ⟨o3, 3, none⟩ = some (.string y.nm) := h2.cell 3
    go_wp2_with fail
    refine (CT.out w2 _ h2).mono ?_
    rintro e w3 ⟨rfl, h3⟩
    go_wp2_with fail
    refine (rgone_any k w3 _ b d (textK y) hl hp ht h3.swap).mono ?_
    rintro e w4 ⟨rfl, h4⟩
    go_wp2_with fail
    go_ret
    exact ⟨rfl, h4.swap.drop⟩

def dgones (ts : List ByteArray) (d : DS) : DS := ts.foldl dgone d
theorem dgones_snoc (ts : List ByteArray) (t : ByteArray) (d : DS) : dgones (ts ++ [t]) d = dgone (dgones ts d) t := by simp [dgones]
theorem dgones_len (ts : List ByteArray) (d : DS) : (dgones ts d).T.length ≤ d.T.length ∧ (dgones ts d).K.length ≤ d.K.length ∧ (dgones ts d).L.length ≤ d.L.length ∧ (dgones ts d).P.length ≤ d.P.length := by
  induction ts generalizing d with
  | nil => exact ⟨Nat.le_refl _, Nat.le_refl _, Nat.le_refl _, Nat.le_refl _⟩
  | cons t r ih =>
    obtain ⟨h1, h2, h3, h4⟩ := ih (dgone d t)
    exact ⟨Nat.le_trans h1 (dropV_len t d.T), Nat.le_trans h2 (dropV_len t d.K), Nat.le_trans h3 (dropV_len t d.L), Nat.le_trans h4 (dropP_len t d.P)⟩

end Go.Proofs.Ytlilogcojeoelaa

namespace Go.Proofs.Ytlilogcojeoelaa
set_option linter.all false
open Go Go.RowKit

set_option maxRecDepth 100000 in
set_option maxHeartbeats 4000000 in
theorem rdtick_any (k : Env) (w : World) (R : Assn) (b : Nat) (d : DS) (now : Int) (hs : ∀ s ∈ dueL d.L now, s.size ≤ 300000) (hl : (d.L.length : Int) ≤ 536870912) (hp : (d.P.length : Int) ≤ 536870912) (ht : (d.T.length : Int) + d.K.length ≤ 1073741824) (h : Sat k w (DocR b d * R)) :
    Calls Try.prog 28 #[pq b, .int .i64 now] w fun e w' => ∃ v, e = .returned v ∧ Sat k w' (KysR v ((dueL d.L now).map resP) * (DocR b (dgones (dueL d.L now) { d with L := restL d.L now }) * R)) := by
  obtain ⟨sb, qb, pa, pc, h1⟩ := dr_open h
  have c1 : w.cell? ⟨b, 1, none⟩ = some (pq qb) := h1.cell 1
  have C1 := Lib.hid (rqdue_any k w _ qb d.L now (by omega) h1.get3)
  have hdl := dueL_len d.L now
  have hrl := restL_len d.L now
  obtain ⟨d1, hd1⟩ : ∃ d1 : DS, d1 = { d with L := restL d.L now } := ⟨_, rfl⟩
  have HD1 := Lib.hid hd1
  have z1 : (d1.L.length : Int) ≤ 536870912 := by rw [hd1]; show ((restL d.L now).length : Int) ≤ _; omega
  have z2 : (d1.P.length : Int) ≤ 536870912 := by rw [hd1]; exact hp
  have z3 : (d1.T.length : Int) + d1.K.length ≤ 1073741824 := by rw [hd1]; exact ht
  rw [← hd1]
  clear h h1 hd1
  obtain ⟨ds, hds⟩ : ∃ ds, dueL d.L now = ds := ⟨_, rfl⟩
  rw [hds] at C1 hdl hs ⊢
  clear hds
  go_enter Try.func28, Try.ntmps28
  go_wp2_with fail
  refine C1.out.mono ?_
  rintro e w1 ⟨v1, rfl, h2⟩
  obtain ⟨xa, xc, rfl⟩ := own_val h2
  have h3 : Sat k w1 (DocR b (dgones (ds.take 0) d1) * (Strs (.slice xa ds.length xc) ds * R)) :=
    dr_close (d := d1) (s := sb) (q := qb) (v := .slice pa d.P.length pc) (cs := cellsD sb qb (.slice pa d.P.length pc) d.ttl) (al := d.al) (kp := d.kp) (mo := d.mo) (T := d.T) (K := d.K) (L := restL d.L now) (P := d.P) (h2.of_eq (by ac_rfl)) (by rw [HD1.out]) (by rw [HD1.out]) (by rw [HD1.out]) (by rw [HD1.out]) (by rw [HD1.out]) (by rw [HD1.out]) (by rw [HD1.out]) (by rw [HD1.out])
  clear c1 C1 h2
  go_wp2_with fail
  go_loopw [6] (fun i wr => ∃ j : Nat, j ≤ ds.length ∧ i = .int .i64 j ∧ Sat k wr (DocR b (dgones (ds.take j) d1) * (Strs (.slice xa ds.length xc) ds * R))) (fun i _ => ds.length - (intOf i).toNat)
  case atStart => exact ⟨0, Nat.zero_le _, rfl, h3⟩
  case round =>
    clear h3
    obtain ⟨j, hj, rfl, hr⟩ := hrel
    by_cases hlt : j < ds.length
    · have hlt' : (j : Int) < ds.length := by omega
      obtain ⟨g, rfl, hg, dj⟩ := strs_get hr.swap j hlt
      have HSN : Hid (dgones (ds.take (j + 1)) d1 = dgone (dgones (ds.take j) d1) ds[j]) := by
        have hsn : ds.take (j + 1) = ds.take j ++ [ds[j]] := by rw [List.take_succ]; simp [hlt]
        unfold Hid; rw [hsn, dgones_snoc]
      obtain ⟨l1, l2, l3, l4⟩ := dgones_len (ds.take j) d1
      generalize ds[j] = s at *
      have C2 := Lib.hid (rgone_any k wr _ b (dgones (ds.take j) d1) s (by omega) (by omega) (by omega) hr)
      rw [← HSN.out] at C2
      go_wp2_with fail
      refine C2.out.mono ?_
      rintro e w2 ⟨rfl, h4⟩
      go_wp2_with fail
      go_roundw
      case rel => exact ⟨j + 1, by omega, by go_num, h4⟩
      case measure => simp [intOf]; omega
    · have hjl : j = ds.length := by omega
      subst hjl
      rw [List.take_length] at hr
      go_wp2_with fail
      refine (rkeysof_any k wr _ xa xc ds hs (by omega) hr.swap).mono ?_
      rintro e w2 ⟨v2, rfl, h4⟩
      go_wp2_with fail
      go_ret
      exact ⟨_, rfl, h4.swap.drop⟩

end Go.Proofs.Ytlilogcojeoelaa

namespace Go.Proofs.Ytlilogcojeoelaa
set_option linter.all false
open Go Go.RowKit

theorem kysr_get {k : Env} {w : World} {a : Option Addr} {c : Nat} {l : List Ky} {R : Assn} (h : Sat k w (KysR (.slice a l.length c) l * R)) (j : Nat) (hj : j < l.length) :
    ∃ g, a = some ⟨g, 0, none⟩ ∧ w.cell? ⟨g, j * 4, none⟩ = some (.string l[j].db) ∧ w.cell? ⟨g, j * 4 + 1, none⟩ = some (.string l[j].ro) ∧ w.cell? ⟨g, j * 4 + 2, none⟩ = some (.int .i64 l[j].fm) ∧ w.cell? ⟨g, j * 4 + 3, none⟩ = some (.string l[j].nm) := by
  obtain ⟨g, e, _, hc⟩ := rec_get h (by decide) j hj
  exact ⟨g, e, hc 0 (by decide), hc 1 (by decide), hc 2 (by decide), hc 3 (by decide)⟩

set_option maxRecDepth 100000 in
set_option maxHeartbeats 4000000 in
theorem rdflush_any (k : Env) (w : World) (R : Assn) (b : Nat) (d : DS) (hs : ∀ s ∈ d.K.map (·.1) ++ d.T.map (·.1), s.size ≤ 300000) (hT : (d.T.length : Int) ≤ 536870912) (hK : (d.K.length : Int) ≤ 536870912) (hl : (d.L.length : Int) ≤ 536870912) (hp : (d.P.length : Int) ≤ 536870912) (h : Sat k w (DocR b d * R)) :
    Calls Try.prog 30 #[pq b] w fun e w' => e = .returned (.int .i64 ((d.K.map (·.1) ++ d.T.map (·.1)).map resP).length) ∧ Sat k w' (DocR b (dgones (((d.K.map (·.1) ++ d.T.map (·.1)).map resP).map textK) d) * R) := by
  have C1 := Lib.hid (rdkeys_any k w R b d hs hT hK h)
  have hys : ∀ y ∈ (d.K.map (·.1) ++ d.T.map (·.1)).map resP, tiny y := by
    intro y hy
    obtain ⟨s, h1, rfl⟩ := List.mem_map.1 hy
    exact resP_tiny (hs s h1)
  have hll : (((d.K.map (·.1) ++ d.T.map (·.1)).map resP).length : Int) ≤ 1073741824 := by
    rw [List.length_map, List.length_append, List.length_map, List.length_map]; omega
  obtain ⟨ys, hy⟩ : ∃ ys, (d.K.map (·.1) ++ d.T.map (·.1)).map resP = ys := ⟨_, rfl⟩
  rw [hy] at C1 hys hll ⊢
  clear hy h hs
  go_enter Try.func30, Try.ntmps30
  go_wp2_with fail
  refine C1.out.mono ?_
  rintro e w1 ⟨v1, rfl, h1⟩
  obtain ⟨va, vc, rfl⟩ := rec_val h1
  have h2 : Sat k w1 (KysR (.slice va ys.length vc) ys * (DocR b (dgones ((ys.take 0).map textK) d) * R)) := h1
  have HYS := Lib.hid hys
  clear h1 C1 hys
  go_wp2_with fail
  go_loopw [4] (fun i wr => ∃ j : Nat, j ≤ ys.length ∧ i = .int .i64 j ∧ Sat k wr (KysR (.slice va ys.length vc) ys * (DocR b (dgones ((ys.take j).map textK) d) * R))) (fun i _ => ys.length - (intOf i).toNat)
  case atStart => exact ⟨0, Nat.zero_le _, rfl, h2⟩
  case round =>
    clear h2
    obtain ⟨j, hj, rfl, hr⟩ := hrel
    by_cases hlt : j < ys.length
    · have hlt' : (j : Int) < ys.length := by omega
      obtain ⟨g, rfl, e0, e1, e2, e3⟩ := kysr_get hr j hlt
      have HSN : Hid (dgones ((ys.take (j + 1)).map textK) d = dgone (dgones ((ys.take j).map textK) d) (textK ys[j])) := by
        have hsn : ys.take (j + 1) = ys.take j ++ [ys[j]] := by rw [List.take_succ]; simp [hlt]
        unfold Hid
        rw [hsn, List.map_append, List.map_cons, List.map_nil, dgones_snoc]
      have hyt := HYS.out ys[j] (List.getElem_mem hlt)
      obtain ⟨l1, l2, l3, l4⟩ := dgones_len ((ys.take j).map textK) d
      generalize ys[j] = y at *
      generalize dgones ((ys.take j).map textK) d = d1 at *
      have C2 := Lib.hid (rtext_any k wr _ y hyt hr)
      unfold kyV at C2
      go_wp2_with fail
      refine C2.out.mono ?_
      rintro e w2 ⟨rfl, h3⟩
      go_wp2_with fail
      refine (rgone_any k w2 _ b d1 (textK y) (by omega) (by omega) (by omega) h3.swap).mono ?_
      rintro e w3 ⟨rfl, h4⟩
      rw [← HSN.out] at h4
      go_wp2_with fail
      go_roundw
      case rel => exact ⟨j + 1, by omega, by go_num, h4.swap⟩
      case measure => simp [intOf]; omega
    · have hjl : j = ys.length := by omega
      subst hjl
      rw [List.take_length] at hr
      go_wp2_with fail
      go_ret
      exact ⟨rfl, hr.drop⟩

set_option maxRecDepth 100000 in
set_option maxHeartbeats 4000000 in
theorem rdnew_any (k : Env) (w : World) (R : Assn) (al kp mo ttl : Int) (h1 : 1 ≤ al) (h2 : al ≤ 1073741824) (h3 : 0 ≤ kp) (h4 : kp ≤ al) (h5 : 1 ≤ mo) (h6 : mo ≤ al) (t1 : 1 ≤ ttl) (t2 : ttl ≤ 549755813888) (h : Sat k w R) :
    Calls Try.prog 21 #[.int .i64 al, .int .i64 kp, .int .i64 mo, .int .i64 ttl] w fun e w' => ∃ b, e = .returned (.tuple #[pq b, .int .i64 0]) ∧ Sat k w' (DocR b ⟨al, kp, mo, ttl, [], [], [], []⟩ * R) := by
  have C1 := Lib.hid (rnew_any k w R al kp mo h1 h2 h3 h4 h5 h6 h)
  have t1' : ¬ ttl < 1 := by omega
  have t2' : ¬ 549755813888 < ttl := by omega
  clear h1 h2 h3 h4 h5 h6 h
  go_enter Try.func21, Try.ntmps21
  go_wp2_with fail
  refine C1.out.mono ?_
  rintro e w1 ⟨s, rfl, g1⟩
  go_wp2_with fail
  go_ret2
  have g2 := g1.alloc (.cells #[.slice none 0 0] 102)
  have g3 := g2.alloc (.cells (cellsD s w1.heap.size (.slice none 0 0) ttl) 105)
  simp only [World.size_alloc] at g3
  refine ⟨_, rfl, ?_⟩
  have g5 := q11_close (l := []) (v := .slice none 0 0) ((own_nil (e := 143) (size := 2) g3.swap).swap) rfl
  have g6 := own_nil (e := 107) (size := 2) g5
  exact dr_close (d := ⟨al, kp, mo, ttl, [], [], [], []⟩) (s := s) (q := w1.heap.size) (v := .slice none 0 0) (cs := cellsD s w1.heap.size (.slice none 0 0) ttl) (g6.of_eq (by unfold Prs RecS; ac_rfl)) rfl rfl rfl rfl rfl rfl rfl rfl

end Go.Proofs.Ytlilogcojeoelaa

namespace Go.Proofs.Ytlilogcojeoelaa
set_option linter.all false
open Go Go.RowKit

theorem mget_dropP (a : ByteArray) (l : List PV) (j : Nat) (hj : j < l.length) : mget a (l.drop j) = if l[j].1 = a then some l[j].2 else mget a (l.drop (j + 1)) := by
  rw [List.drop_eq_getElem_cons hj, mget]


set_option maxRecDepth 100000 in
set_option maxHeartbeats 4000000 in
theorem rdget_none (k : Env) (w : World) (R : Assn) (b : Nat) (d : DS) (y : Ky) (now : Int) (hy : tiny y) (hat : mget (textK y) d.L = none) (h : Sat k w (DocR b d * R)) :
    Calls Try.prog 24 #[pq b, kyV y, .int .i64 now] w fun e w' => e = .returned (.tuple #[.string ⟨#[]⟩, .bool false]) ∧ Sat k w' (DocR b d * R) := by
  (
    have h1 := h.alloc (.cells #[.string y.db, .string y.ro, .int .i64 y.fm, .string y.nm] 28)
    have CR := Lib.hid (fun w' R' => rright_any k w' R' y hy)
    have CT := Lib.hid (fun w' R' => rtext_any k w' R' y hy)
    clear h
    unfold kyV at CR CT ⊢
    go_enter Try.func24, Try.ntmps24
    go_upto_region 1 with fail
    generalize w.alloc (.cells #[.string y.db, .string y.ro, .int .i64 y.fm, .string y.nm] 28) = w1 at *
    generalize w.heap.size = o4 at *
    have d0 : w1.cell? ⟨o4, 0, none⟩ = some (.string y.db) := h1.cell 0
    have d1 : w1.cell? ⟨o4, 1, none⟩ = some (.string y.ro) := h1.cell 1
    have d2 : w1.cell? ⟨o4, 2, none⟩ = some (.int .i64 y.fm) := h1.cell 2
    have d3 : w1.cell? ⟨o4, 3, none⟩ = some (.string y.nm) := h1.cell 3
    go_wp2_with fail
    refine (CT.out w1 _ h1).mono ?_
    rintro e w2 ⟨rfl, h2⟩
    clear d0 d1 d2 d3 h1 CT
    obtain ⟨sb, qb, pa, pc, h3⟩ := dr_open h2.swap
    have c1 : w2.cell? ⟨b, 1, none⟩ = some (pq qb) := h3.cell 1
    have C1 := Lib.hid (rqat_any k w2 _ qb d.L (textK y) h3.get3)
    rw [hat] at C1
    unfold atV at C1
    go_wp2_with fail
    refine C1.out.mono ?_
    rintro e w3 ⟨rfl, rfl⟩
    clear c1 C1 h3
    have d0 : w2.cell? ⟨o4, 0, none⟩ = some (.string y.db) := h2.cell 0
    have d1 : w2.cell? ⟨o4, 1, none⟩ = some (.string y.ro) := h2.cell 1
    have d2 : w2.cell? ⟨o4, 2, none⟩ = some (.int .i64 y.fm) := h2.cell 2
    have d3 : w2.cell? ⟨o4, 3, none⟩ = some (.string y.nm) := h2.cell 3)
  go_wp2_with fail
  go_ret2
  exact ⟨rfl, h2.drop⟩

set_option maxRecDepth 100000 in
set_option maxHeartbeats 4000000 in
theorem rdget_wrong (k : Env) (w : World) (R : Assn) (b : Nat) (d : DS) (y : Ky) (now t : Int) (hy : tiny y) (hat : mget (textK y) d.L = some t) (hr : rightK y = false) (h : Sat k w (DocR b d * R)) :
    Calls Try.prog 24 #[pq b, kyV y, .int .i64 now] w fun e w' => e = .returned (.tuple #[.string ⟨#[]⟩, .bool false]) ∧ Sat k w' (DocR b d * R) := by
  (
    have h1 := h.alloc (.cells #[.string y.db, .string y.ro, .int .i64 y.fm, .string y.nm] 28)
    have CR := Lib.hid (fun w' R' => rright_any k w' R' y hy)
    have CT := Lib.hid (fun w' R' => rtext_any k w' R' y hy)
    clear h
    unfold kyV at CR CT ⊢
    go_enter Try.func24, Try.ntmps24
    go_upto_region 1 with fail
    generalize w.alloc (.cells #[.string y.db, .string y.ro, .int .i64 y.fm, .string y.nm] 28) = w1 at *
    generalize w.heap.size = o4 at *
    have d0 : w1.cell? ⟨o4, 0, none⟩ = some (.string y.db) := h1.cell 0
    have d1 : w1.cell? ⟨o4, 1, none⟩ = some (.string y.ro) := h1.cell 1
    have d2 : w1.cell? ⟨o4, 2, none⟩ = some (.int .i64 y.fm) := h1.cell 2
    have d3 : w1.cell? ⟨o4, 3, none⟩ = some (.string y.nm) := h1.cell 3
    go_wp2_with fail
    refine (CT.out w1 _ h1).mono ?_
    rintro e w2 ⟨rfl, h2⟩
    clear d0 d1 d2 d3 h1 CT
    obtain ⟨sb, qb, pa, pc, h3⟩ := dr_open h2.swap
    have c1 : w2.cell? ⟨b, 1, none⟩ = some (pq qb) := h3.cell 1
    have C1 := Lib.hid (rqat_any k w2 _ qb d.L (textK y) h3.get3)
    rw [hat] at C1
    unfold atV at C1
    go_wp2_with fail
    refine C1.out.mono ?_
    rintro e w3 ⟨rfl, rfl⟩
    clear c1 C1 h3
    have d0 : w2.cell? ⟨o4, 0, none⟩ = some (.string y.db) := h2.cell 0
    have d1 : w2.cell? ⟨o4, 1, none⟩ = some (.string y.ro) := h2.cell 1
    have d2 : w2.cell? ⟨o4, 2, none⟩ = some (.int .i64 y.fm) := h2.cell 2
    have d3 : w2.cell? ⟨o4, 3, none⟩ = some (.string y.nm) := h2.cell 3)
  rw [hr] at CR
  clear hr
  go_wp2_with fail
  refine (CR.out w2 _ h2).mono ?_
  rintro e w4 ⟨rfl, h4⟩
  go_wp2_with fail
  go_ret2
  exact ⟨rfl, h4.drop⟩

set_option maxRecDepth 100000 in
set_option maxHeartbeats 4000000 in
theorem rdget_late (k : Env) (w : World) (R : Assn) (b : Nat) (d : DS) (y : Ky) (now t : Int) (hy : tiny y) (hat : mget (textK y) d.L = some t) (hr : rightK y = true) (hle : t ≤ now) (hl : (d.L.length : Int) ≤ 1073741824) (hp : (d.P.length : Int) ≤ 1073741824) (ht : (d.T.length : Int) + d.K.length ≤ 1073741824) (h : Sat k w (DocR b d * R)) :
    Calls Try.prog 24 #[pq b, kyV y, .int .i64 now] w fun e w' => e = .returned (.tuple #[.string ⟨#[]⟩, .bool false]) ∧ Sat k w' (DocR b (dgone d (textK y)) * R) := by
  (
    have h1 := h.alloc (.cells #[.string y.db, .string y.ro, .int .i64 y.fm, .string y.nm] 28)
    have CR := Lib.hid (fun w' R' => rright_any k w' R' y hy)
    have CT := Lib.hid (fun w' R' => rtext_any k w' R' y hy)
    clear h
    unfold kyV at CR CT ⊢
    go_enter Try.func24, Try.ntmps24
    go_upto_region 1 with fail
    generalize w.alloc (.cells #[.string y.db, .string y.ro, .int .i64 y.fm, .string y.nm] 28) = w1 at *
    generalize w.heap.size = o4 at *
    have d0 : w1.cell? ⟨o4, 0, none⟩ = some (.string y.db) := h1.cell 0
    have d1 : w1.cell? ⟨o4, 1, none⟩ = some (.string y.ro) := h1.cell 1
    have d2 : w1.cell? ⟨o4, 2, none⟩ = some (.int .i64 y.fm) := h1.cell 2
    have d3 : w1.cell? ⟨o4, 3, none⟩ = some (.string y.nm) := h1.cell 3
    go_wp2_with fail
    refine (CT.out w1 _ h1).mono ?_
    rintro e w2 ⟨rfl, h2⟩
    clear d0 d1 d2 d3 h1 CT
    obtain ⟨sb, qb, pa, pc, h3⟩ := dr_open h2.swap
    have c1 : w2.cell? ⟨b, 1, none⟩ = some (pq qb) := h3.cell 1
    have C1 := Lib.hid (rqat_any k w2 _ qb d.L (textK y) h3.get3)
    rw [hat] at C1
    unfold atV at C1
    go_wp2_with fail
    refine C1.out.mono ?_
    rintro e w3 ⟨rfl, rfl⟩
    clear c1 C1 h3
    have d0 : w2.cell? ⟨o4, 0, none⟩ = some (.string y.db) := h2.cell 0
    have d1 : w2.cell? ⟨o4, 1, none⟩ = some (.string y.ro) := h2.cell 1
    have d2 : w2.cell? ⟨o4, 2, none⟩ = some (.int .i64 y.fm) := h2.cell 2
    have d3 : w2.cell? ⟨o4, 3, none⟩ = some (.string y.nm) := h2.cell 3)
  rw [hr] at CR
  clear hr
  go_wp2_with fail
  refine (CR.out w2 _ h2).mono ?_
  rintro e w4 ⟨rfl, h4⟩
  clear d0 d1 d2 d3
  go_wp2_with fail
  refine (rgone_any k w4 _ b d (textK y) hl hp ht h4.swap).mono ?_
  rintro e w5 ⟨rfl, h5⟩
  go_wp2_with fail
  go_ret2
  exact ⟨rfl, h5.swap.drop⟩

def dtouch (d : DS) (s : ByteArray) (n : Int) : DS := { d with T := (touchR d.kp s n d.T d.K).1, K := (touchR d.kp s n d.T d.K).2.1 }

set_option maxRecDepth 100000 in
set_option maxHeartbeats 4000000 in
theorem rdget_some (k : Env) (w : World) (R : Assn) (b : Nat) (d : DS) (y : Ky) (now t n : Int) (v : ByteArray) (hy : tiny y) (hat : mget (textK y) d.L = some t) (hr : rightK y = true) (hle : ¬ t ≤ now) (hv : mget (textK y) d.P = some v) (hp : (d.P.length : Int) ≤ 1073741824)
    (HT : ∀ (sb : Nat) (w' : World) (R' : Assn), Sat k w' (RefV sb d.al d.kp d.mo d.T d.K * R') → Calls Try.prog 60 #[pq sb, .string (textK y)] w' fun e w'' => ∃ v, e = .returned (.tuple #[v, .bool true]) ∧ Sat k w'' (RefV sb d.al d.kp d.mo (touchR d.kp (textK y) n d.T d.K).1 (touchR d.kp (textK y) n d.T d.K).2.1 * R')) (h : Sat k w (DocR b d * R)) :
    Calls Try.prog 24 #[pq b, kyV y, .int .i64 now] w fun e w' => e = .returned (.tuple #[.string v, .bool true]) ∧ Sat k w' (DocR b (dtouch d (textK y) n) * R) := by
  have HTT := Lib.hid HT
  have HVV := Lib.hid hv
  clear HT hv
  (
    have h1 := h.alloc (.cells #[.string y.db, .string y.ro, .int .i64 y.fm, .string y.nm] 28)
    have CR := Lib.hid (fun w' R' => rright_any k w' R' y hy)
    have CT := Lib.hid (fun w' R' => rtext_any k w' R' y hy)
    clear h
    unfold kyV at CR CT ⊢
    go_enter Try.func24, Try.ntmps24
    go_upto_region 1 with fail
    generalize w.alloc (.cells #[.string y.db, .string y.ro, .int .i64 y.fm, .string y.nm] 28) = w1 at *
    generalize w.heap.size = o4 at *
    have d0 : w1.cell? ⟨o4, 0, none⟩ = some (.string y.db) := h1.cell 0
    have d1 : w1.cell? ⟨o4, 1, none⟩ = some (.string y.ro) := h1.cell 1
    have d2 : w1.cell? ⟨o4, 2, none⟩ = some (.int .i64 y.fm) := h1.cell 2
    have d3 : w1.cell? ⟨o4, 3, none⟩ = some (.string y.nm) := h1.cell 3
    go_wp2_with fail
    refine (CT.out w1 _ h1).mono ?_
    rintro e w2 ⟨rfl, h2⟩
    clear d0 d1 d2 d3 h1 CT
    obtain ⟨sb, qb, pa, pc, h3⟩ := dr_open h2.swap
    have c1 : w2.cell? ⟨b, 1, none⟩ = some (pq qb) := h3.cell 1
    have C1 := Lib.hid (rqat_any k w2 _ qb d.L (textK y) h3.get3)
    rw [hat] at C1
    unfold atV at C1
    go_wp2_with fail
    refine C1.out.mono ?_
    rintro e w3 ⟨rfl, rfl⟩
    clear c1 C1 h3
    have d0 : w2.cell? ⟨o4, 0, none⟩ = some (.string y.db) := h2.cell 0
    have d1 : w2.cell? ⟨o4, 1, none⟩ = some (.string y.ro) := h2.cell 1
    have d2 : w2.cell? ⟨o4, 2, none⟩ = some (.int .i64 y.fm) := h2.cell 2
    have d3 : w2.cell? ⟨o4, 3, none⟩ = some (.string y.nm) := h2.cell 3)
  rw [hr] at CR
  clear hr
  go_wp2_with fail
  refine (CR.out w2 _ h2).mono ?_
  rintro e w4 ⟨rfl, h4⟩
  clear d0 d1 d2 d3 CR
  obtain ⟨sb, qb, pa, pc, h5⟩ := dr_open h4.swap
  have c0 : w4.cell? ⟨b, 0, none⟩ = some (pq sb) := h5.cell 0
  go_wp2_with fail
  refine (HTT.out sb w4 _ h5.swap).mono ?_
  rintro e w5 ⟨v5, rfl, h6⟩
  clear c0 h5 h4 h2
  have h7 : Sat k w5 (DocR b (dtouch d (textK y) n) * R) := by
    have := dr_close (d := dtouch d (textK y) n) h6.swap rfl rfl rfl rfl rfl rfl rfl rfl
    exact this.swap.drop
  clear h6
  obtain ⟨tx, htx⟩ : ∃ tx, textK y = tx := ⟨_, rfl⟩
  rw [htx] at h7 HVV ⊢
  have HTX := Lib.hid htx
  clear htx HTT hat
  go_wp2_with fail
  go_loopw [11] (fun i wr => ∃ j : Nat, j ≤ d.P.length ∧ i = .int .i64 j ∧ Hid (mget tx (d.P.drop j) = some v) ∧ Sat k wr (DocR b (dtouch d tx n) * R)) (fun i _ => d.P.length - (intOf i).toNat)
  case atStart => exact ⟨0, Nat.zero_le _, rfl, HVV.out, h7⟩
  case round =>
    clear h7
    obtain ⟨j, hj, rfl, HB, hr⟩ := hrel
    by_cases hlt : j < d.P.length
    · have hlt' : (j : Int) < d.P.length := by omega
      obtain ⟨sb2, qb2, pa2, pc2, h9⟩ := dr_open hr
      have h9p : Sat k wr (Prs (.slice pa2 d.P.length pc2) d.P * _) := h9.get4
      have c2 : wr.cell? ⟨b, 2, none⟩ = some (.slice pa2 d.P.length pc2) := h9.cell 2
      obtain ⟨g, rfl, e0, e1⟩ := pr_get h9p j hlt
      have hst := mget_dropP tx d.P j hlt
      rw [HB.out] at hst
      generalize d.P[j] = x at *
      obtain ⟨x1, x2⟩ := x
      simp only at e0 e1 hst
      have hcmp : (x1.toList == tx.toList) = decide (x1 = tx) := tl_beq _ _
      by_cases hx : x1 = tx
      · rw [if_pos hx] at hst
        rw [decide_eq_true hx] at hcmp
        have HX := Lib.hid hx
        obtain rfl : v = x2 := by simpa using hst
        clear hx hst h9 h9p
        go_wp2_with fail
        go_ret2
        exact ⟨rfl, by rw [HTX.out]; exact hr⟩
      · rw [if_neg hx] at hst
        rw [decide_eq_false hx] at hcmp
        have HX := Lib.hid hx
        have HST := Lib.hid hst.symm
        clear hx hst h9 h9p
        go_wp2_with fail
        go_roundw
        case rel => exact ⟨j + 1, by omega, by go_num, HST, hr⟩
        case measure => simp [intOf]; omega
    · have hjl : j = d.P.length := by omega
      subst hjl
      have := HB.out
      rw [List.drop_length] at this
      cases this

end Go.Proofs.Ytlilogcojeoelaa

namespace Go.Proofs.Ytlilogcojeoelaa
set_option linter.all false
open Go Go.RowKit

def dputS (d : DS) (y : Ky) (v : ByteArray) (now : Int) : DS :=
  { d with T := (textK y, sizeK y v) :: (roomR d.al (textK y) (sizeK y v) d.T d.K).1, K := (roomR d.al (textK y) (sizeK y v) d.T d.K).2.1, L := insQ (dropV (textK y) d.L) (textK y, now + d.ttl), P := dropP (textK y) d.P ++ [(textK y, v)] }


set_option maxRecDepth 100000 in
set_option maxHeartbeats 4000000 in
theorem rdput_arg (k : Env) (w : World) (R : Assn) (b : Nat) (d : DS) (y : Ky) (v : ByteArray) (now : Int) (hy : tiny y) (hvs : v.size ≤ 1000000000) (ha : rightK y = false ∨ now < 0 ∨ 549755813888 < now) (h : Sat k w (DocR b d * R)) :
    Calls Try.prog 22 #[pq b, kyV y, .string v, .int .i64 now] w fun e w' => e = .returned (.tuple #[.slice none 0 0, .int .i64 1]) ∧ Sat k w' (DocR b d * R) := by
  have hor : rightK y = false ∨ (rightK y = true ∧ now < 0) ∨ (rightK y = true ∧ ¬ now < 0 ∧ 549755813888 < now) := by
    cases hq : rightK y with
    | false => exact .inl rfl
    | true =>
      rcases ha with q | q | q
      · rw [hq] at q; exact absurd q (by simp)
      · exact .inr (.inl ⟨rfl, q⟩)
      · by_cases n0 : now < 0
        · exact .inr (.inl ⟨rfl, n0⟩)
        · exact .inr (.inr ⟨rfl, n0, q⟩)
  clear ha
  (
    have h1 := h.alloc (.cells #[.string y.db, .string y.ro, .int .i64 y.fm, .string y.nm] 28)
    have CR := Lib.hid (fun w' R' => rright_any k w' R' y hy)
    have CT := Lib.hid (fun w' R' => rtext_any k w' R' y hy)
    have CZ := Lib.hid (fun w' R' => rsize_any k w' R' y v hy hvs)
    clear h
    unfold kyV at CR CT CZ ⊢
    go_enter Try.func22, Try.ntmps22
    go_upto_region 1 with fail
    generalize w.alloc (.cells #[.string y.db, .string y.ro, .int .i64 y.fm, .string y.nm] 28) = w1 at *
    generalize w.heap.size = o5 at *
    have d0 : w1.cell? ⟨o5, 0, none⟩ = some (.string y.db) := h1.cell 0
    have d1 : w1.cell? ⟨o5, 1, none⟩ = some (.string y.ro) := h1.cell 1
    have d2 : w1.cell? ⟨o5, 2, none⟩ = some (.int .i64 y.fm) := h1.cell 2
    have d3 : w1.cell? ⟨o5, 3, none⟩ = some (.string y.nm) := h1.cell 3)
  rcases hor with hr | ⟨hr, n0⟩ | ⟨hr, n0, n1⟩
  all_goals
    rw [hr] at CR
    go_wp2_with fail
    refine (CR.out w1 _ h1).mono ?_
    rintro e w2 ⟨rfl, h2⟩
    go_wp2_with fail
    go_ret2
    exact ⟨rfl, h2.drop⟩

set_option maxRecDepth 100000 in
set_option maxHeartbeats 4000000 in
theorem rdput_err (k : Env) (w : World) (R : Assn) (b : Nat) (d : DS) (y : Ky) (v : ByteArray) (now : Int) (hy : tiny y) (hvs : v.size ≤ 1000000000) (hr : rightK y = true) (n0 : ¬ now < 0) (n1 : ¬ 549755813888 < now) (hz : sizeK y v < 1 ∨ d.mo < sizeK y v) (hpe : putE d.mo (sizeK y v) ≠ 0) (h : Sat k w (DocR b d * R)) :
    Calls Try.prog 22 #[pq b, kyV y, .string v, .int .i64 now] w fun e w' => e = .returned (.tuple #[.slice none 0 0, .int .i64 (putE d.mo (sizeK y v))]) ∧ Sat k w' (DocR b d * R) := by
  (
    have h1 := h.alloc (.cells #[.string y.db, .string y.ro, .int .i64 y.fm, .string y.nm] 28)
    have CR := Lib.hid (fun w' R' => rright_any k w' R' y hy)
    have CT := Lib.hid (fun w' R' => rtext_any k w' R' y hy)
    have CZ := Lib.hid (fun w' R' => rsize_any k w' R' y v hy hvs)
    clear h
    unfold kyV at CR CT CZ ⊢
    go_enter Try.func22, Try.ntmps22
    go_upto_region 1 with fail
    generalize w.alloc (.cells #[.string y.db, .string y.ro, .int .i64 y.fm, .string y.nm] 28) = w1 at *
    generalize w.heap.size = o5 at *
    have d0 : w1.cell? ⟨o5, 0, none⟩ = some (.string y.db) := h1.cell 0
    have d1 : w1.cell? ⟨o5, 1, none⟩ = some (.string y.ro) := h1.cell 1
    have d2 : w1.cell? ⟨o5, 2, none⟩ = some (.int .i64 y.fm) := h1.cell 2
    have d3 : w1.cell? ⟨o5, 3, none⟩ = some (.string y.nm) := h1.cell 3)
  rw [hr] at CR
  go_wp2_with fail
  refine (CR.out w1 _ h1).mono ?_
  rintro e w2 ⟨rfl, h2⟩
  clear d0 d1 d2 d3
  have d0 : w2.cell? ⟨o5, 0, none⟩ = some (.string y.db) := h2.cell 0
  have d1 : w2.cell? ⟨o5, 1, none⟩ = some (.string y.ro) := h2.cell 1
  have d2 : w2.cell? ⟨o5, 2, none⟩ = some (.int .i64 y.fm) := h2.cell 2
  have d3 : w2.cell? ⟨o5, 3, none⟩ = some (.string y.nm) := h2.cell 3
  go_wp2_with fail
  refine (CT.out w2 _ h2).mono ?_
  rintro e w3 ⟨rfl, h3⟩
  clear d0 d1 d2 d3
  obtain ⟨sb, qb, pa, pc, hs⟩ := dr_open h3.swap
  have c0 : w3.cell? ⟨b, 0, none⟩ = some (pq sb) := hs.cell 0
  have d0 : w3.cell? ⟨o5, 0, none⟩ = some (.string y.db) := hs.get5.cell 0
  have d1 : w3.cell? ⟨o5, 1, none⟩ = some (.string y.ro) := hs.get5.cell 1
  have d2 : w3.cell? ⟨o5, 2, none⟩ = some (.int .i64 y.fm) := hs.get5.cell 2
  have d3 : w3.cell? ⟨o5, 3, none⟩ = some (.string y.nm) := hs.get5.cell 3
  have CP := Lib.hid (fun w' R' => rput_bad k w' R' sb d.al d.kp d.mo d.T d.K (textK y) (sizeK y v) hz)
  have HPE : (putE d.mo (sizeK y v) != 0) = true := by simpa using hpe
  clear hz hpe
  obtain ⟨er, her⟩ : ∃ er, putE d.mo (sizeK y v) = er := ⟨_, rfl⟩
  rw [her] at CP HPE
  have HER := Lib.hid her
  clear her
  go_upto_region 4 with fail
  go_region_held3 (fun w' => w'.cell? ⟨b, 0, none⟩ = some (pq sb) ∧ w'.cell? ⟨o5, 0, none⟩ = some (.string y.db) ∧ w'.cell? ⟨o5, 1, none⟩ = some (.string y.ro) ∧ w'.cell? ⟨o5, 2, none⟩ = some (.int .i64 y.fm) ∧ w'.cell? ⟨o5, 3, none⟩ = some (.string y.nm))
    (first | exact ⟨c0, d0, d1, d2, d3⟩ | exact ⟨(h4.cell 0).trans rfl, (h4.get5.cell 0).trans rfl, (h4.get5.cell 1).trans rfl, (h4.get5.cell 2).trans rfl, (h4.get5.cell 3).trans rfl⟩ | fail)
    (first | (go_at_call 16; (with_reducible refine (CZ.out _ _ (Sat.drew hs)).mono ?_); rintro e w4 ⟨rfl, h4⟩) | (go_at_call 55; (with_reducible refine (CP.out _ _ h4.swap).mono ?_); rintro e w5 ⟨rfl, rfl⟩) | fail)
  go_wp2_with fail
  go_ret2
  exact ⟨by rw [HER.out]; rfl, (dr_close h4 rfl rfl rfl rfl rfl rfl rfl rfl).swap.drop⟩

end Go.Proofs.Ytlilogcojeoelaa
