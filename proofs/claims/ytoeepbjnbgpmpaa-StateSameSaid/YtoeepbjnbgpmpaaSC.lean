/- Several texts in one: StK, StL, StM, StN, StO. -/
import Derived.Test.YtoeepbjnbgpmpaaSB
import Derived.Test.YtoeepbjnbgpmpaaSetsL
namespace Go.Proofs.Ytoeepbjnbgpmpaa
set_option linter.all false
open Go Go.RowKit

def ltN (s : ByteArray) (p : TbM) : Bool := ltB p.nm s
def newT (s : ByteArray) : TbM := ⟨s, none, 0, []⟩
def madeR (P : List TbM) (s : ByteArray) : List TbM := P.takeWhile (ltN s) ++ newT s :: P.dropWhile (ltN s)
theorem madeR_at {s : ByteArray} {p q : List TbM} (h : ∀ x ∈ p, ltN s x = true) (hq : q = [] ∨ ∃ y r, q = y :: r ∧ ltN s y = false) : madeR (p ++ q) s = p ++ newT s :: q := by
  unfold madeR
  rw [List.takeWhile_append_of_pos h, List.dropWhile_append_of_pos h]
  rcases hq with rfl | ⟨y, r, rfl, hy⟩
  · simp
  · rw [List.takeWhile_cons, List.dropWhile_cons, if_neg (by rw [hy]; decide), if_neg (by rw [hy]; decide)]; simp
theorem tbs_push {k : Env} {w : World} {R : Assn} {a : Option Addr} {c : Nat} {l : List TbM} {x : TbM} (h : Sat k w (Own 43 2 (.slice a (l.length + 1) c) (l.length + 1) (ETb.recs l ++ [.string x.nm, .slice x.a x.rows.length x.c]) * R)) : Sat k w (RecS ETb 43 (.slice a (l ++ [x]).length c) (l ++ [x]) * R) := by
  have e : (l ++ [x]).length = l.length + 1 := by simp
  rw [e]
  exact rec_push (E := ETb) (x := x) h
theorem tbs_of {k : Env} {w : World} {R : Assn} {v v' : Value} {n : Nat} {xs : List Value} {L : List TbM} (h : Sat k w (Own 43 2 v' n xs * R)) (hn : v' = v ∧ n = L.length) (hx : xs = ETb.recs L) : Sat k w (RecS ETb 43 v L * R) := by
  obtain ⟨rfl, rfl⟩ := hn
  subst hx; exact h
theorem tbs_tail {k : Env} {w : World} {l : List TbM} {R : Assn} {g c : Nat} (j : Nat) (h : Sat k w (RecS ETb 43 (.slice (some ⟨g, 0, none⟩) l.length c) l * R)) (hj : 0 < l.length) :
    ∀ i u, (ETb.recs (l.drop j))[i]? = some u → w.cell? ((⟨g, j * 2, none⟩ : Addr).add i) = some u := by
  obtain ⟨ad, e, hs⟩ := own_src h hj
  simp only [Option.some.injEq] at e
  subst e
  intro i u hu
  have hd : (ETb.recs l).drop (j * 2) = ETb.recs (l.drop j) := ETb.recs_drop l j
  rw [← hd, List.getElem?_drop] at hu
  have := hs _ u hu
  rw [Addr.add_lit] at this ⊢
  rw [Nat.zero_add] at this
  exact this
theorem tb_new {k : Env} {w : World} {R : Assn} (s : ByteArray) (h : Sat k w R) : Sat k w (tbR (newT s) * R) := own_nil h

set_option maxRecDepth 100000 in
set_option maxHeartbeats 8000000 in
theorem rmade_any (k : Env) (w : World) (R : Assn) (a : Option Addr) (c : Nat) (P : List TbM) (s : ByteArray) (hn : P.length ≤ 1000000) (hs1 : ∀ x ∈ P, x.nm.size ≤ 1000000000) (hs2 : s.size ≤ 1000000000) (h : Sat k w (StO (.slice a P.length c) P * R)) :
    Calls Try.prog 44 #[.slice a P.length c, .string s] w fun e w' => ∃ v d, e = .returned (.slice v (madeR P s).length d) ∧ Sat k w' (StO (.slice v (madeR P s).length d) (madeR P s) * R) := by
  obtain ⟨res, hres⟩ : ∃ res, madeR P s = res := ⟨_, rfl⟩
  have HX := Lib.hid hres
  rw [hres]
  have HS1 := Lib.hid hs1
  have HS2 := Lib.hid hs2
  obtain ⟨Z, hZ⟩ : ∃ Z, Z = stars tbR P * R := ⟨_, rfl⟩
  have h0 : Sat k w (RecS ETb 43 (.slice a P.length c) P * Z) := by rw [hZ]; exact h.of_eq (by unfold StO; rw [star_assoc])
  have HZ := Lib.hid hZ
  have h6 : Sat k w (RecS ETb 43 (.slice none 0 0) [] * (RecS ETb 43 (.slice a P.length c) P * Z)) := rec_nil h0
  clear hs1 hs2 hZ h0 h hres
  go_enter Try.func44, Try.ntmps44
  go_upto_block 0 with fail
  go_cut [5, 6] (fun s5 s6 wx => ∃ (v : Option Addr) (d : Nat) (p q : List TbM), s6 = .int .i64 p.length ∧ s5 = .slice v p.length d ∧ Hid (P = p ++ q) ∧ Hid (madeR P s = p ++ newT s :: q) ∧ Sat k wx (RecS ETb 43 (.slice v p.length d) p * (RecS ETb 43 (.slice a P.length c) P * Z)))
  case first =>
    clear HX
    go_wp2_with fail
    go_loopw [5, 6] (fun s5 s6 wr => ∃ (v : Option Addr) (d : Nat) (p q : List TbM), s6 = .int .i64 p.length ∧ s5 = .slice v p.length d ∧ p.length + q.length = P.length ∧ Hid (P = p ++ q) ∧ Hid (∀ x ∈ p, ltN s x = true) ∧ Sat k wr (RecS ETb 43 (.slice v p.length d) p * (RecS ETb 43 (.slice a P.length c) P * Z))) (fun _ s6 _ => P.length - (intOf s6).toNat)
    case atStart => exact ⟨none, 0, [], P, rfl, rfl, by simp, rfl, (by intro x hx; cases hx), h6⟩
    case round =>
      clear h6
      obtain ⟨v, d, p, q, rfl, rfl, hpq, HL, HLT, hs⟩ := hrel
      cases q with
      | nil =>
        have hple : ¬ (p.length : Int) < P.length := by simp at hpq; omega
        have HI : Hid (madeR P s = p ++ newT s :: []) := by
          unfold Hid; rw [HL.out]; exact madeR_at HLT.out (.inl rfl)
        clear HLT
        go_wp2_with fail
        go_meet
        case rel => exact ⟨v, d, p, [], rfl, rfl, HL, HI, hs⟩
      | cons y r =>
        have hple : (p.length : Int) < P.length := by simp at hpq; omega
        have hpn : p.length < P.length := by omega
        obtain ⟨g, hg, hgl, hcl⟩ := rec_get hs.swap (by decide) p.length hpn
        subst hg
        have hy : P[p.length] = y := by
          have := HL.out
          subst this
          simp
        rw [hy] at hcl
        have d2 : wr.cell? ⟨g, p.length * 2, none⟩ = some (.string y.nm) := hcl 0 (by decide)
        have hys : y.nm.size ≤ 1000000000 := HS1.out _ (hy ▸ List.getElem_mem hpn)
        have C2 := rless_any k wr _ y.nm s hys HS2.out hs
        clear hy hcl
        cases hb : ltB y.nm s with
        | false =>
          rw [hb] at C2
          have D2 := Lib.hid C2
          have HI : Hid (madeR P s = p ++ newT s :: (y :: r)) := by
            unfold Hid; rw [HL.out]; exact madeR_at HLT.out (.inr ⟨y, r, rfl, hb⟩)
          clear HLT C2 hb
          go_wp2_with (go_at_call 37; (with_reducible refine (D2.out).mono ?_); rintro e w6 ⟨rfl, h6⟩)
          go_meet
          case rel => exact ⟨v, d, p, y :: r, rfl, rfl, HL, HI, h6⟩
        | true =>
          rw [hb] at C2
          have D2 := Lib.hid C2
          have HLT2 : Hid (∀ x ∈ p ++ [y], ltN s x = true) := by
            intro x hx
            rw [List.mem_append, List.mem_singleton] at hx
            rcases hx with hx | rfl
            · exact HLT.out x hx
            · exact hb
          have HL2 : Hid (P = (p ++ [y]) ++ r) := by unfold Hid; rw [HL.out]; simp
          have hpl : (p ++ [y]).length = p.length + 1 := by simp
          have HPL := Lib.hid hpl
          clear hb C2 HLT hpl
          go_upto_region 4 with (go_at_call 37; (with_reducible refine (D2.out).mono ?_); rintro e w6 ⟨rfl, h6⟩)
          obtain ⟨g', hg', _, hcl⟩ := rec_get h6.swap (by decide) p.length hpn
          obtain rfl : g = g' := by simpa using hg'
          have hy : P[p.length] = y := by
            have := HL2.out
            subst this
            simp
          rw [hy] at hcl
          have d3 : w6.cell? ⟨g, p.length * 2, none⟩ = some (.string y.nm) := hcl 0 (by decide)
          have d4 : w6.cell? ⟨g, p.length * 2 + 1, none⟩ = some (.slice y.a y.rows.length y.c) := hcl 1 (by decide)
          clear hy hg' hcl
          go_upto_region 5 with (at_builtin; refine wpList_append_sat TTb (h6.alloc' _) (.tmp 20) (.tmp 25) _ 1 1 [.string y.nm, .slice y.a y.rows.length y.c] rfl rfl rfl rfl rfl (fun _ => ⟨_, rfl, new_cells_at _ _ _ _ (by first | rfl | simp)⟩) (ETb.one y) (by simp [maxLen]; omega) (by omega) ?_; intro a8 c8 w8 h8)
          have h9 := tbs_push h8
          go_wp2_with fail
          go_roundw
          case rel => exact ⟨a8, c8, p ++ [y], r, by rw [HPL.out]; go_num, by rw [HPL.out], by rw [HPL.out]; simp at hpq; omega, HL2, HLT2, h9⟩
          case measure => simp [intOf]; omega
  case rest => as_aux_lemma =>
    clear h6
    obtain ⟨v, d, p, q, rfl, rfl, HL, HI, hs⟩ := hcut
    have hpl : p.length + q.length = P.length := by rw [HL.out]; simp
    have hcap := own_cap hs.swap
    have HT : Hid (P.drop p.length = q) := by unfold Hid; rw [HL.out]; simp
    have HRS : Hid (res = (p ++ [newT s]) ++ q) := by unfold Hid; rw [← HX.out, HI.out]; simp
    have HST : Hid (stars tbR res = tbR (newT s) * stars tbR P) := by
      unfold Hid
      rw [HRS.out, HL.out, stars_append, stars_append, stars_append, stars, stars, star_emp]
      ac_rfl
    clear HL HI HX
    go_upto_region 7 with (at_builtin; refine wpList_append_sat TTb (hs.alloc' _) (.tmp 29) (.tmp 32) _ 1 1 [.string s, .slice none 0 0] rfl rfl rfl rfl rfl (fun _ => ⟨_, rfl, new_cells_at _ _ _ _ (by first | rfl | simp)⟩) (ETb.one (newT s)) (by simp [maxLen]; omega) (by omega) ?_; intro a8 c8 w8 h8)
    have HEND : Hid (∀ (w' : World) (v' : Option Addr) (d' : Nat), Sat k w' (RecS ETb 43 (.slice v' res.length d') res * (RecS ETb 43 (.slice a P.length c) P * Z)) → Sat k w' (StO (.slice v' res.length d') res * R)) := by
      unfold Hid
      intro w' v' d' q
      have q1 := q.swap.drop
      rw [HZ.out] at q1
      have q2 : Sat k w' (tbR (newT s) * (RecS ETb 43 (.slice v' res.length d') res * (stars tbR P * R))) := tb_new s q1
      exact q2.of_eq (by unfold StO; rw [HST.out]; ac_rfl)
    have hp1 : p.length ≤ 1000000 := by omega
    have hpi : (p.length : Int) ≤ P.length := by omega
    have hpc : (p.length : Int) ≤ c := by omega
    have HPL := Lib.hid hpl
    clear hs HST HZ hpl
    cases q with
    | nil =>
      have hpe : p.length = P.length := by have := HPL.out; simp at this; omega
      rcases own_block h8.swap with ⟨rfl, hq2, rfl, _⟩ | ⟨g, cur, rfl, _⟩
      all_goals
        go_wp2_with (at_builtin; refine wpList_append_sat TTb h8 (.tmp 34) (.tmp 37) _ 0 _ [] rfl rfl rfl rfl rfl (fun h => absurd h (Nat.lt_irrefl 0)) (fun u hu => by simp at hu) (by simp [maxLen]; omega) (by omega) ?_; intro a4 c4 w4 h4)
      all_goals
        have e2 : p.length + 1 + 0 = res.length := by rw [HRS.out]; simp
        have h5 := HEND.out w4 a4 c4 (tbs_of h4 ⟨by rw [← e2], e2⟩ (by rw [HRS.out, List.append_nil, List.append_nil, ETb.recs_append]; rfl))
        go_ret
        exact ⟨a4, c4, by rw [← e2]; first | rfl | (simp; omega) | (have hp0 : p.length = 0 := by omega; rw [hp0]; rfl) | (have hp0 : p.length = 0 := by omega; simp [hp0]; done) | (simp; exact List.length_eq_zero_iff.1 (by omega)) | (simp; exact hpe.symm), h5⟩
    | cons y r =>
      have hlL : p.length < P.length := by have := HPL.out; simp at this; omega
      obtain ⟨g, hg, _, _⟩ := rec_get h8.swap (by decide) p.length hlL
      subst hg
      have HTL := Lib.hid (tbs_tail p.length h8.swap (by omega))
      rw [HT.out] at HTL
      have hlc : p.length < c := by omega
      have HLEN : Hid ((ETb.recs (y :: r)).length = (P.length - p.length) * 2) := by
        have := HPL.out
        unfold Hid; rw [ETb.recs_len]
        show (y :: r).length * 2 = _
        omega
      go_wp2_with (at_builtin; refine wpList_append_sat TTb h8 (.tmp 34) (.tmp 37) (some ⟨g, p.length * 2, none⟩) (P.length - p.length) (c - p.length) (ETb.recs (y :: r)) rfl rfl rfl rfl HLEN.out (fun _ => ⟨_, rfl, HTL.out⟩) (ETb.recs_ones _) (by simp [maxLen]; omega) (by omega) ?_; intro a4 c4 w4 h4)
      all_goals
        have e2 : p.length + 1 + (P.length - p.length) = res.length := by
          have := HPL.out
          rw [HRS.out, List.length_append, List.length_append]; simp only [List.length_cons, List.length_nil] at this ⊢; omega
        have h5 := HEND.out w4 a4 c4 (tbs_of h4 ⟨by rw [← e2], e2⟩ (by rw [HRS.out, ETb.recs_append, ETb.recs_append]; rfl))
        go_ret
        exact ⟨a4, c4, by rw [← e2]; first | rfl | (simp; omega), h5⟩

end Go.Proofs.Ytoeepbjnbgpmpaa

namespace Go.Proofs.Ytoeepbjnbgpmpaa
set_option linter.all false
open Go Go.RowKit

def madeP (S : List Tb) (s : ByteArray) : List Tb := S.takeWhile (fun x => ltB x.1 s) ++ (s, []) :: S.dropWhile (fun x => ltB x.1 s)
theorem pairs_made (P : List TbM) (s : ByteArray) : pairs (madeR P s) = madeP (pairs P) s := by
  unfold pairs madeR madeP
  rw [List.map_append, List.map_cons, List.takeWhile_map, List.dropWhile_map]
  rfl
def newE (P : List TbM) (s : ByteArray) : Int := if 0 ≤ findI P s 0 then 9 else if 16 ≤ P.length then 11 else 0
def newS (P : List TbM) (s : ByteArray) : List Tb := if newE P s = 0 then madeP (pairs P) s else pairs P

set_option maxRecDepth 100000 in
set_option maxHeartbeats 8000000 in
theorem rdo_new (k : Env) (w : World) (R : Assn) (a : Option Addr) (c : Nat) (P : List TbM) (x : CmdM) (hk : x.kind = 5) (hr : RdS k R a P) (hn : P.length ≤ 1000) (hrows : ∀ p ∈ P, p.rows.length ≤ 1000000) (hs1 : ∀ p ∈ P, p.nm.size ≤ 1000000000) (hs2 : x.tb.size ≤ 1000000000) (h : Sat k w R) :
    Calls Try.prog 21 #[.slice a P.length c, cmV x] w fun e w' => ∃ v d P', e = .returned (.tuple #[.slice v P'.length d, .slice none 0 0, .int .i64 (newE P x.tb)]) ∧ pairs P' = newS P x.tb ∧ Sat k w' (StO (.slice v P'.length d) P' * R) := by
  have h0 := h.alloc (.cells #[.int .i64 x.kind, .string x.tb, .int .i64 x.kk, .int .i64 x.vv, .bool x.kd] 24)
  obtain ⟨kind, tb, kk, vv, kd⟩ := x
  simp only at h0 hk hs2 ⊢
  subst hk
  have HR := Lib.hid (fun (R' : Assn) (hm : ∀ w', Sat k w' R' → Sat k w' R) => hr.mono hm)
  have D1 := Lib.hid (fun w R' hm h => rcopy_any k w R' a c P (HR.out R' hm) (by omega) hrows h)
  have D2 := Lib.hid (fun w R' hm s h => rfind_any k w R' a c P s (HR.out R' hm) (by omega) h)
  have HS1 := Lib.hid hs1
  have HS2 := Lib.hid hs2
  obtain ⟨fi, hfi⟩ : ∃ fi, findI P tb 0 = fi := ⟨_, rfl⟩
  have hE : newE P tb = if 0 ≤ fi then 9 else if 16 ≤ P.length then 11 else 0 := by rw [← hfi]; rfl
  have hS : newS P tb = if newE P tb = 0 then madeP (pairs P) tb else pairs P := rfl
  have HF := Lib.hid hfi
  generalize newS P tb = nS at *
  generalize newE P tb = nE at *
  have HE := Lib.hid hE
  have HS := Lib.hid hS
  clear hr h hs1 hs2 hfi hE hS
  go_enter Try.func21, Try.ntmps21
  go_upto_region 1 with fail
  generalize w.alloc (.cells #[.int .i64 5, .string tb, .int .i64 kk, .int .i64 vv, .bool kd] 24) = w0 at *
  generalize w.heap.size = o at *
  go_upto_region 2 with (go_at_call 19; (refine (D1.out _ _ (fun _ q => q.drop) h0).mono ?_); rintro e w1 ⟨v, d, P', rfl, hpp, h1⟩)
  have HPP := Lib.hid hpp
  have e1 : w1.cell? ⟨o, 1, none⟩ = some (.string tb) := h1.swap.cell 1
  clear hpp h0 D1
  have C2 := D2.out w1 _ (fun _ q => q.drop.drop) tb h1
  rw [HF.out] at C2
  have D3 := Lib.hid C2
  clear C2 D2
  go_upto_region 3 with (go_at_call 18; (refine (D3.out).mono ?_); rintro e w2 ⟨rfl, h2⟩)
  have e0 : w2.cell? ⟨o, 0, none⟩ = some (.int .i64 5) := h2.swap.cell 0
  have f1 : w2.cell? ⟨o, 1, none⟩ = some (.string tb) := h2.swap.cell 1
  have hll : P'.length = P.length := by
    have := congrArg List.length HPP.out
    unfold pairs at this
    rwa [List.length_map, List.length_map] at this
  have HLL := Lib.hid hll
  clear D3 e1 hll
  by_cases hf : 0 ≤ fi
  · have hne : nE = 9 := by have := HE.out; rw [if_pos hf] at this; exact this
    subst hne
    have hns : Hid (nS = pairs P) := by have := HS.out; rw [if_neg (by decide)] at this; exact this
    clear HE HS
    go_wp2_with fail
    go_ret3
    exact ⟨v, d, P', rfl, by rw [HPP.out, hns.out], h2.swap.drop⟩
  · by_cases h16 : 16 ≤ P.length
    · have h16' : (16 : Int) ≤ P.length := by omega
      have hne : nE = 11 := by have := HE.out; rw [if_neg hf, if_pos h16] at this; exact this
      subst hne
      have hns : Hid (nS = pairs P) := by have := HS.out; rw [if_neg (by decide)] at this; exact this
      clear HE HS
      go_wp2_with fail
      go_ret3
      exact ⟨v, d, P', rfl, by rw [HPP.out, hns.out], h2.swap.drop⟩
    · have h16' : ¬ (16 : Int) ≤ P.length := by omega
      have hne : nE = 0 := by have := HE.out; rw [if_neg hf, if_neg h16] at this; exact this
      subst hne
      have hns : Hid (nS = madeP (pairs P) tb) := by have := HS.out; rw [if_pos rfl] at this; exact this
      have hnm : ∀ p ∈ P', p.nm.size ≤ 1000000000 := by
        intro p hp
        have : p.p ∈ pairs P := by rw [← HPP.out]; exact List.mem_map_of_mem hp
        obtain ⟨p2, hp2, he⟩ := List.mem_map.1 this
        have := HS1.out p2 hp2
        have e3 : p2.nm = p.nm := congrArg Prod.fst he
        rw [e3] at this; exact this
      have D4 := Lib.hid (rmade_any k w2 _ v d P' tb (by have := HLL.out; omega) hnm HS2.out h2)
      clear HE HS hnm
      go_wp2_with (go_at_call 44; (refine (D4.out).mono ?_); rintro e w3 ⟨v3, d3, rfl, h3⟩)
      go_ret3
      exact ⟨v3, d3, madeR P' tb, rfl, by rw [hns.out, pairs_made, HPP.out], h3.swap.drop⟩

end Go.Proofs.Ytoeepbjnbgpmpaa

namespace Go.Proofs.Ytoeepbjnbgpmpaa
set_option linter.all false
open Go Go.RowKit

theorem findI_range : ∀ (P : List TbM) (s : ByteArray) (i : Int), findI P s i = -1 ∨ ∃ j : Nat, j < P.length ∧ findI P s i = i + j
  | [], _, _ => .inl rfl
  | x :: r, s, i => by
    rw [findI]
    by_cases h : x.nm = s
    · rw [if_pos h]; exact .inr ⟨0, by simp, by simp⟩
    · rw [if_neg h]
      rcases findI_range r s (i + 1) with e | ⟨j, hj, e⟩
      · exact .inl e
      · exact .inr ⟨j + 1, by simp; omega, by rw [e]; omega⟩


set_option maxRecDepth 100000 in
set_option maxHeartbeats 8000000 in
theorem rdo_none (k : Env) (w : World) (R : Assn) (a : Option Addr) (c : Nat) (P : List TbM) (x : CmdM) (hk : x.kind ≠ 5) (hf : findI P x.tb 0 < 0) (hr : RdS k R a P) (hn : P.length ≤ 1000) (hrows : ∀ p ∈ P, p.rows.length ≤ 1000000) (h : Sat k w R) :
    Calls Try.prog 21 #[.slice a P.length c, cmV x] w fun e w' => ∃ v d P', e = .returned (.tuple #[.slice v P'.length d, .slice none 0 0, .int .i64 8]) ∧ pairs P' = pairs P ∧ Sat k w' (StO (.slice v P'.length d) P' * R) := by
  (
    have h0 := h.alloc (.cells #[.int .i64 x.kind, .string x.tb, .int .i64 x.kk, .int .i64 x.vv, .bool x.kd] 24)
    obtain ⟨kind, tb, kk, vv, kd⟩ := x
    simp only at h0 hk hf ⊢
    have HR := Lib.hid (fun (R' : Assn) (hm : ∀ w', Sat k w' R' → Sat k w' R) => hr.mono hm)
    have D1 := Lib.hid (fun w R' hm h => rcopy_any k w R' a c P (HR.out R' hm) (by omega) hrows h)
    have D2 := Lib.hid (fun w R' hm s h => rfind_any k w R' a c P s (HR.out R' hm) (by omega) h))
  obtain ⟨fi, hfi⟩ : ∃ fi, findI P tb 0 = fi := ⟨_, rfl⟩
  have HF := Lib.hid hfi
  rw [hfi] at hf
  have b5 : (kind == 5) = false := by simp; exact hk
  clear hr h hfi hk
  (
    go_enter Try.func21, Try.ntmps21
    go_upto_region 1 with fail
    generalize w.alloc (.cells #[.int .i64 kind, .string tb, .int .i64 kk, .int .i64 vv, .bool kd] 24) = w0 at *
    generalize w.heap.size = o at *
    go_upto_region 2 with (go_at_call 19; (refine (D1.out _ _ (fun _ q => q.drop) h0).mono ?_); rintro e w1 ⟨v, d, P', rfl, hpp, h1⟩)
    have HPP := Lib.hid hpp
    have e1 : w1.cell? ⟨o, 1, none⟩ = some (.string tb) := h1.swap.cell 1
    clear hpp h0 D1
    have C2 := D2.out w1 _ (fun _ q => q.drop.drop) tb h1
    rw [HF.out] at C2
    have D3 := Lib.hid C2
    clear C2 D2
    go_upto_region 3 with (go_at_call 18; (refine (D3.out).mono ?_); rintro e w2 ⟨rfl, h2⟩)
    have e0 : w2.cell? ⟨o, 0, none⟩ = some (.int .i64 kind) := h2.swap.cell 0
    clear D3 e1)
  go_wp2_with fail
  go_ret3
  exact ⟨v, d, P', rfl, HPP.out, h2.swap.drop⟩

set_option maxRecDepth 100000 in
set_option maxHeartbeats 8000000 in
theorem rdo_get (k : Env) (w : World) (R : Assn) (a : Option Addr) (c : Nat) (P : List TbM) (x : CmdM) (hk : x.kind = 1) (i : Nat) (hi : i < P.length) (hf : findI P x.tb 0 = i) (hr : RdS k R a P) (hn : P.length ≤ 1000) (hrows : ∀ p ∈ P, p.rows.length ≤ 1000000) (h : Sat k w R) :
    Calls Try.prog 21 #[.slice a P.length c, cmV x] w fun e w' => ∃ v d P' vr dr, e = .returned (.tuple #[.slice v P'.length d, .slice vr (P[i].rows.filter (meansB x.kd x.kk)).length dr, .int .i64 0]) ∧ pairs P' = pairs P ∧ Sat k w' (Rws (.slice vr (P[i].rows.filter (meansB x.kd x.kk)).length dr) (P[i].rows.filter (meansB x.kd x.kk)) * (StO (.slice v P'.length d) P' * R)) := by
  (
    have h0 := h.alloc (.cells #[.int .i64 x.kind, .string x.tb, .int .i64 x.kk, .int .i64 x.vv, .bool x.kd] 24)
    obtain ⟨kind, tb, kk, vv, kd⟩ := x
    simp only at h0 hk hf ⊢
    have HR := Lib.hid (fun (R' : Assn) (hm : ∀ w', Sat k w' R' → Sat k w' R) => hr.mono hm)
    have D1 := Lib.hid (fun w R' hm h => rcopy_any k w R' a c P (HR.out R' hm) (by omega) hrows h)
    have D2 := Lib.hid (fun w R' hm s h => rfind_any k w R' a c P s (HR.out R' hm) (by omega) h))
  have b5 : (kind == 5) = false := by rw [hk]; rfl
  have b1 : (kind == 1) = true := by rw [hk]; rfl
  have HF := Lib.hid hf
  obtain ⟨g, og, hg, hgc⟩ := rds_at hr (by rintro rfl; cases hi)
  subst hg
  have HG : Hid (∀ {w' : World}, Sat k w' R → w'.cell? ⟨g, og + i * 2 + 1, none⟩ = some (.slice P[i].a P[i].rows.length P[i].c)) := by
    unfold Hid
    intro w' q
    exact (hgc w' q i hi).2
  have D4 := Lib.hid (fun w R' (hm : ∀ w', Sat k w' R' → Sat k w' R) h => rget_any k w R' P[i].a P[i].c P[i].rows ⟨kind, tb, kk, vv, kd⟩ ((hr.2 _ (List.getElem_mem hi)).mono hm) (hrows _ (List.getElem_mem hi)) h)
  have hiI : (i : Int) < P.length := by omega
  have hi0 : ¬ (i : Int) < 0 := by omega
  clear hr h hf hgc hrows hk
  generalize P[i] = p at *
  obtain ⟨pn, pa, pc, pr⟩ := p
  simp only at HG D4 ⊢
  generalize pr.filter (meansB kd kk) = fr at *
  (
    go_enter Try.func21, Try.ntmps21
    go_upto_region 1 with fail
    generalize w.alloc (.cells #[.int .i64 kind, .string tb, .int .i64 kk, .int .i64 vv, .bool kd] 24) = w0 at *
    generalize w.heap.size = o at *
    go_upto_region 2 with (go_at_call 19; (refine (D1.out _ _ (fun _ q => q.drop) h0).mono ?_); rintro e w1 ⟨v, d, P', rfl, hpp, h1⟩)
    have HPP := Lib.hid hpp
    have e1 : w1.cell? ⟨o, 1, none⟩ = some (.string tb) := h1.swap.cell 1
    clear hpp h0 D1
    have C2 := D2.out w1 _ (fun _ q => q.drop.drop) tb h1
    rw [HF.out] at C2
    have D3 := Lib.hid C2
    clear C2 D2
    go_upto_region 3 with (go_at_call 18; (refine (D3.out).mono ?_); rintro e w2 ⟨rfl, h2⟩)
    have e0 : w2.cell? ⟨o, 0, none⟩ = some (.int .i64 kind) := h2.swap.cell 0
    clear D3 e1)
  obtain ⟨Pz, hP, h3⟩ : ∃ Pz, Pz = _ ∧ Sat k w2 Pz := ⟨_, rfl, h2⟩
  have HDD : Hid (∀ {w' : World}, Sat k w' Pz → w'.cell? ⟨o, 0, none⟩ = some (.int .i64 kind) ∧ w'.cell? ⟨o, 1, none⟩ = some (.string tb) ∧ w'.cell? ⟨o, 2, none⟩ = some (.int .i64 kk) ∧ w'.cell? ⟨o, 3, none⟩ = some (.int .i64 vv) ∧ w'.cell? ⟨o, 4, none⟩ = some (.bool kd) ∧ w'.cell? ⟨g, og + i * 2 + 1, none⟩ = some (.slice pa pr.length pc)) := by
    unfold Hid
    intro w' q
    rw [hP] at q
    exact ⟨q.swap.cell 0, q.swap.cell 1, q.swap.cell 2, q.swap.cell 3, q.swap.cell 4, HG.out q.drop.drop⟩
  have HQF : Hid (∀ {w' : World} {F : Assn}, Sat k w' (F * Pz) → Sat k w' (F * (StO (.slice v P'.length d) P' * R))) := by
    unfold Hid
    intro w' F q
    rw [hP] at q
    exact (q.get3.drop).of_eq rfl
  have D5 := Lib.hid (fun w' q => D4.out w' Pz (fun _ q => by rw [hP] at q; exact q.drop.drop) q)
  clear h2 D4 hP HG
  go_upto_region 12 with fail
  go_region_held3 (fun w' => w'.cell? ⟨o, 0, none⟩ = some (.int .i64 kind) ∧ w'.cell? ⟨o, 1, none⟩ = some (.string tb) ∧ w'.cell? ⟨o, 2, none⟩ = some (.int .i64 kk) ∧ w'.cell? ⟨o, 3, none⟩ = some (.int .i64 vv) ∧ w'.cell? ⟨o, 4, none⟩ = some (.bool kd) ∧ w'.cell? ⟨g, og + i * 2 + 1, none⟩ = some (.slice pa pr.length pc)) (first | exact HDD.out (by assumption) | exact HDD.out (Sat.drop (by assumption)) | fail) (first | (go_at_call 45; (refine (D5.out _ (by first | assumption | exact Sat.drew (by assumption))).mono ?_); rintro e w4 ⟨v4, d4, rfl, h4⟩) | fail)
  all_goals
    go_wp2_with fail
    go_ret3
    exact ⟨v, d, P', v4, d4, rfl, HPP.out, HQF.out h4⟩

end Go.Proofs.Ytoeepbjnbgpmpaa

namespace Go.Proofs.Ytoeepbjnbgpmpaa
set_option linter.all false
open Go Go.RowKit

theorem keepB_same (x : CmdM) (l : List Rw2) (h : keepB x l = true) : (changeR x l).1 = l := by
  unfold keepB at h
  unfold changeR
  by_cases k2 : x.kind = 2
  · rw [if_pos k2] at h ⊢
    rw [Bool.and_eq_true, decide_eq_true_eq, decide_eq_true_eq] at h
    rw [if_pos h]
  · rw [if_neg k2] at h ⊢
    by_cases k3 : x.kind = 3
    · rw [if_pos k3] at h ⊢
      cases hh : hadR x.kk l with
      | nil => rfl
      | cons y r =>
        rw [hh] at h
        simp only [decide_eq_true_eq] at h
        simp only
        rw [if_pos h]
    · rw [if_neg k3] at h; cases h


set_option maxRecDepth 100000 in
set_option maxHeartbeats 8000000 in
theorem rdo_chg (k : Env) (w : World) (R : Assn) (a : Option Addr) (c : Nat) (P : List TbM) (x : CmdM) (hk : x.kind ≠ 5) (hk1 : x.kind ≠ 1) (i : Nat) (hi : i < P.length) (hf : findI P x.tb 0 = i) (hr : RdS k R a P) (hn : P.length ≤ 1000) (hrows : ∀ p ∈ P, p.rows.length ≤ 1000000) (hv : ∀ y ∈ P[i].rows, 0 ≤ y.2 ∧ y.2 ≤ 999999) (h : Sat k w R) :
    Calls Try.prog 21 #[.slice a P.length c, cmV x] w fun e w' => ∃ v d P', e = .returned (.tuple #[.slice v P'.length d, .slice none 0 0, .int .i64 (changeR x P[i].rows).2]) ∧ pairs P' = (pairs P).set i (P[i].nm, (changeR x P[i].rows).1) ∧ Sat k w' (StO (.slice v P'.length d) P' * R) := by
  obtain ⟨cr, hcr⟩ : ∃ cr, changeR x P[i].rows = cr := ⟨_, rfl⟩
  obtain ⟨kb, hkb⟩ : ∃ kb, keepB x P[i].rows = kb := ⟨_, rfl⟩
  have HSM : Hid (kb = true → cr.1 = P[i].rows) := by
    intro q
    rw [← hcr]; exact keepB_same x _ (by rw [hkb]; exact q)
  have HCR := Lib.hid hcr
  have HKB := Lib.hid hkb
  rw [hcr]
  have HV := Lib.hid hv
  clear hcr hkb hv
  have hrl := hrows _ (List.getElem_mem hi)
  (
    have h0 := h.alloc (.cells #[.int .i64 x.kind, .string x.tb, .int .i64 x.kk, .int .i64 x.vv, .bool x.kd] 24)
    obtain ⟨kind, tb, kk, vv, kd⟩ := x
    simp only at h0 hk hf ⊢
    have HR := Lib.hid (fun (R' : Assn) (hm : ∀ w', Sat k w' R' → Sat k w' R) => hr.mono hm)
    have D1 := Lib.hid (fun w R' hm h => rcopy_any k w R' a c P (HR.out R' hm) (by omega) hrows h)
    have D2 := Lib.hid (fun w R' hm s h => rfind_any k w R' a c P s (HR.out R' hm) (by omega) h))
  have b5 : (kind == 5) = false := by simp; exact hk
  have b1 : (kind == 1) = false := by simp; exact hk1
  have HF := Lib.hid hf
  have hiI : (i : Int) < P.length := by omega
  have hi0 : ¬ (i : Int) < 0 := by omega
  clear hr h hf hrows hk hk1
  (
    go_enter Try.func21, Try.ntmps21
    go_upto_region 1 with fail
    generalize w.alloc (.cells #[.int .i64 kind, .string tb, .int .i64 kk, .int .i64 vv, .bool kd] 24) = w0 at *
    generalize w.heap.size = o at *
    go_upto_region 2 with (go_at_call 19; (refine (D1.out _ _ (fun _ q => q.drop) h0).mono ?_); rintro e w1 ⟨v, d, P', rfl, hpp, h1⟩)
    have HPP := Lib.hid hpp
    have e1 : w1.cell? ⟨o, 1, none⟩ = some (.string tb) := h1.swap.cell 1
    clear hpp h0 D1
    have C2 := D2.out w1 _ (fun _ q => q.drop.drop) tb h1
    rw [HF.out] at C2
    have D3 := Lib.hid C2
    clear C2 D2
    go_upto_region 3 with (go_at_call 18; (refine (D3.out).mono ?_); rintro e w2 ⟨rfl, h2⟩)
    have e0 : w2.cell? ⟨o, 0, none⟩ = some (.int .i64 kind) := h2.swap.cell 0
    clear D3 e1)
  have hll : P'.length = P.length := by
    have := congrArg List.length HPP.out
    unfold pairs at this
    rwa [List.length_map, List.length_map] at this
  have hi' : i < P'.length := by omega
  have hiI' : (i : Int) < P'.length := by omega
  have hpi : P'[i].p = P[i].p := by
    have e1 : (pairs P')[i]? = (pairs P)[i]? := by rw [HPP.out]
    unfold pairs at e1
    rw [List.getElem?_map, List.getElem?_map, List.getElem?_eq_getElem hi', List.getElem?_eq_getElem hi] at e1
    exact Option.some.inj e1
  have hnm : P'[i].nm = P[i].nm := congrArg Prod.fst hpi
  have hro : P'[i].rows = P[i].rows := congrArg Prod.snd hpi
  obtain ⟨rows, hrw⟩ : ∃ rows, P[i].rows = rows := ⟨_, rfl⟩
  rw [hrw] at HCR HKB HSM HV hrl hro
  obtain ⟨nm, hnmP⟩ : ∃ nm, P[i].nm = nm := ⟨_, rfl⟩
  rw [hnmP] at hnm
  have HNP := Lib.hid hnmP
  clear hnmP
  obtain ⟨q, hq⟩ : ∃ q, P'[i] = q := ⟨_, rfl⟩
  rw [hq] at hnm hro
  obtain ⟨pn, pa, pc, pr⟩ := q
  simp only at hnm hro
  subst hnm hro
  have hA : Sat k w2 (RecS ETb 43 (.slice v P'.length d) P' * (stars tbR P' * (blk o (cmO ⟨kind, tb, kk, vv, kd⟩) * R))) := h2.of_eq (by unfold StO; rw [star_assoc])
  obtain ⟨g, hg, _, _⟩ := rec_get hA (by decide) i hi'
  subst hg
  have hsp : P' = P'.take i ++ (⟨pn, pa, pc, pr⟩ : TbM) :: P'.drop (i + 1) := by
    rw [← hq, List.getElem_cons_drop, List.take_append_drop]
  obtain ⟨F, hF⟩ : ∃ F, F = stars tbR (P'.take i ++ P'.drop (i + 1)) := ⟨_, rfl⟩
  have hst : stars tbR P' = tbR ⟨pn, pa, pc, pr⟩ * F := by rw [hF, ← stars_mid, ← hsp]
  have hset : ∀ q : TbM, stars tbR (P'.set i q) = tbR q * F := fun q => by
    rw [hF, ← stars_mid]
    congr 1
    rw [List.set_eq_take_append_cons_drop, if_pos hi']
  obtain ⟨Pz, hP, h3⟩ : ∃ Pz, Pz = _ ∧ Sat k w2 Pz := ⟨_, rfl, hA⟩
  have HDD : Hid (∀ {w' : World}, Sat k w' Pz → w'.cell? ⟨o, 0, none⟩ = some (.int .i64 kind) ∧ w'.cell? ⟨o, 1, none⟩ = some (.string tb) ∧ w'.cell? ⟨o, 2, none⟩ = some (.int .i64 kk) ∧ w'.cell? ⟨o, 3, none⟩ = some (.int .i64 vv) ∧ w'.cell? ⟨o, 4, none⟩ = some (.bool kd) ∧ w'.cell? ⟨g, i * 2 + 1, none⟩ = some (.slice pa pr.length pc)) := by
    unfold Hid
    intro w' q
    rw [hP] at q
    refine ⟨q.get3.cell 0, q.get3.cell 1, q.get3.cell 2, q.get3.cell 3, q.get3.cell 4, ?_⟩
    obtain ⟨g', hg', _, hc'⟩ := rec_get q (by decide) i hi'
    simp only [Option.some.injEq, Addr.mk.injEq, and_true] at hg'
    subst hg'
    have := hc' 1 (by decide)
    rw [hq] at this
    exact this
  have hpz : Pz = Rws (.slice pa pr.length pc) pr * (RecS ETb 43 (.slice (some ⟨g, 0, none⟩) P'.length d) P' * (F * (blk o (cmO ⟨kind, tb, kk, vv, kd⟩) * R))) := by
    rw [hP, hst]
    show _ = Rws (.slice pa pr.length pc) pr * _
    unfold tbR TbM.v
    ac_rfl
  have RRD : RdR k Pz pa pr := by rw [hpz]; rw [hpz] at h3; exact rdr_own h3
  have hcp : pr.length ≤ pc := by rw [hpz] at h3; exact (own_cap h3).1
  have D5 := Lib.hid (fun w' q => rchange_any k w' Pz pa pc pr ⟨kind, tb, kk, vv, kd⟩ RRD hrl hcp HV.out q)
  rw [HCR.out, HKB.out] at D5
  have HQ := Lib.hid hpz
  have HSET := Lib.hid hset
  have HQI := Lib.hid hq
  clear h2 hA hP hpz RRD hcp hst hset hq hsp hF hpi
  go_upto_region 13 with fail
  go_region_held3 (fun w' => w'.cell? ⟨o, 0, none⟩ = some (.int .i64 kind) ∧ w'.cell? ⟨o, 1, none⟩ = some (.string tb) ∧ w'.cell? ⟨o, 2, none⟩ = some (.int .i64 kk) ∧ w'.cell? ⟨o, 3, none⟩ = some (.int .i64 vv) ∧ w'.cell? ⟨o, 4, none⟩ = some (.bool kd) ∧ w'.cell? ⟨g, i * 2 + 1, none⟩ = some (.slice pa pr.length pc)) (first | exact HDD.out (by assumption) | exact HDD.out (Sat.drop (by assumption)) | fail) (first | (go_at_call 46; (refine (D5.out _ (by first | assumption | exact Sat.drew (by assumption))).mono ?_); rintro e w4 ⟨v4, d4, rfl, hkp, h4⟩) | fail)
  all_goals
    have h5 : Sat k w4 (RecS ETb 43 (.slice (some ⟨g, 0, none⟩) P'.length d) P' * (keepA kb (Rws (.slice v4 cr.1.length d4) cr.1) * (Rws (.slice pa pr.length pc) pr * (F * (blk o (cmO ⟨kind, tb, kk, vv, kd⟩) * R))))) := h4.of_eq (by rw [HQ.out]; ac_rfl)
    have hj : i * 2 + 1 < P'.length * 2 := by omega
    obtain ⟨u, hu, hc1, hfz, _⟩ := own_at h5 (i * 2 + 1) hj
    have h6 := own_set2 h5 (i * 2 + 1) (.slice v4 cr.1.length d4)
    have hrs : (ETb.recs P').set (i * 2 + 1) (.slice v4 cr.1.length d4) = ETb.recs (P'.set i ⟨pn, v4, d4, cr.1⟩) := ETb.recs_set P' i 1 _ ⟨pn, v4, d4, cr.1⟩ hi' (by decide) (by rw [HQI.out]; rfl)
    rw [hrs] at h6
    have hln : (P'.set i (⟨pn, v4, d4, cr.1⟩ : TbM)).length = P'.length := List.length_set
    have h7 : Sat k (w4.setCell ⟨g, i * 2 + 1, none⟩ (.slice v4 cr.1.length d4)) (StO (.slice (some ⟨g, 0, none⟩) (P'.set i (⟨pn, v4, d4, cr.1⟩ : TbM)).length d) (P'.set i ⟨pn, v4, d4, cr.1⟩) * R) := by
      have h8 : Sat k (w4.setCell ⟨g, i * 2 + 1, none⟩ (.slice v4 cr.1.length d4)) (RecS ETb 43 (.slice (some ⟨g, 0, none⟩) (P'.set i (⟨pn, v4, d4, cr.1⟩ : TbM)).length d) (P'.set i ⟨pn, v4, d4, cr.1⟩) * (keepA kb (Rws (.slice v4 cr.1.length d4) cr.1) * (Rws (.slice pa pr.length pc) pr * (F * (blk o (cmO ⟨kind, tb, kk, vv, kd⟩) * R))))) := by
        rw [hln]
        refine h6.of_eq ?_
        unfold RecS
        rw [hln]
      have hgoal : StO (.slice (some ⟨g, 0, none⟩) (P'.set i (⟨pn, v4, d4, cr.1⟩ : TbM)).length d) (P'.set i ⟨pn, v4, d4, cr.1⟩) * R = RecS ETb 43 (.slice (some ⟨g, 0, none⟩) (P'.set i (⟨pn, v4, d4, cr.1⟩ : TbM)).length d) (P'.set i ⟨pn, v4, d4, cr.1⟩) * (Rws (.slice v4 cr.1.length d4) cr.1 * (F * R)) := by
        unfold StO
        rw [HSET.out]
        show RecS _ _ _ _ * (Rws (.slice v4 cr.1.length d4) cr.1 * F) * R = _
        ac_rfl
      rw [hgoal]
      cases kb with
      | true =>
        obtain ⟨rfl, rfl⟩ := hkp rfl
        have hsm := HSM.out rfl
        rw [hsm] at h8 ⊢
        rw [keepA_yes rfl] at h8
        exact (h8.get4.drop).of_eq (by first | rfl | ac_rfl)
      | false =>
        rw [keepA_no rfl] at h8
        exact (h8.get3.drop.get4.drop).of_eq (by first | rfl | ac_rfl)
    have HPS : Hid (pairs (P'.set i (⟨pn, v4, d4, cr.1⟩ : TbM)) = (pairs P).set i (P[i].nm, cr.1)) := by
      unfold Hid
      rw [HNP.out, ← HPP.out]
      unfold pairs
      rw [List.map_set]; rfl
    have HLN := Lib.hid hln
    clear h4 h5 h6 hrs hu hln
    go_wp2_with fail
    go_ret3
    exact ⟨some ⟨g, 0, none⟩, d, P'.set i ⟨pn, v4, d4, cr.1⟩, by rw [HLN.out, hll]; rfl, HPS.out, h7⟩

end Go.Proofs.Ytoeepbjnbgpmpaa

namespace Go.Proofs.Ytoeepbjnbgpmpaa
set_option linter.all false
open Go Go.RowKit

/-- What of tells: a function that has caught the command. -/
theorem of_any8 (k : Env) (w : World) (R : Assn) (x : CmdM) (h : Sat k w R) :
    Calls Try.prog 40 #[cmV x] w fun e w' => ∃ o : Nat, e = .returned (.func (.func 56) #[] #[.pointer (some ⟨o, 0, none⟩)]) ∧ Sat k w' (blk o (cmO x) * R) := by
  have hmf : ∀ (fn : Fn) (first cap : Array Value) (w : World), (Instr.makeFunc fn first cap).run Try.prog w = .ok (.func fn first cap) w := fun _ _ _ _ => rfl
  have h0 := h.alloc (.cells #[.int .i64 x.kind, .string x.tb, .int .i64 x.kk, .int .i64 x.vv, .bool x.kd] 24)
  obtain ⟨kind, tb, kk, vv, kd⟩ := x
  simp only at h0
  clear h
  go_enter Try.func40, Try.ntmps40
  go_wp2_with fail
  go_ret
  exact ⟨_, rfl, h0⟩

/-- Without the first n, with one more: how the rows of a table are made room in. -/
theorem placeI_split : ∀ (l : List Rw2) (kk : Int) (i : Int), placeI l kk i = i + (l.takeWhile fun y => decide (y.1 < kk)).length
  | [], _, i => by simp [placeI]
  | y :: r, kk, i => by
    rw [placeI, List.takeWhile_cons]
    by_cases h : kk ≤ y.1
    · rw [if_pos h, if_neg (by simp; omega)]; simp
    · rw [if_neg h, if_pos (by simp; omega), placeI_split r kk (i + 1), List.length_cons]; omega
theorem placeB_split : ∀ (l : List Rw2) (kk : Int), placeB l kk = headB kk (l.dropWhile fun y => decide (y.1 < kk))
  | [], _ => rfl
  | y :: r, kk => by
    rw [placeB, List.dropWhile_cons]
    by_cases h : kk ≤ y.1
    · rw [if_pos h, if_neg (by simp; omega)]; rfl
    · rw [if_neg h, if_pos (by simp; omega), placeB_split r kk]

def placeN (l : List Rw2) (kk : Int) : Nat := (l.takeWhile fun y => decide (y.1 < kk)).length
theorem split_at {p q l : List Rw2} (e : p ++ q = l) : l.take p.length = p ∧ l.drop p.length = q := by
  subst e
  exact ⟨List.take_left, List.drop_left⟩
theorem placeN_split (l : List Rw2) (kk : Int) : l.take (placeN l kk) = l.takeWhile (fun y => decide (y.1 < kk)) ∧ l.drop (placeN l kk) = l.dropWhile (fun y => decide (y.1 < kk)) :=
  split_at List.takeWhile_append_dropWhile
/-- A row that is there gets another value. -/
theorem putR_had (l : List Rw2) (kk vv : Int) (h : placeB l kk = true) : placeN l kk < l.length ∧ putR l (kk, vv) = l.set (placeN l kk) (kk, vv) := by
  rw [placeB_split] at h
  obtain ⟨e1, e2⟩ := placeN_split l kk
  rw [← e2] at h
  have hlt : placeN l kk < l.length := by
    rcases Nat.lt_or_ge (placeN l kk) l.length with q | q
    · exact q
    · rw [List.drop_eq_nil_of_le q] at h; cases h
  refine ⟨hlt, ?_⟩
  unfold putR
  simp only
  rw [← e1, ← e2]
  rw [List.drop_eq_getElem_cons hlt] at h ⊢
  have hk : l[placeN l kk].1 = kk := of_decide_eq_true h
  rw [cutR, if_pos hk, List.set_eq_take_append_cons_drop, if_pos hlt]
/-- A row that is not there is put between. -/
theorem putR_new (l : List Rw2) (kk vv : Int) (h : placeB l kk = false) : putR l (kk, vv) = l.take (placeN l kk) ++ (kk, vv) :: l.drop (placeN l kk) := by
  rw [placeB_split] at h
  obtain ⟨e1, e2⟩ := placeN_split l kk
  unfold putR
  simp only
  rw [e1, e2]
  congr 2
  cases hd : l.dropWhile (fun y => decide (y.1 < kk)) with
  | nil => rfl
  | cons y r =>
    rw [hd] at h
    rw [cutR, if_neg (of_decide_eq_false h)]

end Go.Proofs.Ytoeepbjnbgpmpaa
