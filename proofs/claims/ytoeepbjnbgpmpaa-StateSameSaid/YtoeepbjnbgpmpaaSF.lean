/- Several texts in one: StU, StV, StW. -/
import Derived.Test.YtoeepbjnbgpmpaaSE
namespace Go.Proofs.Ytoeepbjnbgpmpaa
set_option linter.all false
open Go Go.RowKit

theorem recs_shifted {α : Type} (E : Enc α) (l : List α) (i n : Nat) : shifted (E.recs l) i E.n n = E.recs (shifted l i 1 n) := by
  unfold shifted
  rw [E.recs_take, E.recs_drop, E.recs_take, ← E.recs_append]
  simp only [Nat.mul_one]

set_option maxRecDepth 100000 in
set_option maxHeartbeats 8000000 in
theorem sput_new (k : Env) (w : World) (R : Assn) (g d : Nat) (P : List TbM) (i : Nat) (x : CmdM) (hi : i < P.length) (hl : P[i].rows.length < 64) (hno : placeB P[i].rows x.kk = false) (n : Nat) (hpn : placeI P[i].rows x.kk 0 = n) (hnl : n ≤ P[i].rows.length) (h : Sat k w (StO (.slice (some ⟨g, 0, none⟩) P.length d) P * R)) :
    Calls Try.prog 41 #[.pointer (some ⟨g, i * 2, none⟩), cmV x] w fun e w' => ∃ a' c', e = .returned (.int .i64 0) ∧ Sat k w' (StO (.slice (some ⟨g, 0, none⟩) P.length d) (P.set i ⟨P[i].nm, a', c', P[i].rows.take n ++ (x.kk, x.vv) :: P[i].rows.drop n⟩) * R) := by
  have h0 := h.alloc (.cells #[.int .i64 x.kind, .string x.tb, .int .i64 x.kk, .int .i64 x.vv, .bool x.kd] 24)
  obtain ⟨kind, tb, kk, vv, kd⟩ := x
  simp only at h0 hno hpn
  clear h
  obtain ⟨F, hF1, hF2⟩ := sto_split hi
  have hal := fun (a' : Option Addr) (c' : Nat) (l' : List Rw2) => ETb.recs_set P i 1 (.slice a' l'.length c') ⟨P[i].nm, a', c', l'⟩ hi (by decide) rfl
  obtain ⟨p, hp⟩ : ∃ p, P[i] = p := ⟨_, rfl⟩
  have HP := Lib.hid hp
  simp only [hp] at hno hl hpn hnl hF1 hal
  simp only [hp]
  obtain ⟨pn, pa, pc, pr⟩ := p
  simp only at hno hl hpn hnl hal
  have hA : Sat k _ (Rws (.slice pa pr.length pc) pr * (RecS ETb 43 (.slice (some ⟨g, 0, none⟩) P.length d) P * (F * (blk w.heap.size (cmO ⟨kind, tb, kk, vv, kd⟩) * R)))) := h0.of_eq (by unfold StO; rw [hF1]; show _ = Rws (.slice pa pr.length pc) pr * _; unfold tbR TbM.v; ac_rfl)
  have HF2 := Lib.hid hF2
  have HAL := Lib.hid hal
  clear h0 hF1 hF2 hal hp
  go_enter Try.func41, Try.ntmps41
  go_upto_region 1 with fail
  generalize w.alloc (.cells #[.int .i64 kind, .string tb, .int .i64 kk, .int .i64 vv, .bool kd] 24) = w0 at *
  generalize w.heap.size = o at *
  obtain ⟨Pz, hP, h3⟩ : ∃ Pz, Pz = _ ∧ Sat k w0 Pz := ⟨_, rfl, hA⟩
  have HDD : Hid (∀ {w' : World}, Sat k w' Pz → w'.cell? ⟨o, 2, none⟩ = some (.int .i64 kk) ∧ w'.cell? ⟨o, 3, none⟩ = some (.int .i64 vv) ∧ w'.cell? ⟨g, i * 2 + 1, none⟩ = some (.slice pa pr.length pc)) := by
    unfold Hid
    intro w' q
    rw [hP] at q
    refine ⟨q.get4.cell 2, q.get4.cell 3, ?_⟩
    obtain ⟨g', hg', _, hc'⟩ := rec_get q.swap (by decide) i hi
    simp only [Option.some.injEq, Addr.mk.injEq, and_true] at hg'
    subst hg'
    have := hc' 1 (by decide)
    rw [HP.out] at this
    exact this
  have RRD : RdR k Pz pa pr := by
    rw [hP]
    exact rdr_own hA
  have D := fun w' q => place_any k w' Pz pa pc pr kk RRD (by omega) q
  rw [hno, hpn] at D
  have D1 := Lib.hid D
  have HPE := Lib.hid hP
  have h64 : ¬ (64 : Int) ≤ pr.length := by omega
  clear hA hP RRD D hno hpn
  go_region_held3 (fun w' => w'.cell? ⟨o, 2, none⟩ = some (.int .i64 kk) ∧ w'.cell? ⟨o, 3, none⟩ = some (.int .i64 vv) ∧ w'.cell? ⟨g, i * 2 + 1, none⟩ = some (.slice pa pr.length pc)) (first | exact HDD.out (by assumption) | fail) (first | (go_at_call 57; (with_reducible refine (D1.out _ (by first | assumption | exact Sat.drew (by assumption))).mono ?_); rintro e w4 ⟨rfl, h4⟩) | fail)
  all_goals
    obtain ⟨f1, f1b, f2⟩ := HDD.out h4
    rw [HPE.out] at h4
    have HTC : Hid (∀ {w' : World} {A B : Assn}, Sat k w' (A * (RecS ETb 43 (.slice (some ⟨g, 0, none⟩) P.length d) P * B)) → w'.cell? ⟨g, i * 2 + 1, none⟩ = some (.slice pa pr.length pc) ∧ w'.frozen? ⟨g, i * 2 + 1, none⟩ = false) := by
      unfold Hid
      intro w' A B q
      obtain ⟨u, hu, q1, q2, _⟩ := own_at q.swap (i * 2 + 1) (by show i * 2 + 1 < P.length * 2; omega)
      have hg := ETb.recs_get P i 1 hi (by decide)
      rw [HP.out] at hg
      have : u = .slice pa pr.length pc := Option.some.inj (hu.symm.trans hg)
      rw [this] at q1
      exact ⟨q1, q2⟩
    go_upto_region 7 with fail
    go_upto_region 8 with (at_builtin; refine wpList_append_sat TRw (h4.alloc' _) (.tmp 37) (.tmp 39) _ 1 1 [.int .i64 0, .int .i64 0] rfl rfl rfl rfl rfl (fun _ => ⟨_, rfl, new_cells_at _ _ _ _ (by first | rfl | simp)⟩) (ERw.one zR) (by simp [maxLen]; omega) (by omega) ?_; intro a5 c5 w5 h5; obtain ⟨g1, g2⟩ := HTC.out h5)
    have h6 := (own_set2 h5.swap (i * 2 + 1) (.slice a5 (pr.length + 1) c5)).swap
    have HRL : Hid ((ETb.recs P).set (i * 2 + 1) (.slice a5 (pr.length + 1) c5) = ETb.recs (P.set i ⟨pn, a5, c5, pr.take n ++ (kk, vv) :: pr.drop n⟩)) := by
      have := HAL.out a5 c5 (pr.take n ++ (kk, vv) :: pr.drop n)
      have e : (pr.take n ++ (kk, vv) :: pr.drop n).length = pr.length + 1 := by simp; omega
      rw [e] at this
      exact this
    clear g1 g2 h4 h5 f1 f1b f2
    generalize hw6 : w5.setCell ⟨g, i * 2 + 1, none⟩ (.slice a5 (pr.length + 1) c5) = w6 at *
    clear hw6
    have HC2 : Hid (∀ {w' : World} {X : List Value}, Sat k w' (Own 45 2 (.slice a5 (pr.length + 1) c5) (pr.length + 1) X * (Own 43 2 (.slice (some ⟨g, 0, none⟩) P.length d) P.length ((ETb.recs P).set (i * 2 + 1) (.slice a5 (pr.length + 1) c5)) * (F * (blk o (cmO ⟨kind, tb, kk, vv, kd⟩) * R)))) → w'.cell? ⟨g, i * 2 + 1, none⟩ = some (.slice a5 (pr.length + 1) c5) ∧ w'.cell? ⟨o, 2, none⟩ = some (.int .i64 kk) ∧ w'.cell? ⟨o, 3, none⟩ = some (.int .i64 vv)) := by
      unfold Hid
      intro w' X q
      obtain ⟨u, hu, q1, _, _⟩ := own_at q.swap (i * 2 + 1) (by show i * 2 + 1 < P.length * 2; omega)
      have hl2 : (ETb.recs P).length = P.length * 2 := ETb.recs_len P
      rw [List.getElem?_set_self (by omega)] at hu
      cases hu
      exact ⟨q1, q.get4.cell 2, q.get4.cell 3⟩
    obtain ⟨c6, _, _⟩ := HC2.out h6
    obtain ⟨hcap1, hcap2⟩ := own_cap h6
    obtain ⟨gn, rfl, hgn, _⟩ := own_get h6 (by omega)
    unfold maxLen at hcap2
    have ww1 : IntKind.i64.wrap ((n : Int) + 1) = (n : Int) + 1 := IntWalk.i64_in _ (by omega)
    have p1 : (0 : Int) ≤ (n : Int) + 1 := by omega
    have p2 : (n : Int) + 1 ≤ (pr.length : Int) + 1 := by omega
    have p3 : ((n : Int) + 1).toNat = n + 1 := by omega
    have p4 : (n : Int) ≤ (pr.length : Int) + 1 := by omega
    have p5 : ¬ c5 = n := by omega
    obtain ⟨dp, hdp, hdp2⟩ : ∃ dp, (if c5 = n + 1 then (some ⟨gn, 0, none⟩ : Option Addr) else some ⟨gn, (n + 1) * 2, none⟩) = dp ∧ Hid ((n + 1 < pr.length + 1 → dp = some ⟨gn, (n + 1) * 2, none⟩) ∧ ∃ o, dp = some ⟨gn, o, none⟩ ∧ o ≤ (n + 1) * 2) := by
      refine ⟨_, rfl, ?_, ?_⟩
      · intro h; rw [if_neg (by omega)]
      · split
        · exact ⟨0, rfl, by omega⟩
        · exact ⟨(n + 1) * 2, rfl, by omega⟩
    have HON : Hid (∀ u ∈ ERw.recs pr ++ [Value.int .i64 0, Value.int .i64 0], u.oneCell' = true) := by
      unfold Hid
      intro u hu
      rw [List.mem_append] at hu
      rcases hu with hu | hu
      · exact ERw.recs_ones pr u hu
      · exact ERw.one zR u hu
    go_region_law (first | (refine step_shift_sat TRw h6.drew HON.out n (by omega) (c5 - (n + 1)) (c5 - n) dp hdp2.out.1 hdp2.out.2 (.tmp 49) (.tmp 55) rfl rfl (by simp [Act.eval, Act.put]) (by simp [Act.eval, Act.put]) ?_; intro w7 h7) | fail)
    all_goals
      have e8 : shifted (ERw.recs pr ++ [Value.int .i64 0, Value.int .i64 0]) n 2 (pr.length + 1) = ERw.recs (shifted (pr ++ [zR]) n 1 (pr.length + 1)) := by
        rw [← recs_shifted, ERw.recs_append]; rfl
      rw [e8] at h7
      have hln : (shifted (pr ++ [zR]) n 1 (pr.length + 1)).length = pr.length + 1 := by
        unfold shifted
        simp only [List.length_append, List.length_take, List.length_drop, List.length_singleton, Nat.mul_one]
        omega
      have h8 := rec2_set (E := ERw) rfl h7 n (by rw [hln]; omega) (kk, vv) (.int .i64 kk) (.int .i64 vv) rfl
      rw [shifted_put pr zR (kk, vv) n hnl] at h8
      obtain ⟨u0, u1, u2, e0, e1, e2, e3, e4, hg⟩ := rec2_at h7 n (by omega) (.int .i64 kk)
      obtain ⟨e5, e6, e7⟩ := HC2.out h7
      have pn1 : (n : Int) < (pr.length : Int) + 1 := by omega
      clear h6 e8 hln c6 p1 p2 p3 p4 p5 ww1 hdp2 hdp
      go_upto_region 9 with fail
      go_region_law (fail)
      all_goals
        replace h8 := h8.drew
        generalize (((w7.setCell ⟨gn, n * 2, none⟩ (.int .i64 kk)).setCell ⟨gn, n * 2 + 1, none⟩ (.int .i64 vv)).drew) = w8 at *
        clear h7 e0 e1 e2 e3 e4 e5 e6 e7
        go_wp2_with fail
        go_ret
        refine ⟨some ⟨gn, 0, none⟩, c5, rfl, ?_⟩
        have hlx : (pr.take n ++ (kk, vv) :: pr.drop n).length = pr.length + 1 := by simp; omega
        rw [HRL.out] at h8
        unfold StO RecS
        rw [HF2.out, List.length_set]
        have ht : tbR ⟨pn, some ⟨gn, 0, none⟩, c5, pr.take n ++ (kk, vv) :: pr.drop n⟩ = Own 45 2 (.slice (some ⟨gn, 0, none⟩) (pr.length + 1) c5) (pr.length + 1) (ERw.recs (pr.take n ++ (kk, vv) :: pr.drop n)) := by
          unfold tbR TbM.v Rws RecS
          simp only [hlx]; rfl
        rw [ht]
        exact (h8.get4.drop).of_eq (by show _ = Own 43 2 _ _ _ * _ * R; ac_rfl)
end Go.Proofs.Ytoeepbjnbgpmpaa

namespace Go.Proofs.Ytoeepbjnbgpmpaa
set_option linter.all false
open Go Go.RowKit

set_option maxRecDepth 100000 in
set_option maxHeartbeats 2000000 in
theorem smade_full (k : Env) (w : World) (R : Assn) (a : Option Addr) (c : Nat) (P : List TbM) (s : ByteArray) (hn : 16 ≤ P.length) (h : Sat k w R) :
    Calls Try.prog 38 #[.slice a P.length c, .string s] w fun e w' => e = .returned (.tuple #[.slice a P.length c, .int .i64 11]) ∧ Sat k w' R := by
  have hn' : (16 : Int) ≤ P.length := by omega
  go_enter Try.func38, Try.ntmps38
  go_wp2_with fail
  go_ret2
  exact ⟨rfl, h⟩

set_option maxRecDepth 100000 in
set_option maxHeartbeats 8000000 in
theorem smade_any (k : Env) (w : World) (R : Assn) (a : Option Addr) (c : Nat) (P : List TbM) (s : ByteArray) (hn : P.length < 16) (h : Sat k w (StO (.slice a P.length c) P * R)) :
    Calls Try.prog 38 #[.slice a P.length c, .string s] w fun e w' => ∃ v d, e = .returned (.tuple #[.slice v (madeR P s).length d, .int .i64 0]) ∧ Sat k w' (StO (.slice v (madeR P s).length d) (madeR P s) * R) := by
  obtain ⟨res, hres⟩ : ∃ res, madeR P s = res := ⟨_, rfl⟩
  have HX := Lib.hid hres
  rw [hres]
  obtain ⟨Z, hZ⟩ : ∃ Z, Z = stars tbR P * R := ⟨_, rfl⟩
  have h0 : Sat k w (RecS ETb 43 (.slice a P.length c) P * Z) := by rw [hZ]; exact h.of_eq (by unfold StO; rw [star_assoc])
  have HZ := Lib.hid hZ
  have hn' : ¬ (16 : Int) ≤ P.length := by omega
  clear hZ h hres
  go_enter Try.func38, Try.ntmps38
  go_upto_block 0 with fail
  go_cut [6] (fun s6 wx => ∃ (p q : List TbM), s6 = .int .i64 p.length ∧ Hid (P = p ++ q) ∧ Hid (madeR P s = p ++ newT s :: q) ∧ w = wx)
  case first =>
    clear HX
    go_wp2_with fail
    go_loopw [6] (fun s6 wr => ∃ (p q : List TbM), s6 = .int .i64 p.length ∧ p.length + q.length = P.length ∧ Hid (P = p ++ q) ∧ Hid (∀ x ∈ p, ltN s x = true) ∧ w = wr) (fun s6 _ => P.length - (intOf s6).toNat)
    case atStart => exact ⟨[], P, rfl, by simp, rfl, (by intro x hx; cases hx), rfl⟩
    case round =>
      obtain ⟨p, q, rfl, hpq, HL, HLT, rfl⟩ := hrel
      cases q with
      | nil =>
        have hple : ¬ (p.length : Int) < P.length := by simp at hpq; omega
        have HI : Hid (madeR P s = p ++ newT s :: []) := by
          unfold Hid; rw [HL.out]; exact madeR_at HLT.out (.inl rfl)
        clear HLT
        go_wp2_with fail
        go_meet
        case rel => exact ⟨p, [], rfl, HL, HI, by first | rfl | trivial⟩
      | cons y r =>
        have hple : (p.length : Int) < P.length := by simp at hpq; omega
        have hpn : p.length < P.length := by omega
        obtain ⟨g, hg, hgl, hcl⟩ := rec_get h0 (by decide) p.length hpn
        subst hg
        have hy : P[p.length] = y := by
          have := HL.out
          subst this
          simp
        rw [hy] at hcl
        have d2 : w.cell? ⟨g, p.length * 2, none⟩ = some (.string y.nm) := hcl 0 (by decide)
        clear hy hcl
        cases hb : ltB y.nm s with
        | false =>
          have hbl : Op.bytesLess y.nm.toList s.toList = false := hb
          have HI : Hid (madeR P s = p ++ newT s :: (y :: r)) := by
            unfold Hid; rw [HL.out]; exact madeR_at HLT.out (.inr ⟨y, r, rfl, hb⟩)
          clear HLT hb
          go_wp2_with fail
          go_meet
          case rel => exact ⟨p, y :: r, rfl, HL, HI, by first | rfl | trivial⟩
        | true =>
          have hbl : Op.bytesLess y.nm.toList s.toList = true := hb
          have HLT2 : Hid (∀ x ∈ p ++ [y], ltN s x = true) := by
            intro x hx
            rw [List.mem_append, List.mem_singleton] at hx
            rcases hx with hx | rfl
            · exact HLT.out x hx
            · exact hb
          have HL2 : Hid (P = (p ++ [y]) ++ r) := by unfold Hid; rw [HL.out]; simp
          have hpl : (p ++ [y]).length = p.length + 1 := by simp
          have HPL := Lib.hid hpl
          clear hb HLT hpl
          go_wp2_with fail
          go_roundw
          case rel => exact ⟨p ++ [y], r, by rw [HPL.out]; go_num, by rw [HPL.out]; simp at hpq; omega, HL2, HLT2, trivial⟩
          case measure => simp [intOf]; omega
  case rest =>
    obtain ⟨p, q, rfl, HL, HI, rfl⟩ := hcut
    have hpl : p.length + q.length = P.length := by rw [HL.out]; simp
    have hple : p.length ≤ P.length := by omega
    have HRS : Hid (res = P.take p.length ++ newT s :: P.drop p.length) := by
      unfold Hid; rw [← HX.out, HI.out, HL.out, List.take_left, List.drop_left]
    have HST : Hid (stars tbR res = tbR (newT s) * stars tbR P) := by
      unfold Hid
      rw [← HX.out, HI.out, HL.out, stars_append, stars_append, stars]
      ac_rfl
    clear hpl
    generalize p.length = n at *
    clear HL HI HX
    go_upto_region 7 with (at_builtin; refine wpList_append_sat TTb (h0.alloc' _) (.tmp 26) (.tmp 28) _ 1 1 [.string ByteArray.empty, .slice none 0 0] rfl rfl rfl rfl rfl (fun _ => ⟨_, rfl, new_cells_at _ _ _ _ (by first | rfl | simp)⟩) (ETb.one zT) (by simp [maxLen]; omega) (by omega) ?_; intro a5 c5 w5 h6)
    clear h0
    obtain ⟨hcap1, hcap2⟩ := own_cap h6
    obtain ⟨gn, rfl, hgn, _⟩ := own_get h6 (by omega)
    unfold maxLen at hcap2
    have ww1 : IntKind.i64.wrap ((n : Int) + 1) = (n : Int) + 1 := IntWalk.i64_in _ (by omega)
    have p1 : (0 : Int) ≤ (n : Int) + 1 := by omega
    have p2 : (n : Int) + 1 ≤ (P.length : Int) + 1 := by omega
    have p3 : ((n : Int) + 1).toNat = n + 1 := by omega
    have p4 : (n : Int) ≤ (P.length : Int) + 1 := by omega
    have p5 : ¬ c5 = n := by omega
    obtain ⟨dp, hdp, hdp2⟩ : ∃ dp, (if c5 = n + 1 then (some ⟨gn, 0, none⟩ : Option Addr) else some ⟨gn, (n + 1) * 2, none⟩) = dp ∧ Hid ((n + 1 < P.length + 1 → dp = some ⟨gn, (n + 1) * 2, none⟩) ∧ ∃ o, dp = some ⟨gn, o, none⟩ ∧ o ≤ (n + 1) * 2) := by
      refine ⟨_, rfl, ?_, ?_⟩
      · intro h; rw [if_neg (by omega)]
      · split
        · exact ⟨0, rfl, by omega⟩
        · exact ⟨(n + 1) * 2, rfl, by omega⟩
    have HON : Hid (∀ u ∈ ETb.recs P ++ [Value.string ByteArray.empty, Value.slice none 0 0], u.oneCell' = true) := by
      unfold Hid
      intro u hu
      rw [List.mem_append] at hu
      rcases hu with hu | hu
      · exact ETb.recs_ones P u hu
      · exact ETb.one zT u hu
    go_region_law (first | (refine step_shift_sat TTb h6.drew HON.out n (by omega) (c5 - (n + 1)) (c5 - n) dp hdp2.out.1 hdp2.out.2 (.tmp 33) (.tmp 36) ?_ ?_ ?_ ?_ ?_; exact rfl; exact rfl; (simp [Act.eval, Act.put]); (simp [Act.eval, Act.put]); intro w7 h7) | fail)
    all_goals
      have e8 : shifted (ETb.recs P ++ [Value.string ByteArray.empty, Value.slice none 0 0]) n 2 (P.length + 1) = ETb.recs (shifted (P ++ [zT]) n 1 (P.length + 1)) := by
        rw [← recs_shifted, ETb.recs_append]; rfl
      rw [e8] at h7
      have hln : (shifted (P ++ [zT]) n 1 (P.length + 1)).length = P.length + 1 := by
        unfold shifted
        simp only [List.length_append, List.length_take, List.length_drop, List.length_singleton, Nat.mul_one]
        omega
      have h8 := rec2_set (E := ETb) rfl h7 n (by rw [hln]; omega) (newT s) (.string s) (.slice none 0 0) rfl
      rw [shifted_put P zT (newT s) n hple] at h8
      obtain ⟨u0, u1, u2, e0, e1, e2, e3, e4, hg⟩ := rec2_at h7 n (by omega) (.string s)
      have pn1 : (n : Int) < (P.length : Int) + 1 := by omega
      have hrl : res.length = P.length + 1 := by rw [HRS.out]; simp; omega
      have HRL := Lib.hid hrl
      clear h6 e8 hln p1 p2 p3 p4 p5 ww1 hdp2 hdp hrl
      go_upto_region 8 with fail
      go_upto_region 9 with fail
      generalize (((w7.setCell ⟨gn, n * 2, none⟩ (.string s)).setCell ⟨gn, n * 2 + 1, none⟩ (.slice none 0 0))) = w8 at *
      clear h7 e0 e1 e2 e3 e4
      go_wp2_with fail
      go_ret2
      refine ⟨some ⟨gn, 0, none⟩, c5, by rw [HRL.out]; rfl, ?_⟩
      rw [← HRS.out, HZ.out] at h8
      have h9 : Sat k w8 (tbR (newT s) * (Own 43 2 (.slice (some ⟨gn, 0, none⟩) (P.length + 1) c5) (P.length + 1) (ETb.recs res) * (stars tbR P * R))) := tb_new s h8
      unfold StO RecS
      rw [HST.out, HRL.out]
      exact h9.of_eq (by show _ = Own 43 2 _ _ _ * _ * R; ac_rfl)
end Go.Proofs.Ytoeepbjnbgpmpaa

namespace Go.Proofs.Ytoeepbjnbgpmpaa
set_option linter.all false
open Go Go.RowKit

theorem findI_pairs : ∀ (P Q : List TbM) (s : ByteArray) (i : Int), pairs P = pairs Q → findI P s i = findI Q s i
  | [], [], _, _, _ => rfl
  | [], _ :: _, _, _, h => by cases h
  | _ :: _, [], _, _, h => by cases h
  | x :: r, y :: t, s, i, h => by
    unfold pairs at h
    rw [List.map_cons, List.map_cons, List.cons.injEq] at h
    have hn : x.nm = y.nm := congrArg Prod.fst h.1
    rw [findI, findI, hn, findI_pairs r t s (i + 1) h.2]
theorem pairs_len {P Q : List TbM} (h : pairs P = pairs Q) : P.length = Q.length := by
  have := congrArg List.length h
  unfold pairs at this
  rwa [List.length_map, List.length_map] at this
theorem pairs_mem {P Q : List TbM} (h : pairs P = pairs Q) {p : TbM} (hp : p ∈ P) : ∃ q ∈ Q, p.nm = q.nm ∧ p.rows = q.rows := by
  have : p.p ∈ pairs Q := by rw [← h]; exact List.mem_map_of_mem hp
  obtain ⟨q, hq, he⟩ := List.mem_map.1 this
  exact ⟨q, hq, (congrArg Prod.fst he).symm, (congrArg Prod.snd he).symm⟩


set_option maxRecDepth 100000 in
set_option maxHeartbeats 8000000 in
theorem sdo_none (k : Env) (w : World) (R : Assn) (a : Option Addr) (c : Nat) (P : List TbM) (x : CmdM) (hk : x.kind ≠ 5) (hf : findI P x.tb 0 = -1) (hr : RdS k R a P) (hn : P.length ≤ 1000) (hrows : ∀ p ∈ P, p.rows.length ≤ 1000000) (h : Sat k w R) :
    Calls Try.prog 20 #[.slice a P.length c, cmV x] w fun e w' => ∃ v d P', e = .returned (.tuple #[.slice v P'.length d, .slice none 0 0, .int .i64 8]) ∧ pairs P' = pairs P ∧ Sat k w' (StO (.slice v P'.length d) P' * R) := by
  have b5 : (x.kind == 5) = false := by simp; exact hk
  clear hk
  (
    have h0 := h.alloc (.cells #[.int .i64 x.kind, .string x.tb, .int .i64 x.kk, .int .i64 x.vv, .bool x.kd] 24)
    obtain ⟨kind, tb, kk, vv, kd⟩ := x
    simp only at h0 hf ⊢
    have D1 := Lib.hid (fun w R' (hm : ∀ w', Sat k w' R' → Sat k w' R) h => scopy_any k w R' a c P (hr.mono hm) (by omega) hrows h)
    have HF := Lib.hid hf
    clear hr h hf hrows
    go_enter Try.func20, Try.ntmps20
    go_upto_region 1 with fail
    generalize w.alloc (.cells #[.int .i64 kind, .string tb, .int .i64 kk, .int .i64 vv, .bool kd] 24) = w0 at *
    generalize w.heap.size = o at *
    go_upto_region 2 with (go_at_call 24; (refine (D1.out _ _ (fun _ q => q.drop) h0).mono ?_); rintro e w1 ⟨v, d, P', rfl, hpp, h1⟩)
    have HPP := Lib.hid hpp
    have HLL := Lib.hid (pairs_len hpp)
    have e1 : w1.cell? ⟨o, 1, none⟩ = some (.string tb) := h1.swap.cell 1
    have C2 := sfind_any k w1 _ v d P' tb (rds_own h1) (by have := HLL.out; omega) h1
    rw [findI_pairs P' P tb 0 hpp, HF.out] at C2
    have D3 := Lib.hid C2
    clear C2 hpp h0 D1
    go_upto_region 3 with (go_at_call 17; (refine (D3.out).mono ?_); rintro e w2 ⟨rfl, h2⟩)
    have e0 : w2.cell? ⟨o, 0, none⟩ = some (.int .i64 kind) := h2.swap.cell 0
    have f1 : w2.cell? ⟨o, 1, none⟩ = some (.string tb) := h2.swap.cell 1
    clear D3 e1)
  go_wp2_with fail
  go_ret3
  exact ⟨v, d, P', rfl, HPP.out, h2.swap.drop⟩

set_option maxRecDepth 100000 in
set_option maxHeartbeats 8000000 in
theorem sdo_new (k : Env) (w : World) (R : Assn) (a : Option Addr) (c : Nat) (P : List TbM) (x : CmdM) (hk : x.kind = 5) (hr : RdS k R a P) (hn : P.length ≤ 1000) (hrows : ∀ p ∈ P, p.rows.length ≤ 1000000) (h : Sat k w R) :
    Calls Try.prog 20 #[.slice a P.length c, cmV x] w fun e w' => ∃ v d P', e = .returned (.tuple #[.slice v P'.length d, .slice none 0 0, .int .i64 (newE P x.tb)]) ∧ pairs P' = newS P x.tb ∧ Sat k w' (StO (.slice v P'.length d) P' * R) := by
  obtain ⟨fi, hf⟩ : ∃ fi, findI P x.tb 0 = fi := ⟨_, rfl⟩
  have hE : newE P x.tb = if 0 ≤ fi then 9 else if 16 ≤ P.length then 11 else 0 := by rw [← hf]; rfl
  have hS : newS P x.tb = if newE P x.tb = 0 then madeP (pairs P) x.tb else pairs P := rfl
  have hfr : fi = -1 ∨ 0 ≤ fi := by
    rw [← hf]
    rcases findI_range P x.tb 0 with e | ⟨j, _, e⟩
    · exact .inl e
    · right; rw [e]; omega
  generalize newS P x.tb = nS at *
  generalize newE P x.tb = nE at *
  have HE := Lib.hid hE
  have HS := Lib.hid hS
  have HK := Lib.hid hk
  clear hE hS hk
  (
    have h0 := h.alloc (.cells #[.int .i64 x.kind, .string x.tb, .int .i64 x.kk, .int .i64 x.vv, .bool x.kd] 24)
    obtain ⟨kind, tb, kk, vv, kd⟩ := x
    simp only at h0 hf ⊢
    have D1 := Lib.hid (fun w R' (hm : ∀ w', Sat k w' R' → Sat k w' R) h => scopy_any k w R' a c P (hr.mono hm) (by omega) hrows h)
    have HF := Lib.hid hf
    clear hr h hf hrows
    go_enter Try.func20, Try.ntmps20
    go_upto_region 1 with fail
    generalize w.alloc (.cells #[.int .i64 kind, .string tb, .int .i64 kk, .int .i64 vv, .bool kd] 24) = w0 at *
    generalize w.heap.size = o at *
    go_upto_region 2 with (go_at_call 24; (refine (D1.out _ _ (fun _ q => q.drop) h0).mono ?_); rintro e w1 ⟨v, d, P', rfl, hpp, h1⟩)
    have HPP := Lib.hid hpp
    have HLL := Lib.hid (pairs_len hpp)
    have e1 : w1.cell? ⟨o, 1, none⟩ = some (.string tb) := h1.swap.cell 1
    have C2 := sfind_any k w1 _ v d P' tb (rds_own h1) (by have := HLL.out; omega) h1
    rw [findI_pairs P' P tb 0 hpp, HF.out] at C2
    have D3 := Lib.hid C2
    clear C2 hpp h0 D1
    go_upto_region 3 with (go_at_call 17; (refine (D3.out).mono ?_); rintro e w2 ⟨rfl, h2⟩)
    have e0 : w2.cell? ⟨o, 0, none⟩ = some (.int .i64 kind) := h2.swap.cell 0
    have f1 : w2.cell? ⟨o, 1, none⟩ = some (.string tb) := h2.swap.cell 1
    clear D3 e1)
  obtain rfl : kind = 5 := HK.out
  rcases hfr with rfl | hf
  · by_cases h16 : 16 ≤ P.length
    · have hne : nE = 11 := by have := HE.out; rw [if_neg (by decide), if_pos h16] at this; exact this
      subst hne
      have hns : Hid (nS = pairs P) := by have := HS.out; rw [if_neg (by decide)] at this; exact this
      have D4 := Lib.hid (smade_full k w2 _ v d P' tb (by have := HLL.out; omega) h2)
      clear HE HS
      go_wp2_with (go_at_call 38; (refine (D4.out).mono ?_); rintro e w3 ⟨rfl, h3⟩)
      go_ret3
      exact ⟨v, d, P', rfl, by rw [HPP.out, hns.out], h3.swap.drop⟩
    · have hne : nE = 0 := by have := HE.out; rw [if_neg (by decide), if_neg h16] at this; exact this
      subst hne
      have hns : Hid (nS = madeP (pairs P) tb) := by have := HS.out; rw [if_pos rfl] at this; exact this
      have D4 := Lib.hid (smade_any k w2 _ v d P' tb (by have := HLL.out; omega) h2)
      clear HE HS
      go_wp2_with (go_at_call 38; (refine (D4.out).mono ?_); rintro e w3 ⟨v3, d3, rfl, h3⟩)
      go_ret3
      exact ⟨v3, d3, madeR P' tb, rfl, by rw [hns.out, pairs_made, HPP.out], h3.swap.drop⟩
  · have hne : nE = 9 := by have := HE.out; rw [if_pos hf] at this; exact this
    subst hne
    have hns : Hid (nS = pairs P) := by have := HS.out; rw [if_neg (by decide)] at this; exact this
    have hb : (fi == -1) = false := by simp; omega
    have hb2 : (fi != -1) = true := by rw [bne, hb]; rfl
    clear HE HS
    go_wp2_with fail
    go_ret3
    exact ⟨v, d, P', rfl, by rw [HPP.out, hns.out], h2.swap.drop⟩

end Go.Proofs.Ytoeepbjnbgpmpaa
