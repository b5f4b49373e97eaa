/- Contracts of pontoonref07: Less, put. -/
import Derived.Test.YtoeepbjnbgpmpaaSetsG
namespace Go.Proofs.Ytoeepbjnbgpmpaa
set_option linter.all false
open Go Go.RowKit

theorem ltB_bl (x y : ByteArray) : ltB x y = Op.bytesLess (bl x) (bl y) := by
  unfold ltB bl; rw [ByteArray.toList_eq, ByteArray.toList_eq]
theorem bless_cons (a b : UInt8) (x y : List UInt8) : Op.bytesLess (a :: x) (b :: y) = if a = b then Op.bytesLess x y else decide (a < b) := by
  rw [Op.bytesLess]
  by_cases h : a = b
  · subst h; rw [if_pos rfl]; simp
  · rw [if_neg h, beq_eq_false_iff_ne.2 h]; simp

set_option maxHeartbeats 2000000 in
theorem rless_any (k : Env) (w : World) (R : Assn) (x y : ByteArray) (hx : x.size ≤ 1000000000) (hy : y.size ≤ 1000000000) (h : Sat k w R) :
    Calls Try.prog 37 #[.string x, .string y] w fun e w' => e = .returned (.bool (ltB x y)) ∧ Sat k w' R := by
  obtain ⟨res, hres⟩ : ∃ res, res = ltB x y := ⟨_, rfl⟩
  rw [← hres]
  have HX : Hid (Op.bytesLess ((bl x).drop 0) ((bl y).drop 0) = res) := by unfold Hid; rw [hres, ltB_bl]; rfl
  clear hres
  go_enter Try.func37, Try.ntmps37
  go_wp2_with fail
  go_loopw [5] (fun s5 wr => ∃ j : Nat, j ≤ x.size ∧ j ≤ y.size ∧ s5 = .int .i64 j ∧ Hid (Op.bytesLess ((bl x).drop j) ((bl y).drop j) = res) ∧ Sat k wr R) (fun s5 _ => x.size - (intOf s5).toNat)
  case atStart => exact ⟨0, Nat.zero_le _, Nat.zero_le _, rfl, HX, h⟩
  case round =>
    clear h HX
    obtain ⟨j, hj, hj2, rfl, HR, hs⟩ := hrel
    by_cases hlt : j < x.size
    · have hlt' : (j : Int) < x.size := by omega
      by_cases hl2 : j < y.size
      · have hl2' : (j : Int) < y.size := by omega
        have HS : Hid (Op.bytesLess ((bl x).drop j) ((bl y).drop j) = if x[j] = y[j] then Op.bytesLess ((bl x).drop (j + 1)) ((bl y).drop (j + 1)) else decide (x[j] < y[j])) := by
          unfold Hid; rw [bl_drop x j hlt, bl_drop y j hl2, bless_cons]
        by_cases he : x[j] = y[j]
        · have b1 : ((x[j].toNat : Int) == y[j].toNat) = true := by rw [he]; simp
          have b2 : ((x[j].toNat : Int) != y[j].toNat) = false := by rw [he]; simp
          have HN : Hid (Op.bytesLess ((bl x).drop (j + 1)) ((bl y).drop (j + 1)) = res) := by unfold Hid; rw [← HR.out, HS.out, if_pos he]
          clear HR HS he
          go_wp2_with fail
          go_quiet (fail)
          replace hs := hs.drewN nq
          generalize wr.drewN nq = wr at *
          go_wp2_with fail
          go_roundw
          case rel => exact ⟨j + 1, by omega, by omega, by go_num, HN, hs⟩
          case measure => simp [intOf]; omega
        · have b1 : ((x[j].toNat : Int) == y[j].toNat) = false := by
            simp only [beq_eq_false_iff_ne, ne_eq, Int.natCast_inj]; exact fun e => he (UInt8.toNat_inj.1 e)
          have b2 : ((x[j].toNat : Int) != y[j].toNat) = true := by rw [bne, b1]; rfl
          have HN : Hid (decide (x[j].toNat < y[j].toNat) = res) := by
            unfold Hid; rw [← HR.out, HS.out, if_neg he]; rfl
          clear HR HS he
          by_cases hl : x[j].toNat < y[j].toNat
          · have hl' : (x[j].toNat : Int) < y[j].toNat := by omega
            obtain rfl : res = true := by rw [← HN.out, decide_eq_true hl]
            clear HN
            go_wp2_with fail
            go_quiet (fail)
            replace hs := hs.drewN nq
            generalize wr.drewN nq = wr at *
            go_wp2_with fail
            go_quiet (fail)
            replace hs := hs.drewN nq
            generalize wr.drewN nq = wr at *
            go_wp2_with fail
            go_ret
            exact ⟨rfl, hs⟩
          · have hl' : ¬ (x[j].toNat : Int) < y[j].toNat := by omega
            obtain rfl : res = false := by rw [← HN.out, decide_eq_false hl]
            clear HN
            go_wp2_with fail
            go_quiet (fail)
            replace hs := hs.drewN nq
            generalize wr.drewN nq = wr at *
            go_wp2_with fail
            go_quiet (fail)
            replace hs := hs.drewN nq
            generalize wr.drewN nq = wr at *
            go_wp2_with fail
            go_ret
            exact ⟨rfl, hs⟩
      · have hl2' : ¬ (j : Int) < y.size := by omega
        have hsz : ¬ (x.size : Int) < y.size := by omega
        have e : (bl y).drop j = [] := List.drop_eq_nil_of_le (by rw [bl_len]; omega)
        obtain rfl : res = false := by rw [← HR.out, e]; cases (bl x).drop j <;> rfl
        clear e
        clear HR
        go_wp2_with fail
        go_ret
        exact ⟨rfl, hs⟩
    · have hlt' : ¬ (j : Int) < x.size := by omega
      obtain rfl : j = x.size := by omega
      have hres : res = decide (x.size < y.size) := by
        have e : (bl x).drop x.size = [] := List.drop_eq_nil_of_le (by rw [bl_len]; omega)
        rw [← HR.out, e]
        by_cases hq : x.size < y.size
        · rw [bl_drop y _ hq, decide_eq_true hq]; rfl
        · have e : (bl y).drop x.size = [] := List.drop_eq_nil_of_le (by rw [bl_len]; omega)
          rw [e, decide_eq_false hq]; rfl
      clear HR
      by_cases hq : x.size < y.size
      · have hq' : (x.size : Int) < y.size := by omega
        rw [decide_eq_true hq] at hres
        subst hres
        go_wp2_with fail
        go_ret
        exact ⟨rfl, hs⟩
      · have hq' : ¬ (x.size : Int) < y.size := by omega
        rw [decide_eq_false hq] at hres
        subst hres
        go_wp2_with fail
        go_ret
        exact ⟨rfl, hs⟩


theorem strs_tail {k : Env} {w : World} {l : List ByteArray} {R : Assn} {g c : Nat} (j : Nat) (h : Sat k w (Strs (.slice (some ⟨g, 0, none⟩) l.length c) l * R)) (hj : 0 < l.length) :
    ∀ i u, (strs (l.drop j))[i]? = some u → w.cell? ((⟨g, j, none⟩ : Addr).add i) = some u := by
  obtain ⟨ad, e, hs⟩ := own_src h hj
  simp only [Option.some.injEq] at e
  subst e
  intro i u hu
  rw [strs, List.map_drop, List.getElem?_drop] at hu
  have := hs _ u hu
  rw [Addr.add_lit] at this ⊢
  rw [Nat.zero_add] at this
  exact this
theorem strs_of {k : Env} {w : World} {R : Assn} {v v' : Value} {n : Nat} {xs : List Value} {L : List ByteArray} (h : Sat k w (Own 9 1 v' n xs * R)) (hn : v' = v ∧ n = L.length) (hx : xs = strs L) : Sat k w (Strs v L * R) := by
  obtain ⟨rfl, rfl⟩ := hn
  subst hx; exact h
theorem ins_at {s : ByteArray} {p q : List ByteArray} (h : ∀ x ∈ p, ltB x s = true) (hq : q = [] ∨ ∃ y r, q = y :: r ∧ ltB y s = false) (hm : memB s (p ++ q) = false) : insB (p ++ q) s = p ++ s :: q := by
  unfold insB
  rw [if_neg (by rw [hm]; decide), List.takeWhile_append_of_pos h, List.dropWhile_append_of_pos h]
  rcases hq with rfl | ⟨y, r, rfl, hy⟩
  · simp
  · rw [List.takeWhile_cons, List.dropWhile_cons, if_neg (by rw [hy]; decide), if_neg (by rw [hy]; decide)]; simp
theorem insB_len (l : List ByteArray) (s : ByteArray) : (insB l s).length ≤ l.length + 1 := by
  unfold insB
  split
  · omega
  · have e : l.takeWhile (fun x => ltB x s) ++ l.dropWhile (fun x => ltB x s) = l := List.takeWhile_append_dropWhile
    have := congrArg List.length e
    rw [List.length_append] at this
    rw [List.length_append, List.length_cons]; omega

set_option maxRecDepth 100000 in
set_option maxHeartbeats 4000000 in
theorem rput_any (k : Env) (w : World) (R : Assn) (a0 : Option Addr) (c0 : Nat) (l : List ByteArray) (a2 : Option Addr) (c2 : Nat) (more : List ByteArray) (hr : Rd k R a2 more) (hn : l.length + more.length ≤ 1000000000) (hs1 : ∀ x ∈ l, x.size ≤ 1000000000) (hs2 : ∀ x ∈ more, x.size ≤ 1000000000) (h : Sat k w (Strs (.slice a0 l.length c0) l * R)) :
    Calls Try.prog 80 #[.slice a0 l.length c0, .slice a2 more.length c2] w fun e w' => ∃ v c, e = .returned (.slice v (putL l more).length c) ∧ Sat k w' (Strs (.slice v (putL l more).length c) (putL l more) * R) := by
  obtain ⟨total, hx0⟩ : ∃ total, putL l more = total := ⟨_, rfl⟩
  have HX : Hid (putL l (more.drop 0) = total) := hx0
  have HS1 := Lib.hid hs1
  have HS2 := Lib.hid hs2
  have HRD := Lib.hid (fun (v : Value) (L : List ByteArray) => hr.mono (R' := Strs v L * R) (fun _ q => q.drop))
  rw [hx0]
  clear hs1 hs2 hr hx0
  go_enter Try.func80, Try.ntmps80
  go_wp2_with fail
  go_loopw [0, 5] (fun s0 s5 wr => ∃ (j : Nat) (a : Option Addr) (c : Nat) (L : List ByteArray), j ≤ more.length ∧ s5 = .int .i64 j ∧ s0 = .slice a L.length c ∧ L.length ≤ l.length + j ∧ Hid (∀ x ∈ L, x.size ≤ 1000000000) ∧ Hid (putL L (more.drop j) = total) ∧ Sat k wr (Strs (.slice a L.length c) L * R)) (fun _ s5 _ => more.length - (intOf s5).toNat)
  case atStart => exact ⟨0, a0, c0, l, Nat.zero_le _, rfl, rfl, by omega, HS1, HX, h⟩
  case round =>
    clear h HX HS1
    obtain ⟨j, a, c, L, hj, rfl, rfl, hLl, HSL, HP, hs⟩ := hrel
    by_cases hlt : j < more.length
    · have hlt' : (j : Int) < more.length := by omega
      obtain ⟨g2, o2, rfl, d⟩ := rd_get (HRD.out (.slice a L.length c) L) hs j hlt
      have HDR : Hid (putL L (more.drop j) = putL (insB L more[j]) (more.drop (j + 1))) := by
        unfold Hid
        rw [List.drop_eq_getElem_cons hlt, putL_cons]
      have hSs : more[j].size ≤ 1000000000 := HS2.out _ (List.getElem_mem hlt)
      have C1 := in7_any k wr _ a c L more[j] (rd_own hs) (by omega) hs
      generalize more[j] = s at *
      cases hm : memB s L with
      | true =>
        rw [hm] at C1
        have D1 := Lib.hid C1
        have HN : Hid (putL L (more.drop (j + 1)) = total) := by
          unfold Hid; rw [← HP.out, HDR.out]; unfold insB; rw [if_pos hm]
        clear C1 HDR HP hm
        go_wp2_with (go_at_call 93; (with_reducible refine (D1.out).mono ?_); rintro e w5 ⟨rfl, h5⟩)
        go_roundw
        case rel => exact ⟨j + 1, a, c, L, by omega, by go_num, rfl, by omega, HSL, HN, h5⟩
        case measure => simp [intOf]; omega
      | false =>
        rw [hm] at C1
        have D1 := Lib.hid C1
        have HM := Lib.hid hm
        have HSS := Lib.hid hSs
        clear C1 hm hSs
        go_upto_block 2 with (go_at_call 93; (with_reducible refine (D1.out).mono ?_); rintro e w5 ⟨rfl, h5⟩)
        go_cut [7, 8] (fun s7 s8 wx => ∃ (a7 : Option Addr) (c7 : Nat) (p q : List ByteArray), s8 = .int .i64 p.length ∧ s7 = .slice a7 p.length c7 ∧ Hid (L = p ++ q) ∧ Hid (insB L s = p ++ s :: q) ∧ Sat k wx (Strs (.slice a7 p.length c7) p * (Strs (.slice a L.length c) L * R)))
        case first =>
          have h6 : Sat k w5 (Strs (.slice none 0 0) [] * (Strs (.slice a L.length c) L * R)) := own_nil h5
          clear D1 hs h5 HDR HP
          go_wp2_with fail
          go_loopw [7, 8] (fun s7 s8 wr => ∃ (a7 : Option Addr) (c7 : Nat) (p q : List ByteArray), s8 = .int .i64 p.length ∧ s7 = .slice a7 p.length c7 ∧ p.length + q.length = L.length ∧ Hid (L = p ++ q) ∧ Hid (∀ x ∈ p, ltB x s = true) ∧ Sat k wr (Strs (.slice a7 p.length c7) p * (Strs (.slice a L.length c) L * R))) (fun _ s8 _ => L.length - (intOf s8).toNat)
          case atStart => exact ⟨none, 0, [], L, rfl, rfl, by simp, rfl, (by intro x hx; cases hx), h6⟩
          case round =>
            clear h6
            obtain ⟨a7, c7, p, q, rfl, rfl, hpq, HL, HLT, hs⟩ := hrel
            cases q with
            | nil =>
              have hple : ¬ (p.length : Int) < L.length := by simp at hpq; omega
              have HI : Hid (insB L s = p ++ s :: []) := by
                have hm := HM.out
                rw [HL.out] at hm
                unfold Hid
                rw [HL.out]
                exact ins_at HLT.out (.inl rfl) hm
              clear HM HLT
              go_wp2_with fail
              go_meet
              case rel => exact ⟨a7, c7, p, [], rfl, rfl, HL, HI, hs⟩
            | cons y r =>
              have hple : (p.length : Int) < L.length := by simp at hpq; omega
              have hpn : p.length < L.length := by omega
              obtain ⟨g, rfl, hg, d2⟩ := strs_get hs.swap p.length hpn
              have hy : L[p.length] = y := by
                have := HL.out
                subst this
                simp
              have hys : y.size ≤ 1000000000 := HSL.out _ (hy ▸ List.getElem_mem hpn)
              rw [hy] at d2
              have C2 := rless_any k wr _ y s hys HSS.out hs
              clear hy
              cases hb : ltB y s with
              | false =>
                rw [hb] at C2
                have D2 := Lib.hid C2
                have HI : Hid (insB L s = p ++ s :: (y :: r)) := by
                  have hm := HM.out
                  rw [HL.out] at hm
                  unfold Hid
                  rw [HL.out]
                  exact ins_at HLT.out (.inr ⟨y, r, rfl, hb⟩) hm
                clear HM HLT C2 hb
                go_wp2_with (go_at_call 37; (with_reducible refine (D2.out).mono ?_); rintro e w6 ⟨rfl, h6⟩)
                go_meet
                case rel => exact ⟨a7, c7, p, y :: r, rfl, rfl, HL, HI, h6⟩
              | true =>
                rw [hb] at C2
                have D2 := Lib.hid C2
                have HLT2 : Hid (∀ x ∈ p ++ [y], ltB x s = true) := by
                  intro x hx
                  rw [List.mem_append, List.mem_singleton] at hx
                  rcases hx with hx | rfl
                  · exact HLT.out x hx
                  · exact hb
                have HL2 : Hid (L = (p ++ [y]) ++ r) := by unfold Hid; rw [HL.out]; simp
                have hpl : (p ++ [y]).length = p.length + 1 := by simp
                have HPL := Lib.hid hpl
                clear hb C2 HLT HM hpl
                go_upto_region 9 with (go_at_call 37; (with_reducible refine (D2.out).mono ?_); rintro e w6 ⟨rfl, h6⟩)
                obtain ⟨g', hg', _, d3⟩ := strs_get h6.swap p.length hpn
                obtain rfl : g = g' := by simpa using hg'
                have hy : L[p.length] = y := by
                  have := HL2.out
                  subst this
                  simp
                rw [hy] at d3
                clear hy hg'
                go_upto_region 10 with (at_builtin; refine wpList_append_sat TStrs (h6.alloc' _) (.tmp 34) (.tmp 39) _ 1 1 [.string y] rfl rfl rfl rfl rfl (fun _ => ⟨_, rfl, new_cells_at _ _ _ _ (by first | rfl | simp)⟩) (strs_one [y]) (by simp [maxLen]; omega) (by omega) ?_; intro a8 c8 w8 h8)
                have h9 : Sat k w8 (Strs (.slice a8 (p.length + 1) c8) (p ++ [y]) * (Strs (.slice (some ⟨g, 0, none⟩) L.length c) L * R)) := strs_push h8
                go_wp2_with fail
                go_roundw
                case rel => exact ⟨a8, c8, p ++ [y], r, by rw [HPL.out]; go_num, by rw [HPL.out], by rw [HPL.out]; simp at hpq; omega, HL2, HLT2, by rw [HPL.out]; exact h9⟩
                case measure => simp [intOf]; omega
        case rest => as_aux_lemma =>
          clear D1 hs h5 HM
          obtain ⟨a7, c7, p, q, rfl, rfl, HL, HI, hs⟩ := hcut
          have HN : Hid (putL (p ++ s :: q) (more.drop (j + 1)) = total) := by
            unfold Hid; rw [← HP.out, HDR.out, HI.out]
          have HLN : Hid ((p ++ s :: q).length = p.length + 1 + q.length ∧ L.length = p.length + q.length ∧ L.drop p.length = q) := by
            refine ⟨by simp; omega, by rw [HL.out]; simp, by rw [HL.out]; simp⟩
          have HSN : Hid (∀ x ∈ p ++ s :: q, x.size ≤ 1000000000) := by
            intro x hx
            rw [List.mem_append, List.mem_cons] at hx
            rcases hx with hx | rfl | hx
            · exact HSL.out x (by rw [HL.out]; simp [hx])
            · exact HSS.out
            · exact HSL.out x (by rw [HL.out]; simp [hx])
          have hpL : p.length ≤ L.length := by have := HLN.out.2.1; omega
          have hpL' : (p.length : Int) ≤ L.length := by omega
          have hcap := own_cap hs.swap
          have hpc : (p.length : Int) ≤ c := by omega
          clear HP HDR HI HSL HSS HL
          go_upto_region 12 with (at_builtin; refine wpList_append_sat TStrs (hs.alloc' _) (.tmp 43) (.tmp 45) _ 1 1 [.string s] rfl rfl rfl rfl rfl (fun _ => ⟨_, rfl, new_cells_at _ _ _ _ (by first | rfl | simp)⟩) (strs_one [s]) (by simp [maxLen]; omega) (by omega) ?_; intro a8 c8 w8 h8)
          cases q with
          | nil =>
            have hpe : p.length = L.length := by have := HLN.out.2.1; simp at this; omega
            rcases own_block h8.swap with ⟨rfl, hq2, rfl, _⟩ | ⟨g, cur, rfl, _⟩
            · have hp0 : p.length = 0 := by omega
              go_wp2_with (at_builtin; refine wpList_append_sat TStrs h8 (.tmp 47) (.tmp 50) _ 0 _ [] rfl rfl rfl rfl rfl (fun h => absurd h (Nat.lt_irrefl 0)) (fun u hu => by simp at hu) (by simp [maxLen]; omega) (by omega) ?_; intro a4 c4 w4 h4)
              all_goals
                have h5 : Sat k w4 (Strs (.slice a4 (p ++ s :: []).length c4) (p ++ s :: []) * R) := by
                  refine Sat.drop (Sat.swap (strs_of h4 ?_ ?_))
                  · have e := HLN.out.1
                    have e2 : p.length + 1 + 0 = (p ++ s :: []).length := by rw [e]; rfl
                    exact ⟨by rw [← e2], e2⟩
                  · simp [strs]
                go_roundw
                case rel => exact ⟨j + 1, a4, c4, p ++ s :: [], by omega, by go_num, by rw [HLN.out.1]; simp; exact List.length_eq_zero_iff.1 hp0, by rw [HLN.out.1]; simp; omega, HSN, HN, h5⟩
                case measure => simp [intOf]; omega
            · go_wp2_with (at_builtin; refine wpList_append_sat TStrs h8 (.tmp 47) (.tmp 50) _ 0 _ [] rfl rfl rfl rfl rfl (fun h => absurd h (Nat.lt_irrefl 0)) (fun u hu => by simp at hu) (by simp [maxLen]; omega) (by omega) ?_; intro a4 c4 w4 h4)
              all_goals
                have h5 : Sat k w4 (Strs (.slice a4 (p ++ s :: []).length c4) (p ++ s :: []) * R) := by
                  refine Sat.drop (Sat.swap (strs_of h4 ?_ ?_))
                  · have e := HLN.out.1
                    have e2 : p.length + 1 + 0 = (p ++ s :: []).length := by rw [e]; rfl
                    exact ⟨by rw [← e2], e2⟩
                  · simp [strs]
                go_roundw
                case rel => exact ⟨j + 1, a4, c4, p ++ s :: [], by omega, by go_num, by rw [HLN.out.1]; simp; exact hpe.symm, by rw [HLN.out.1]; simp; omega, HSN, HN, h5⟩
                case measure => simp [intOf]; omega
          | cons y r =>
            have hlL : p.length < L.length := by have := HLN.out.2.1; simp at this; omega
            obtain ⟨g, rfl, _, _⟩ := strs_get h8.swap p.length hlL
            have HTL := Lib.hid (strs_tail p.length h8.swap (by omega))
            rw [HLN.out.2.2] at HTL
            have hlc : p.length < c := by omega
            have HLEN : Hid ((strs (y :: r)).length = (L.length - p.length) * 1) := by
              have := HLN.out.2.1
              unfold Hid strs; rw [List.length_map]; omega
            go_wp2_with (at_builtin; refine wpList_append_sat TStrs h8 (.tmp 47) (.tmp 50) (some ⟨g, p.length, none⟩) (L.length - p.length) (c - p.length) (strs (y :: r)) rfl rfl rfl rfl HLEN.out (fun _ => ⟨_, rfl, HTL.out⟩) (strs_one _) (by simp [maxLen]; omega) (by omega) ?_; intro a4 c4 w4 h4)
            all_goals
              have h5 : Sat k w4 (Strs (.slice a4 (p ++ s :: (y :: r)).length c4) (p ++ s :: (y :: r)) * R) := by
                refine Sat.drop (Sat.swap (strs_of h4 ?_ ?_))
                · have e1 := HLN.out.1
                  have e3 := HLN.out.2.1
                  have e2 : p.length + 1 + (L.length - p.length) = (p ++ s :: (y :: r)).length := by rw [e1]; omega
                  exact ⟨by rw [← e2], e2⟩
                · simp [strs]
              go_roundw
              case rel => exact ⟨j + 1, a4, c4, p ++ s :: (y :: r), by omega, by go_num, by have := HLN.out.1; have := HLN.out.2.1; congr 1; omega, by have := HLN.out.1; have := HLN.out.2.1; omega, HSN, HN, h5⟩
              case measure => simp [intOf]; omega
    · obtain rfl : j = more.length := by omega
      obtain rfl : L = total := by
        rw [← HP.out, List.drop_eq_nil_of_le (Nat.le_refl _)]; rfl
      go_wp2_with fail
      go_ret
      exact ⟨_, _, rfl, hs⟩

end Go.Proofs.Ytoeepbjnbgpmpaa
