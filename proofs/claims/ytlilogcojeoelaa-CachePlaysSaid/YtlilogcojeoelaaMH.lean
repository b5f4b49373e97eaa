/- Several texts in one: CacheT, CacheU, CacheV. -/
import Derived.Test.YtlilogcojeoelaaCacheE
import Derived.Deep.CutBlock
import Derived.Test.YtlilogcojeoelaaME
namespace Go.Proofs.Ytlilogcojeoelaa
set_option linter.all false
open Go Go.RowKit

set_option maxRecDepth 100000 in
set_option maxHeartbeats 2000000 in
theorem ctick_any (k : Env) (w : World) (R : Assn) (b n : Nat) (c : CS) (ys : List Ky) (now : Int) (hy : ∀ y ∈ ys, rightK y = true ∧ tiny y) (hys : qdue now c.L = ys.map textK) (hn : n ≤ 1000000000) (hl : (ys.length : Int) ≤ 1073741824) (h : Sat k w (CacheR b c n * R)) :
    Calls Try.prog 27 #[pq b, .int .i64 now] w fun e w' => ∃ v, e = .returned v ∧ Sat k w' (Kys v ys * (CacheR b (cdrops ys { c with L := qrest now c.L }) n * R)) := by
  obtain ⟨s, q, m, hs⟩ := ca_open h
  have c1 : w.cell? ⟨b, 1, none⟩ = some (.pointer (some ⟨q, 0, none⟩)) := hs.cell 1
  have c2 : w.cell? ⟨b, 2, none⟩ = some (.map (some m)) := hs.cell 2
  have D := qdue_any k w _ q n c.L now hn hs.get3
  rw [hys] at D
  have HD := Lib.hid D
  have HC : Hid (∀ {w' : World} {v : Value}, Sat k w' (Strs v (ys.map textK) * (QueueV q (qrest now c.L) n * (blk b (.cells (cellsCa s q m c.ttl) 72 (0, 0)) * (StoreV s c.al c.kp c.mo c.T c.K * (MapK kyV m (vlv c.V) * R))))) → Sat k w' (Strs v (ys.map textK) * (CacheR b { c with L := qrest now c.L } n * R))) := by
    unfold Hid
    intro w' v h'
    exact (ca_close (c := { c with L := qrest now c.L }) (R := Strs v (ys.map textK) * R) (h'.of_eq (by ac_rfl)) rfl rfl rfl rfl rfl rfl rfl rfl).swap
  have HF := Lib.hid (fun w' R' v => forget_any k w' R' b n { c with L := qrest now c.L } ys v hy hn hl)
  clear D h hys hs hy
  go_enter Try.func27, Try.ntmps27
  go_wp2_with (go_at_call 47; refine (cthere_any _ _ _ c2).mono ?_; rintro e w' ⟨rfl, rfl⟩)
  with_reducible refine HD.out.mono ?_
  rintro e w2 ⟨v2, rfl, h2⟩
  replace h2 := HC.out h2
  obtain ⟨va, vc, rfl⟩ := own_val h2
  rw [List.length_map] at h2 ⊢
  go_wp2_with fail
  with_reducible refine (HF.out _ _ _ h2).mono ?_
  rintro e w3 ⟨v3, rfl, h3⟩
  go_wp2_with fail
  go_ret
  exact ⟨_, rfl, h3.drop2⟩

end Go.Proofs.Ytlilogcojeoelaa

namespace Go.Proofs.Ytlilogcojeoelaa
set_option linter.all false
open Go Go.RowKit

set_option maxRecDepth 100000 in
set_option maxHeartbeats 4000000 in
theorem ckeys_any (k : Env) (w : World) (R : Assn) (b n : Nat) (c : CS) (yk yt : List Ky) (hk : ∀ y ∈ yk, rightK y = true ∧ tiny y) (ht : ∀ y ∈ yt, rightK y = true ∧ tiny y) (hyk : c.K.map (·.1) = yk.map textK) (hyt : c.T.map (·.1) = yt.map textK)
    (hl : (yk.length : Int) ≤ 1073741824) (hl2 : (yt.length : Int) ≤ 1073741824) (h : Sat k w (CacheR b c n * R)) :
    Calls Try.prog 32 #[pq b] w fun e w' => ∃ v, e = .returned v ∧ Sat k w' (Kys v (yk ++ yt) * (CacheR b c n * R)) := by
  obtain ⟨s, q, m, hs⟩ := ca_open h
  have c2 : w.cell? ⟨b, 2, none⟩ = some (.map (some m)) := hs.cell 2
  have CK : ∀ (s : Nat) (w' : World) (R' : Assn), Sat k w' (StoreV s c.al c.kp c.mo c.T c.K * R') → Calls Try.prog 65 #[pq s, .bool true] w' fun e w'' => ∃ v, e = .returned v ∧ Sat k w'' (Strs v (yk.map textK) * (StoreV s c.al c.kp c.mo c.T c.K * R')) := by
    intro s w' R' h'
    have := keys_any k w' R' s c.al c.kp c.mo c.T c.K true h'
    rw [if_pos rfl, hyk] at this
    exact this
  have CT : ∀ (s : Nat) (w' : World) (R' : Assn), Sat k w' (StoreV s c.al c.kp c.mo c.T c.K * R') → Calls Try.prog 65 #[pq s, .bool false] w' fun e w'' => ∃ v, e = .returned v ∧ Sat k w'' (Strs v (yt.map textK) * (StoreV s c.al c.kp c.mo c.T c.K * R')) := by
    intro s w' R' h'
    have := keys_any k w' R' s c.al c.kp c.mo c.T c.K false h'
    rw [if_neg (by decide), hyt] at this
    exact this
  have HCK := Lib.hid CK
  have HCT := Lib.hid CT
  clear CK CT
  have h1 := h.alloc (.cells #[.bool true, .bool false] 4)
  clear h hs
  go_enter Try.func32, Try.ntmps32
  go_wp2_with (go_at_call 47; refine (cthere_any _ _ _ c2).mono ?_; rintro e w' ⟨rfl, rfl⟩)
  generalize w.alloc (.cells #[.bool true, .bool false] 4) = w1 at *
  generalize w.heap.size = ob at *
  clear c2
  go_loopw [3, 15] (fun v3 i wr => ∃ (j : Nat) (acc : List Ky), ((j = 0 ∧ acc = []) ∨ (j = 1 ∧ acc = yk) ∨ (j = 2 ∧ acc = yk ++ yt)) ∧ i = .int .i64 j ∧ Sat k wr (Kys v3 acc * (CacheR b c n * (blk ob (.cells #[.bool true, .bool false] 4 (0, 0)) * R)))) (fun _ i _ => 2 - (intOf i).toNat)
  case atStart => exact ⟨0, [], .inl ⟨rfl, rfl⟩, rfl, rec_nil (h1.swap)⟩
  case round =>
    clear h1
    obtain ⟨j, acc, hc3, rfl, hr⟩ := hrel
    by_cases hj : j < 2
    · obtain ⟨ys, kept, HNX, HCC, e0, hys, hyl, hal⟩ : ∃ (ys : List Ky) (kept : Bool), Hid ((j + 1 = 0 ∧ acc ++ ys = []) ∨ (j + 1 = 1 ∧ acc ++ ys = yk) ∨ (j + 1 = 2 ∧ acc ++ ys = yk ++ yt)) ∧
          Hid (∀ (s : Nat) (w' : World) (R' : Assn), Sat k w' (StoreV s c.al c.kp c.mo c.T c.K * R') → Calls Try.prog 65 #[pq s, .bool kept] w' fun e w'' => ∃ v, e = .returned v ∧ Sat k w'' (Strs v (ys.map textK) * (StoreV s c.al c.kp c.mo c.T c.K * R'))) ∧
          wr.cell? ⟨ob, j, none⟩ = some (.bool kept) ∧ Hid (∀ y ∈ ys, rightK y = true ∧ tiny y) ∧ (ys.length : Int) ≤ 1073741824 ∧ (acc.length : Int) ≤ 1073741824 := by
        rcases hc3 with ⟨rfl, rfl⟩ | ⟨rfl, rfl⟩ | ⟨rfl, rfl⟩
        · exact ⟨yk, true, Lib.hid (.inr (.inl ⟨rfl, rfl⟩)), HCK, (hr.get3.cell 0).trans rfl, Lib.hid hk, hl, by simp⟩
        · exact ⟨yt, false, Lib.hid (.inr (.inr ⟨rfl, rfl⟩)), HCT, (hr.get3.cell 1).trans rfl, Lib.hid ht, hl2, hl⟩
        · omega
      clear HCK HCT hc3 hk ht hyk hyt hl hl2
      obtain ⟨s', q', m', hs'⟩ := ca_open hr.swap
      obtain ⟨ua, uc, rfl⟩ := rec_val hr
      have c0 : wr.cell? ⟨b, 0, none⟩ = some (.pointer (some ⟨s', 0, none⟩)) := hs'.cell 0
      have hj2 : (j : Int) < 2 := by omega
      go_wp2_with (go_at_call 65; (with_reducible refine (HCC.out s' wr _ hs'.swap).mono ?_); rintro e w2 ⟨v2, rfl, h2⟩; obtain ⟨va, vc, rfl⟩ := own_val h2; rw [List.length_map] at h2)
      have h3 := (ca_close (c := c) (b := b) (n := n) (s := s') (q := q') (m := m') (R := Kys (.slice ua acc.length uc) acc * (Strs (.slice va ys.length vc) (ys.map textK) * (blk ob (.cells #[.bool true, .bool false] 4 (0, 0)) * R))) (h2.of_eq (by ac_rfl)) rfl rfl rfl rfl rfl rfl rfl rfl).of_eq (Q := Kys (.slice ua acc.length uc) (acc ++ ys.take 0) * (Own 9 1 (.slice va ys.length vc) ys.length (strs (ys.map textK)) * (CacheR b c n * (blk ob (.cells #[.bool true, .bool false] 4 (0, 0)) * R)))) (by rw [List.take_zero, List.append_nil]; unfold Strs; rw [List.length_map]; ac_rfl)
      clear h2 hs' hr c0 e0 HCC
      go_loopw [3, 26] (fun v3 i wr => ∃ q : Nat, q ≤ ys.length ∧ i = .int .i64 q ∧ Sat k wr (Kys v3 (acc ++ ys.take q) * (Own 9 1 (.slice va ys.length vc) ys.length (strs (ys.map textK)) * (CacheR b c n * (blk ob (.cells #[.bool true, .bool false] 4 (0, 0)) * R))))) (fun _ i _ => ys.length - (intOf i).toNat)
      case atStart => exact ⟨0, Nat.zero_le _, rfl, h3⟩
      case round =>
        clear h3
        obtain ⟨i, hi, rfl, hr⟩ := hrel
        by_cases hlt : i < ys.length
        · obtain ⟨g, rfl, hg, di⟩ := strs_get hr.swap i (by simpa using hlt)
          rw [List.getElem_map] at di
          have hsn : acc ++ ys.take (i + 1) = (acc ++ ys.take i) ++ [ys[i]] := by rw [List.take_succ]; simp [hlt]
          have hyj := hys.out ys[i] (List.getElem_mem hlt)
          have htl : (acc ++ ys.take i).length = acc.length + i := by rw [List.length_append, List.length_take]; omega
          have HSN := Lib.hid hsn
          have HTL := Lib.hid htl
          clear hsn htl
          generalize ys[i] = y at *
          obtain ⟨hy1, hy2⟩ := hyj
          have C1 := Lib.hid (parse_text k wr _ y hy2 hy1 hr)
          have hlt' : (i : Int) < ys.length := by omega
          obtain ⟨xa, xc, huv⟩ := rec_val hr
          rw [HTL.out] at huv
          subst huv
          generalize hyt : acc ++ ys.take i = yt at *
          have HYT := Lib.hid hyt
          clear hyt
          go_upto_region 11 with (go_at_call 10; (with_reducible refine C1.out.mono ?_); rintro e w2 ⟨rfl, h2⟩; unfold kyV)
          have h3 := h2.alloc (.cells #[.string y.db, .string y.ro, .int .i64 y.fm, .string y.nm] 23)
          generalize w2.alloc (.cells #[.string y.db, .string y.ro, .int .i64 y.fm, .string y.nm] 23) = w3 at *
          generalize w2.heap.size = o8 at *
          have d0 : w3.cell? ⟨o8, 0, none⟩ = some (.string y.db) := h3.cell 0
          have d1 : w3.cell? ⟨o8, 1, none⟩ = some (.string y.ro) := h3.cell 1
          have d2 : w3.cell? ⟨o8, 2, none⟩ = some (.int .i64 y.fm) := h3.cell 2
          have d3 : w3.cell? ⟨o8, 3, none⟩ = some (.string y.nm) := h3.cell 3
          have hA := h3.alloc (.cells #[.string y.db, .string y.ro, .int .i64 y.fm, .string y.nm] 23)
          have g0 : (w3.alloc (.cells #[.string y.db, .string y.ro, .int .i64 y.fm, .string y.nm] 23)).cell? ⟨o8, 0, none⟩ = some (.string y.db) := hA.swap.cell 0
          have g1 : (w3.alloc (.cells #[.string y.db, .string y.ro, .int .i64 y.fm, .string y.nm] 23)).cell? ⟨o8, 1, none⟩ = some (.string y.ro) := hA.swap.cell 1
          have g2 : (w3.alloc (.cells #[.string y.db, .string y.ro, .int .i64 y.fm, .string y.nm] 23)).cell? ⟨o8, 2, none⟩ = some (.int .i64 y.fm) := hA.swap.cell 2
          have g3 : (w3.alloc (.cells #[.string y.db, .string y.ro, .int .i64 y.fm, .string y.nm] 23)).cell? ⟨o8, 3, none⟩ = some (.string y.nm) := hA.swap.cell 3
          clear hA
          clear g0 g1 g2 g3
          go_wp2_with (at_builtin; refine wpList_append_sat TKy (h3.drop.alloc' _) (.tmp 35) (.tmp 37) _ 1 1 (kyc y) rfl rfl rfl rfl rfl (fun _ => ⟨_, rfl, new_cells_at _ _ _ _ (by first | rfl | simp)⟩) (EKy.one y) (by simp only [HTL.out, maxLen]; omega) (by rw [HTL.out]; omega) ?_; intro a7 c7 w7 h7)
          all_goals
            have h8 : Sat k w7 (Kys (.slice a7 (yt.length + 1) c7) (acc ++ ys.take (i + 1)) * (Own 9 1 (.slice (some ⟨g, 0, none⟩) ys.length vc) ys.length (strs (ys.map textK)) * (CacheR b c n * (blk ob (.cells #[.bool true, .bool false] 4 (0, 0)) * R)))) := by
              rw [HSN.out]
              exact rec_push (E := EKy) h7
            go_wp2_with fail
            go_roundw
            case rel => exact ⟨i + 1, by omega, by go_num, h8⟩
            case measure => simp [intOf]; omega
        · have hjl : i = ys.length := by omega
          subst hjl
          rw [List.take_length] at hr
          have h9 := hr.swap.drop
          go_wp2_with fail
          go_roundw
          case rel => exact ⟨j + 1, acc ++ ys, HNX.out, by go_num, h9⟩
          case measure => simp [intOf]; omega
    · obtain ⟨rfl, rfl⟩ : j = 2 ∧ acc = yk ++ yt := by
        rcases hc3 with ⟨rfl, _⟩ | ⟨rfl, _⟩ | ⟨rfl, h⟩
        · omega
        · omega
        · exact ⟨rfl, h⟩
      go_wp2_with fail
      go_ret
      exact ⟨_, rfl, hr.drop3⟩

end Go.Proofs.Ytlilogcojeoelaa

namespace Go.Proofs.Ytlilogcojeoelaa
set_option linter.all false
open Go Go.RowKit

/-- A key goes, if it is there. -/
def cdropI (c : CS) (y : Ky) : CS := if mget y c.V = none then c else cdrop c y
def cdropsI (ys : List Ky) (c : CS) : CS := ys.foldl cdropI c
theorem cdropsI_snoc (ys : List Ky) (y : Ky) (c : CS) : cdropsI (ys ++ [y]) c = cdropI (cdropsI ys c) y := by simp [cdropsI]
theorem cdropI_any (k : Env) (w : World) (R : Assn) (b n : Nat) (c : CS) (y : Ky) (hy : rightK y = true ∧ tiny y) (hn : n ≤ 1000000000) (h : Sat k w (CacheR b c n * R)) :
    Calls Try.prog 25 #[pq b, kyV y] w fun e w' => ∃ t : Bool, e = .returned (.bool t) ∧ (t = true ↔ mget y c.V ≠ none) ∧ Sat k w' (CacheR b (cdropI c y) n * R) := by
  unfold cdropI
  cases hv : mget y c.V with
  | none => exact (cdrop_none k w R b n c y hv h).mono fun e w' ⟨p, q⟩ => ⟨_, p, by simp, by rw [if_pos rfl]; exact q⟩
  | some v => exact (cdrop_some k w R b n c y v hy.1 hy.2 hn hv h).mono fun e w' ⟨p, q⟩ => ⟨_, p, by simp, by rw [if_neg (by simp)]; exact q⟩

theorem kys_get {k : Env} {w : World} {a : Option Addr} {c : Nat} {l : List Ky} {R : Assn} (h : Sat k w (Kys (.slice a l.length c) l * R)) (j : Nat) (hj : j < l.length) :
    ∃ g, a = some ⟨g, 0, none⟩ ∧ w.cell? ⟨g, j * 4, none⟩ = some (.string l[j].db) ∧ w.cell? ⟨g, j * 4 + 1, none⟩ = some (.string l[j].ro) ∧ w.cell? ⟨g, j * 4 + 2, none⟩ = some (.int .i64 l[j].fm) ∧ w.cell? ⟨g, j * 4 + 3, none⟩ = some (.string l[j].nm) := by
  obtain ⟨g, e, _, hc⟩ := rec_get h (by decide) j hj
  exact ⟨g, e, hc 0 (by decide), hc 1 (by decide), hc 2 (by decide), hc 3 (by decide)⟩

set_option maxRecDepth 100000 in
set_option maxHeartbeats 4000000 in
theorem cflush_any (k : Env) (w : World) (R : Assn) (b n : Nat) (c : CS) (yk yt : List Ky) (hn : n ≤ 1000000000) (hk : ∀ y ∈ yk, rightK y = true ∧ tiny y) (ht : ∀ y ∈ yt, rightK y = true ∧ tiny y) (hyk : c.K.map (·.1) = yk.map textK) (hyt : c.T.map (·.1) = yt.map textK)
    (hl : (yk.length : Int) ≤ 1073741824) (hl2 : (yt.length : Int) ≤ 1073741824) (h : Sat k w (CacheR b c n * R)) :
    Calls Try.prog 29 #[pq b] w fun e w' => e = .returned (.int .i64 ((yk ++ yt).length : Nat)) ∧ Sat k w' (CacheR b (cdropsI (yk ++ yt) c) n * R) := by
  have C1 := Lib.hid (ckeys_any k w R b n c yk yt hk ht hyk hyt hl hl2 h)
  have hys : ∀ y ∈ yk ++ yt, rightK y = true ∧ tiny y := by
    intro y hy
    rcases List.mem_append.1 hy with q | q
    · exact hk y q
    · exact ht y q
  have hll : ((yk ++ yt).length : Int) ≤ 2147483648 := by rw [List.length_append]; omega
  clear h hk ht hyk hyt hl hl2
  generalize yk ++ yt = ys at *
  go_enter Try.func29, Try.ntmps29
  go_wp2_with fail
  refine C1.out.mono ?_
  rintro e w1 ⟨v1, rfl, h1⟩
  obtain ⟨va, vc, rfl⟩ := rec_val h1
  have h2 : Sat k w1 (Kys (.slice va ys.length vc) ys * (CacheR b (cdropsI (ys.take 0) c) n * R)) := h1
  clear h1 C1
  have HYS := Lib.hid hys
  clear hys
  go_wp2_with fail
  go_loopw [5, 10] (fun _ i wr => ∃ j : Nat, j ≤ ys.length ∧ i = .int .i64 j ∧ Sat k wr (Kys (.slice va ys.length vc) ys * (CacheR b (cdropsI (ys.take j) c) n * R))) (fun _ i _ => ys.length - (intOf i).toNat)
  case atStart => exact ⟨0, Nat.zero_le _, rfl, h2⟩
  case round =>
    clear h2
    obtain ⟨j, hj, rfl, hr⟩ := hrel
    by_cases hlt : j < ys.length
    · have hlt' : (j : Int) < ys.length := by omega
      obtain ⟨g, rfl, e0, e1, e2, e3⟩ := kys_get hr j hlt
      have hsn : ys.take (j + 1) = ys.take j ++ [ys[j]] := by rw [List.take_succ]; simp [hlt]
      have HSN : Hid (cdropsI (ys.take (j + 1)) c = cdropI (cdropsI (ys.take j) c) ys[j]) := by unfold Hid; rw [hsn, cdropsI_snoc]
      have hyj := HYS.out ys[j] (List.getElem_mem hlt)
      clear hsn
      generalize ys[j] = y at *
      generalize cdropsI (ys.take j) c = c1 at *
      have h3 := hr.alloc (.cells #[.string y.db, .string y.ro, .int .i64 y.fm, .string y.nm] 23)
      go_upto_region 5 with fail
      generalize wr.alloc (.cells #[.string y.db, .string y.ro, .int .i64 y.fm, .string y.nm] 23) = w3 at *
      generalize wr.heap.size = o5 at *
      clear e0 e1 e2 e3 hr
      have d0 : w3.cell? ⟨o5, 0, none⟩ = some (.string y.db) := h3.cell 0
      have d1 : w3.cell? ⟨o5, 1, none⟩ = some (.string y.ro) := h3.cell 1
      have d2 : w3.cell? ⟨o5, 2, none⟩ = some (.int .i64 y.fm) := h3.cell 2
      have d3 : w3.cell? ⟨o5, 3, none⟩ = some (.string y.nm) := h3.cell 3
      go_wp2_with fail
      refine (cdropI_any k w3 _ b n c1 y hyj hn h3.get3).mono ?_
      rintro e w4 ⟨t, rfl, _, h4⟩
      have h5 : Sat k w4 (Kys (.slice (some ⟨g, 0, none⟩) ys.length vc) ys * (CacheR b (cdropsI (ys.take (j + 1)) c) n * R)) := by
        rw [HSN.out]
        exact h4.swap.drop.swap
      go_wp2_with fail
      go_roundw
      case rel => exact ⟨j + 1, by omega, by go_num, h5⟩
      case measure => simp [intOf]; omega
    · have hjl : j = ys.length := by omega
      subst hjl
      rw [List.take_length] at hr
      go_wp2_with fail
      go_ret
      exact ⟨rfl, hr.drop⟩

end Go.Proofs.Ytlilogcojeoelaa
