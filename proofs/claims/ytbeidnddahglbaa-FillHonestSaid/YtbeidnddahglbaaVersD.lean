/- Contracts of package vers: Busy, Bump, Clean. -/
import Derived.Test.YtbeidnddahglbaaVersC
namespace Go.Proofs.Ytbeidnddahglbaa
set_option linter.all false
open Go Go.RowKit

theorem Tie.dirs {L : List Tb} {V : VS} {n : Nat} (h : Tie L V n) {s : ByteArray} {x : Tb} (hg : tget s L = some x) : (∃ c, V.D s c = true) ↔ x.ds ≠ [] := by
  have hd := fun c => h.dir s c
  rw [hg] at hd
  have hd : ∀ c, V.D s c = (mget c x.ds).isSome := hd
  constructor
  · rintro ⟨c, hc⟩ e
    rw [hd c, e] at hc
    cases hc
  · intro hne
    cases hx : x.ds with
    | nil => exact absurd hx hne
    | cons y r => exact ⟨y.1, by rw [hd, hx, mget, if_pos rfl]; rfl⟩

def busyV (V : VS) (l : List ByteArray) : Prop := ∃ s ∈ l, ∃ c, V.D s c = true

set_option maxRecDepth 100000 in
set_option maxHeartbeats 2000000 in
theorem vbusy_any (k : Env) (w : World) (R : Assn) (b n : Nat) (V : VS) (a : Option Addr) (cap : Nat) (l : List ByteArray) (hr : Rd k R a l) (hn : l.length ≤ 1000000000) (h : Sat k w (VersV b V n * R)) :
    Calls Try.prog 25 #[pv b, .slice a l.length cap] w fun e w' => ∃ r : Bool, e = .returned (.bool r) ∧ (r = true ↔ busyV V l) ∧ Sat k w' (VersV b V n * R) := by
  obtain ⟨L, ht, h1⟩ := vv_open h
  obtain ⟨m, hs⟩ := vr_open h1
  have c1 : w.cell? ⟨b, 1, none⟩ = some (.map (some m)) := hs.cell 1
  have HR := Lib.hid hr
  clear hs h1 ht hr
  go_enter Try.func25, Try.ntmps25
  go_wp2_with (go_at_call 45; refine (vthere_any _ _ _ c1).mono ?_; rintro e w' ⟨rfl, rfl⟩)
  go_loopw [13] (fun i wr => ∃ j : Nat, j ≤ l.length ∧ i = .int .i64 j ∧ Hid (∀ s ∈ l.take j, ∀ c, V.D s c = false) ∧ Sat k wr (VersV b V n * R)) (fun i _ => l.length - (intOf i).toNat)
  case atStart => exact ⟨0, Nat.zero_le _, rfl, (fun s hs => by simp at hs), h⟩
  case round =>
    clear h c1
    obtain ⟨j, hj, rfl, HB, hr⟩ := hrel
    by_cases hlt : j < l.length
    · have hlt' : (j : Int) < l.length := by omega
      obtain ⟨g, o, rfl, d⟩ := rd_get HR.out hr.drop j hlt
      have HSN : Hid (∀ s ∈ l.take (j + 1), s ∈ l.take j ∨ s = l[j]) := by
        intro s hs
        have hsn : l.take (j + 1) = l.take j ++ [l[j]] := by rw [List.take_succ]; simp [hlt]
        rw [hsn] at hs
        rcases List.mem_append.1 hs with h | h
        · exact .inl h
        · exact .inr (List.mem_singleton.1 h)
      have HMEM : Hid (l[j] ∈ l) := List.getElem_mem hlt
      generalize l[j] = s at *
      obtain ⟨L, ht, h1⟩ := vv_open hr
      obtain ⟨m, hs⟩ := vr_open h1
      have c1 : wr.cell? ⟨b, 1, none⟩ = some (.map (some m)) := hs.cell 1
      have hl := run_lookup_sat KStrT mapTb zeroTb hs.swap s
      rw [tents_get] at hl
      cases hg : tget s L with
      | none =>
        rw [hg] at hl
        simp only [Option.map_none, Option.getD_none] at hl
        have HD : Hid (∀ c, V.D s c = false) := by
          intro c
          have := ht.dir s c
          rw [hg] at this
          exact this
        clear hs h1 ht hg
        go_wp2_with fail
        go_roundw
        case rel =>
          refine ⟨j + 1, by omega, by go_num, fun s' hs' => ?_, hr⟩
          rcases HSN.out s' hs' with h | rfl
          · exact HB.out s' h
          · exact HD.out
        case measure => simp [intOf]; omega
      | some x =>
        have hdir := ht.dirs hg
        obtain ⟨p, q, rfl⟩ := tget_split hg
        rw [hg] at hl
        simp only [Option.map_some, Option.getD_some] at hl
        obtain ⟨m2, hx⟩ := vr_at h1
        have d1 : wr.cell? ⟨x.t, 1, none⟩ = some (.map (some x.m)) := hx.swap.cell 1
        have hlen := run_len_map 3 mapDi hx.get3
        have HDIR := Lib.hid hdir
        by_cases he : x.ds = []
        · have e0 : (dents x.ds).length = 0 := by rw [he]; rfl
          rw [e0] at hlen
          have HE := Lib.hid he
          clear hs h1 ht hg hx hdir he e0
          go_wp2_with fail
          go_roundw
          case rel =>
            refine ⟨j + 1, by omega, by go_num, fun s' hs' => ?_, hr⟩
            rcases HSN.out s' hs' with h | rfl
            · exact HB.out s' h
            · intro c
              cases hq : V.D s' c with
              | false => rfl
              | true => exact absurd HE.out (HDIR.out.1 ⟨c, hq⟩)
          case measure => simp [intOf]; omega
        · have e0 : (0 : Int) < (dents x.ds).length := by
            have := List.length_pos_iff.2 he
            unfold dents; rw [List.length_map]; omega
          have HE := Lib.hid he
          clear hs h1 ht hg hx hdir he
          go_wp2_with fail
          go_ret
          exact ⟨true, rfl, ⟨fun _ => ⟨s, HMEM.out, HDIR.out.2 HE.out⟩, fun _ => rfl⟩, hr⟩
    · have hjl : j = l.length := by omega
      subst hjl
      rw [List.take_length] at HB
      go_wp2_with fail
      go_ret
      exact ⟨false, rfl, ⟨fun q => (by cases q), fun ⟨s, hs, c, hc⟩ => (by rw [HB.out s hs c] at hc; cases hc)⟩, hr⟩

def VS.bump (V : VS) (l : List ByteArray) : VS := { V with N := fun s => V.N s + if memB s l then 1 else 0 }
theorem bump_nil (V : VS) : V.bump [] = V := by simp [VS.bump, memB_nil]
theorem Tie.nums {L : List Tb} {V : VS} {n : Nat} (h : Tie L V n) (s : ByteArray) : 0 ≤ V.N s ∧ V.N s ≤ n := by
  rw [h.num s]
  cases hg : tget s L with
  | none => simp
  | some x =>
    obtain ⟨p, q, rfl⟩ := tget_split hg
    have := h.b x (by simp)
    simp only [Option.elim_some]
    exact ⟨this.1, this.2.1⟩
theorem Tie.bump {p q : List Tb} {x : Tb} {V : VS} {n : Nat} {s : ByteArray} {l : List ByteArray} (h : Tie (p ++ x :: q) (V.bump l) n) (hx : x.name = s) (hs : s ∉ l) (hv : x.num + 1 ≤ n) :
    Tie (p ++ { x with num := x.num + 1 } :: q) (V.bump (l ++ [s])) n := by
  have hb := h.b x (by simp)
  refine h.upd rfl (Nat.le_refl n) (fun s' => ?_) (fun s' c' => ?_) rfl ⟨by have := hb.1; show 0 ≤ x.num + 1; omega, hv, hb.2.2⟩
  · show V.N s' + (if memB s' (l ++ [s]) then 1 else 0) = _
    rw [memB_snoc]
    by_cases e : x.name = s'
    · rw [if_pos e]
      have h1 := h.num s'
      rw [← e, tget_at h.nd] at h1
      have h1 : V.N x.name + (if memB x.name l then 1 else 0) = x.num := h1
      have h2 : memB x.name l = false := memB_not.2 (by rw [hx]; exact hs)
      rw [h2] at h1
      rw [← e, h2, hx]
      rw [hx] at h1
      simp at h1 ⊢
      omega
    · rw [if_neg e]
      have : ¬ s = s' := fun q => e (hx.trans q)
      show _ = V.N s' + (if memB s' l then 1 else 0)
      simp [this]
  · by_cases e : x.name = s'
    · rw [if_pos e]
      have h1 := h.dir s' c'
      rw [← e, tget_at h.nd] at h1
      rw [← e]; exact h1
    · rw [if_neg e]; rfl
theorem bump_again {V : VS} {s : ByteArray} {l : List ByteArray} (h : s ∈ l) : V.bump (l ++ [s]) = V.bump l := by
  unfold VS.bump
  congr 1
  funext s'
  rw [memB_snoc]
  by_cases e : s = s'
  · subst e; rw [memB_iff.2 h]; simp
  · simp [e]
theorem getD_intB {c : ByteArray} {l : List (ByteArray × Int)} : ((mget c l).map (Value.int .i64)).getD (.int .i64 0) = .int .i64 ((mget c l).getD 0) := by cases mget c l <;> rfl

set_option maxRecDepth 100000 in
set_option maxHeartbeats 2000000 in
theorem vbump_any (k : Env) (w : World) (R : Assn) (b n : Nat) (V : VS) (a : Option Addr) (cap : Nat) (l : List ByteArray) (hr : Rd k R a l) (hn : n + l.length < 1000000000) (h : Sat k w (VersV b V n * R)) :
    Calls Try.prog 33 #[pv b, .slice a l.length cap] w fun e w' => e = .returned (.tuple #[]) ∧ Sat k w' (VersV b (V.bump l) (n + 1) * R) := by
  have hmm := @run_makeMap Try.prog
  have hmk := Try.underlying109
  have h0 := map_made (K := ByteArray) (kv := Value.string) (vv_more h (Nat.le_succ n))
  obtain ⟨L, ht, h1⟩ := vv_open h
  obtain ⟨m, hs⟩ := vr_open h1
  have c1 : w.cell? ⟨b, 1, none⟩ = some (.map (some m)) := hs.cell 1
  have HR := Lib.hid hr
  have HB := Lib.hid ht.nums
  clear hs h1 ht h hr
  go_enter Try.func33, Try.ntmps33
  go_wp2_with (go_at_call 45; refine (vthere_any _ _ _ c1).mono ?_; rintro e w' ⟨rfl, rfl⟩)
  generalize w.alloc (.map #[] 0) = w0 at *
  generalize w.heap.size = mh at *
  go_loopw [13] (fun i wr => ∃ (j : Nat) (hd : List (ByteArray × Int)), j ≤ l.length ∧ i = .int .i64 j ∧ Hid (∀ s, 0 ≤ (mget s hd).getD 0 ∧ (mget s hd).getD 0 ≤ j ∧ ((mget s hd).getD 0 = 0 ↔ s ∉ l.take j)) ∧ Sat k wr (MapK Value.string mh (hents hd) * (VersV b (V.bump (l.take j)) (n + 1) * R))) (fun i _ => l.length - (intOf i).toNat)
  case atStart => exact ⟨0, [], Nat.zero_le _, rfl, (fun s => by simp [mget]), by rw [List.take_zero, bump_nil]; exact h0⟩
  case round =>
    clear h0 c1
    obtain ⟨j, hd, hj, rfl, HC, hr⟩ := hrel
    by_cases hlt : j < l.length
    · have hlt' : (j : Int) < l.length := by omega
      obtain ⟨g, o, rfl, d⟩ := rd_get HR.out hr.drop.drop j hlt
      have hsn : l.take (j + 1) = l.take j ++ [l[j]] := by rw [List.take_succ]; simp [hlt]
      have HSN : Hid (V.bump (l.take (j + 1)) = V.bump (l.take j ++ [l[j]])) := by unfold Hid; rw [hsn]
      obtain ⟨v, hv, hv0, hv1, hv2⟩ : ∃ v : Int, (mget l[j] hd).getD 0 = v ∧ 0 ≤ v ∧ v ≤ j ∧ (v = 0 ↔ l[j] ∉ l.take j) := ⟨_, rfl, HC.out l[j]⟩
      have HC2 : Hid (∀ s, 0 ≤ (mget s (mput l[j] (v + 1) hd)).getD 0 ∧ (mget s (mput l[j] (v + 1) hd)).getD 0 ≤ j + 1 ∧ ((mget s (mput l[j] (v + 1) hd)).getD 0 = 0 ↔ s ∉ l.take (j + 1))) := by
        intro s
        have hq := HC.out s
        rw [mget_put, hsn]
        by_cases e : l[j] = s
        · rw [if_pos e]
          simp only [Option.getD_some]
          refine ⟨by omega, by omega, ⟨fun q => by omega, fun q => absurd (List.mem_append_right _ (by simp [e])) q⟩⟩
        · rw [if_neg e]
          refine ⟨hq.1, by omega, hq.2.2.trans ?_⟩
          rw [List.mem_append, List.mem_singleton, not_or]
          exact ⟨fun q => ⟨q, fun q2 => e q2.symm⟩, fun q => q.1⟩
      clear hsn
      generalize hp : l.take j = p0 at *
      clear hp
      generalize l[j] = s at *
      have hl := run_lookup_sat KStrT mapHa zeroInt hr s
      rw [hents_get, getD_intB, hv] at hl
      have hw1 : IntKind.i64.wrap (v + 1) = v + 1 := IntWalk.i64_in _ (by omega)
      have HV := Lib.hid hv2
      clear hv hv2
      by_cases hz : v = 0
      · subst hz
        have hns := HV.out.1 rfl
        have HNS := Lib.hid hns
        clear HV hns
        go_wp2_with (at_mapUpdate; refine wpList_update_sat KStrT mapHa hr s (.int .i64 (0 + 1)) (.tmp 17) (.tmp 18) (.tmp 20) rfl rfl rfl rfl rfl ?_; intro w3 h3; rw [hents_put] at h3; have hl3 := run_lookup_sat KStrT mapHa zeroInt h3 s; rw [hents_get, getD_intB, mget_put, if_pos rfl, Option.getD_some] at hl3)
        obtain ⟨L, ht, h4⟩ := vv_open h3.swap
        have hb2 := HB.out s
        refine (vat_any k w3 _ b (n + 1) (V.bump p0).ep (V.bump p0) L s ht h4).mono ?_
        rintro e w4 ⟨p, x, q, rfl, hxn, ht2, h5⟩
        obtain ⟨m2, hx⟩ := vr_at h5
        have d0 : w4.cell? ⟨x.t, 0, none⟩ = some (.int .i64 x.num) := hx.swap.cell 0
        have f0 := hx.swap.frozen 0
        have hxv : x.num = V.N s := by
          have h6 := ht2.num s
          rw [← hxn, tget_at ht2.nd] at h6
          have h6 : V.N x.name + (if memB x.name p0 then 1 else 0) = x.num := h6
          rw [hxn, memB_not.2 HNS.out] at h6
          simpa using h6.symm
        have hw2 : IntKind.i64.wrap (x.num + 1) = x.num + 1 := IntWalk.i64_in _ (by omega)
        have hxb : x.num + 1 ≤ ((n + 1 : Nat) : Int) := by omega
        clear hxv hb2
        have h7 := (hx.swap.set 0 (.int .i64 (x.num + 1))).swap
        have h8 : Sat k (w4.setCell ⟨x.t, 0, none⟩ (.int .i64 (x.num + 1))) (MapK Value.string mh (hents (mput s (0 + 1) hd)) * (VersV b (V.bump (l.take (j + 1))) (n + 1) * R)) := by
          rw [HSN.out]
          refine (vv_close (vr_at_close (m := m2) (x := { x with num := x.num + 1 }) h7 rfl rfl rfl rfl ?_) (ht2.bump hxn HNS.out hxb) rfl).swap
          simp [tents]
        clear hx h7 h5 h4 ht ht2
        go_wp2_with fail
        go_roundw
        case rel => exact ⟨j + 1, _, by omega, by go_num, HC2.out, h8⟩
        case measure => simp [intOf]; omega
      · have hns : s ∈ p0 := Classical.byContradiction fun q => hz (HV.out.2 q)
        have hne : (v + 1 == 1) = false := by simp; omega
        rw [bump_again hns] at HSN
        clear HV hns
        go_wp2_with (at_mapUpdate; refine wpList_update_sat KStrT mapHa hr s (.int .i64 (v + 1)) (.tmp 17) (.tmp 18) (.tmp 20) rfl rfl rfl rfl rfl ?_; intro w3 h3; rw [hents_put] at h3; have hl3 := run_lookup_sat KStrT mapHa zeroInt h3 s; rw [hents_get, getD_intB, mget_put, if_pos rfl, Option.getD_some] at hl3)
        go_roundw
        case rel => exact ⟨j + 1, _, by omega, by go_num, HC2.out, by rw [HSN.out]; exact h3⟩
        case measure => simp [intOf]; omega
    · have hjl : j = l.length := by omega
      subst hjl
      rw [List.take_length] at hr
      go_wp2_with fail
      go_end0
      exact ⟨rfl, hr.drop⟩

def VS.clean (V : VS) (c : Int) : VS := { V with D := fun s c' => V.D s c' && decide (c' ≠ c) }
/-- Of some tables it is gone already. -/
def VS.part (V : VS) (c : Int) (ks : List ByteArray) : VS := { V with D := fun s c' => V.D s c' && (decide (c' ≠ c) || memB s ks) }
theorem part_nil (V : VS) (c : Int) : V.part c [] = V.clean c := by simp [VS.part, VS.clean, memB_nil]
theorem Tie.part {p q : List Tb} {x : Tb} {V : VS} {n : Nat} {c : Int} {ks ks' : List ByteArray} (h : Tie (p ++ x :: q) (V.part c ks) n) (hd : (x.ds.map (·.1)).Nodup) (hx : x.name ∈ ks) (hx' : x.name ∉ ks') (hk : ∀ s, s ≠ x.name → (s ∈ ks' ↔ s ∈ ks)) :
    Tie (p ++ { x with ds := mdel c x.ds } :: q) (V.part c ks') n := by
  have hb := h.b x (by simp)
  refine h.upd rfl (Nat.le_refl n) (fun s' => ?_) (fun s' c' => ?_) rfl ⟨hb.1, hb.2.1, fun c' v' hv' => ?_⟩
  · by_cases e : x.name = s'
    · rw [if_pos e]
      have h1 := h.num s'
      rw [← e, tget_at h.nd] at h1
      rw [← e]; exact h1
    · rw [if_neg e]; rfl
  · show (V.D s' c' && (decide (c' ≠ c) || memB s' ks')) = _
    by_cases e : x.name = s'
    · rw [if_pos e]
      have h1 := h.dir s' c'
      rw [← e, tget_at h.nd] at h1
      have h1 : (V.D x.name c' && (decide (c' ≠ c) || memB x.name ks)) = (mget c' x.ds).isSome := h1
      show _ = (mget c' (mdel c x.ds)).isSome
      rw [mget_del _ _ _ hd, ← e, memB_not.2 hx']
      rw [memB_iff.2 hx] at h1
      by_cases ec : c = c'
      · subst ec; simp
      · rw [if_neg ec, ← h1]
        have : ¬ c' = c := fun q => ec q.symm
        simp [this]
    · rw [if_neg e]
      have hq : memB s' ks' = memB s' ks := by
        have := hk s' (fun q => e q.symm)
        cases h1 : memB s' ks with
        | true => exact memB_iff.2 (this.2 (memB_iff.1 h1))
        | false => exact memB_not.2 (fun q => memB_not.1 h1 (this.1 q))
      rw [hq]; rfl
  · have hv' : mget c' (mdel c x.ds) = some v' := hv'
    rw [mget_del _ _ _ hd] at hv'
    split at hv'
    · cases hv'
    · exact hb.2.2 c' v' hv'

set_option maxRecDepth 100000 in
set_option maxHeartbeats 2000000 in
theorem vclean_any (k : Env) (w : World) (R : Assn) (b n : Nat) (V : VS) (c : Int) (h : Sat k w (VersV b V n * R)) :
    Calls Try.prog 35 #[pv b, .int .i64 c] w fun e w' => e = .returned (.tuple #[]) ∧ Sat k w' (VersV b (V.clean c) n * R) := by
  obtain ⟨L, ht, h1⟩ := vv_open h
  obtain ⟨m, hs⟩ := vr_open h1
  have c1 : w.cell? ⟨b, 1, none⟩ = some (.map (some m)) := hs.cell 1
  have ht0 : Tie L (V.part c (L.map (·.name))) n := by
    refine ⟨ht.nd, ht.num, fun s c' => ?_, ht.b, ht.e⟩
    rw [← ht.dir s c']
    show (V.D s c' && (decide (c' ≠ c) || memB s (L.map (·.name)))) = V.D s c'
    cases hq : V.D s c' with
    | false => rfl
    | true =>
      have : s ∈ L.map (·.name) := by
        rw [ht.dir s c'] at hq
        cases hg : tget s L with
        | none => rw [hg] at hq; cases hq
        | some x =>
          exact Classical.byContradiction fun q => by rw [tget_none.2 q] at hg; cases hg
      rw [memB_iff.2 this]; simp
  have HT0 := Lib.hid ht0
  have hnd := Lib.hid ht.nd
  clear h h1 ht ht0
  go_enter Try.func35, Try.ntmps35
  go_wp2_with (first | (go_at_call 45; refine (vthere_any _ _ _ c1).mono ?_; rintro e w' ⟨rfl, rfl⟩) | (at_range; refine wpList_range_sat rfl (.tmp 12) rfl mapTb rfl (kv := Value.string) (l := tents L) hs.swap ?_; intro gm w1 h1))
  go_frame
  go_loopg [5] L.length (fun gk _ wr => ∃ (lf : List (ByteArray × Value)) (L' : List Tb), gk = lf.length ∧ Hid (tents L' = tents L) ∧ Hid (lf.Sublist (tents L)) ∧ Hid (Tie L' (V.part c (lf.map (·.1))) n) ∧ Sat k wr (RangeK Value.string m gm (tents L) lf * (blk b (.cells #[.int .i64 V.ep, .map (some m)] 91 (0, 0)) * (stars tbR L' * R))))
  case atStart => exact ⟨tents L, L, by simp [tents], rfl, List.Sublist.refl _, by unfold tents; rw [List.map_map]; exact HT0.out, h1⟩
  case round =>
    clear h1 hs c1
    obtain ⟨lf, L', rfl, HL, HS, HT, hr⟩ := hrel
    go_wp2_with (at_next; refine wpList_next_sat rfl (.tmp 13) rfl rfl hr ?_ ?_)
    · rintro rfl
      go_wp2
      go_end0
      have hT := HT.out
      rw [List.map_nil, part_nil] at hT
      exact ⟨rfl, vv_close (vr_close (range_map hr).swap HL.out.symm) hT rfl⟩
    · intro j hj w1 h1 hen
      have hmem : lf[j] ∈ tents L' := by rw [HL.out]; exact HS.out.subset (List.getElem_mem hj)
      obtain ⟨x, hx, hxe⟩ := List.mem_map.1 hmem
      have hkeys : (lf.map (·.1)).Nodup := by
        have h2 : ((tents L).map (·.1)).Nodup := by unfold tents; rw [List.map_map]; exact hnd.out
        exact h2.sublist (HS.out.map _)
      have hsub2 : Hid ((lf.eraseIdx j).Sublist (tents L)) := (List.eraseIdx_sublist lf j).trans HS.out
      have hlen : (lf.eraseIdx j).length < lf.length := by rw [List.length_eraseIdx_of_lt hj]; omega
      have hk1 : x.name ∈ lf.map (·.1) := by
        have h2 : lf[j] ∈ lf := List.getElem_mem hj
        rw [← hxe] at h2
        exact List.mem_map.2 ⟨_, h2, rfl⟩
      have hperm : (lf[j].1 :: (lf.eraseIdx j).map (·.1)).Perm (lf.map (·.1)) := (perm_erase lf j hj).map (fun x : ByteArray × Value => x.1)
      have hx1 : lf[j].1 = x.name := by rw [← hxe]
      rw [hx1] at hperm
      have hk2 : x.name ∉ (lf.eraseIdx j).map (·.1) := (List.nodup_cons.1 (hperm.nodup_iff.2 hkeys)).1
      have hk3 : ∀ s, s ≠ x.name → (s ∈ (lf.eraseIdx j).map (·.1) ↔ s ∈ lf.map (·.1)) := by
        intro s hs
        rw [← hperm.mem_iff, List.mem_cons]
        exact ⟨.inr, fun q => q.resolve_left hs⟩
      rw [← hxe] at hen ⊢
      simp only at hen ⊢
      obtain ⟨p, q, rfl⟩ := List.append_of_mem hx
      have h2 := h1.get3
      rw [stars_mid] at h2
      unfold tbR at h2
      simp only [star_assoc] at h2
      have d1 : w1.cell? ⟨x.t, 1, none⟩ = some (.map (some x.m)) := h2.cell 1
      have hdn : (x.ds.map (·.1)).Nodup := by
        have h3 := map_nodup h2.swap
        unfold dents at h3
        rw [List.map_map] at h3
        exact h3
      have HT2 := Lib.hid (HT.out.part hdn hk1 hk2 hk3)
      have HL2 : Hid (tents (p ++ { x with ds := mdel c x.ds } :: q) = tents L) := by rw [← HL.out]; simp [tents, Hid]
      generalize hlf : lf.eraseIdx j = lf2 at *
      clear hr h1 hmem hxe hkeys hk1 hperm hx1 hk2 hk3 hx hdn hlf HS
      go_wp2_with (at_delete; refine wpList_delete_sat KIntT mapDi h2.swap c (.tmp 21) (.tmp 22) rfl rfl rfl rfl ?_; intro w3 h3; rw [dents_del] at h3)
      have h4 : Sat k w3 (RangeK Value.string m gm (tents L) lf2 * (blk b (.cells #[.int .i64 V.ep, .map (some m)] 91 (0, 0)) * (stars tbR (p ++ { x with ds := mdel c x.ds } :: q) * R))) := by
        rw [stars_mid]
        unfold tbR
        exact h3.of_eq (by ac_rfl)
      go_roundg lf2.length
      case rel => exact ⟨lf2, _, rfl, HL2, hsub2, HT2.out, h4⟩
      case measure => omega

end Go.Proofs.Ytbeidnddahglbaa
