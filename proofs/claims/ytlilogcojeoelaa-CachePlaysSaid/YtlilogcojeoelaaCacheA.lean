/- Contracts of package cache: how a cache lies in memory; there, forget. -/
import Derived.Test.YtlilogcojeoelaaMD
import Derived.Test.YtlilogcojeoelaaExpD
import Derived.Test.YtlilogcojeoelaaSlruI
import Derived.StillTailTactics
namespace Go.Proofs.Ytlilogcojeoelaa
set_option linter.all false
open Go Go.RowKit

/-- A cache: its budgets, its time, its store, its deadlines, its values. -/
structure CS where
  al : Int
  kp : Int
  mo : Int
  ttl : Int
  T : List KV
  K : List KV
  L : List KA
  V : List (Ky × ByteArray)

def vlv (V : List (Ky × ByteArray)) : List (Ky × Value) := V.map fun x => (x.1, Value.string x.2)
theorem vlv_del (a : Ky) (V : List (Ky × ByteArray)) : mdel a (vlv V) = vlv (mdel a V) := mdel_map Value.string a V
theorem vlv_put (a : Ky) (i : ByteArray) (V : List (Ky × ByteArray)) : mput a (.string i) (vlv V) = vlv (mput a i V) := mput_map Value.string a i V
theorem vlv_get (a : Ky) (V : List (Ky × ByteArray)) : mget a (vlv V) = (mget a V).map Value.string := mget_map Value.string a V
theorem mapV : Try.prog.underlying 70 = some (.map 23 9) := Try.underlying70
theorem zeroS (w : World) : (zeroValue 9).run Try.prog w = .ok (.string ⟨#[]⟩) w := by kernel_rfl
def EKy : Enc Ky := ⟨kyc, 4, fun _ => rfl, fun x u hu => by simp [kyc] at hu; rcases hu with rfl | rfl | rfl | rfl <;> rfl⟩
theorem TKy : SliceT Try.prog 44 23 (.agg #[.string ByteArray.empty, .string ByteArray.empty, .int .i64 0, .string ByteArray.empty]) 4 56 := ⟨Try.underlying44, by kernel_rfl, rfl, by decide⟩
def Kys (v : Value) (l : List Ky) : Assn := RecS EKy 23 v l

def cellsCa (s q m : Nat) (ttl : Int) : Array Value := #[.pointer (some ⟨s, 0, none⟩), .pointer (some ⟨q, 0, none⟩), .map (some m), .int .i64 ttl]
def CacheR (b : Nat) (c : CS) (n : Nat) : Assn :=
  ex fun p : Nat × Nat × Nat => blk b (.cells (cellsCa p.1 p.2.1 p.2.2 c.ttl) 72 (0, 0)) * (StoreV p.1 c.al c.kp c.mo c.T c.K * (QueueV p.2.1 c.L n * MapK kyV p.2.2 (vlv c.V)))

section
variable {k : Env} {w : World} {b n : Nat} {c : CS} {R : Assn}
theorem ca_open (h : Sat k w (CacheR b c n * R)) : ∃ s q m, Sat k w (blk b (.cells (cellsCa s q m c.ttl) 72 (0, 0)) * (StoreV s c.al c.kp c.mo c.T c.K * (QueueV q c.L n * (MapK kyV m (vlv c.V) * R)))) := by
  obtain ⟨⟨s, q, m⟩, h⟩ := Sat.ex.1 h
  simp only [star_assoc] at h
  exact ⟨s, q, m, h⟩
theorem ca_close {s q m : Nat} {l : List (Ky × Value)} {cs : Array Value} {al kp mo : Int} {T K : List KV} {L : List KA} (h : Sat k w (blk b (.cells cs 72 (0, 0)) * (StoreV s al kp mo T K * (QueueV q L n * (MapK kyV m l * R)))))
    (h0 : cs = cellsCa s q m c.ttl) (h1 : al = c.al) (h2 : kp = c.kp) (h3 : mo = c.mo) (h4 : T = c.T) (h5 : K = c.K) (h6 : L = c.L) (h7 : l = vlv c.V) : Sat k w (CacheR b c n * R) := by
  subst h0 h1 h2 h3 h4 h5 h6 h7
  exact Sat.ex.2 ⟨(s, q, m), by simp only [star_assoc]; exact h⟩
end

theorem cthere_any (w : World) (b m : Nat) (h : w.cell? ⟨b, 2, none⟩ = some (.map (some m))) :
    Calls Try.prog 47 #[.pointer (some ⟨b, 0, none⟩)] w fun e w' => e = .returned (.bool true) ∧ w = w' := by
  have hm := fun (w : World) (r : Option Nat) => run_neq_map_nil (P := Try.prog) w 70 _ _ r mapV
  go_enter Try.func47, Try.ntmps47
  go_wp2
  go_ret
  exact ⟨rfl, rfl⟩
theorem cthere_zero (w : World) (b : Nat) (h : w.cell? ⟨b, 2, none⟩ = some (.map none)) :
    Calls Try.prog 47 #[.pointer (some ⟨b, 0, none⟩)] w fun e w' => e = .returned (.bool false) ∧ w = w' := by
  have hm := fun (w : World) (r : Option Nat) => run_neq_map_nil (P := Try.prog) w 70 _ _ r mapV
  go_enter Try.func47, Try.ntmps47
  go_wp2
  go_ret
  exact ⟨rfl, rfl⟩
theorem cthere_nil (w : World) : Calls Try.prog 47 #[.pointer none] w fun e w' => e = .returned (.bool false) ∧ w = w' := by
  go_enter Try.func47, Try.ntmps47
  go_wp2
  go_ret
  exact ⟨rfl, rfl⟩

/-- A key goes, wherever it stands. -/
def cdrop (c : CS) (y : Ky) : CS := { c with T := dropV (textK y) c.T, K := dropV (textK y) c.K, L := qdrop (textK y) c.L, V := mdel y c.V }
def cdrops (ys : List Ky) (c : CS) : CS := ys.foldl cdrop c
theorem cdrops_snoc (ys : List Ky) (y : Ky) (c : CS) : cdrops (ys ++ [y]) c = cdrop (cdrops ys c) y := by simp [cdrops]

set_option maxRecDepth 100000 in
set_option maxHeartbeats 4000000 in
theorem forget_any (k : Env) (w : World) (R : Assn) (b n : Nat) (c : CS) (ys : List Ky) (v : Value) (hy : ∀ y ∈ ys, rightK y = true ∧ tiny y) (hn : n ≤ 1000000000) (hl : (ys.length : Int) ≤ 1073741824)
    (h : Sat k w (Strs v (ys.map textK) * (CacheR b c n * R))) :
    Calls Try.prog 50 #[.pointer (some ⟨b, 0, none⟩), v] w fun e w' => ∃ v', e = .returned v' ∧ Sat k w' (Kys v' ys * (Strs v (ys.map textK) * (CacheR b (cdrops ys c) n * R))) := by
  obtain ⟨va, vc, rfl⟩ := own_val h
  rw [List.length_map] at h ⊢
  have h0 : Sat k w (Kys (.slice none 0 0) (ys.take 0) * (Own 9 1 (.slice va ys.length vc) ys.length (strs (ys.map textK)) * (CacheR b (cdrops (ys.take 0) c) n * R))) := rec_nil (by
    unfold Strs at h
    rw [List.length_map] at h
    exact h)
  have HG : Hid (Strs (.slice va ys.length vc) (ys.map textK) = Own 9 1 (.slice va ys.length vc) ys.length (strs (ys.map textK))) := by
    unfold Hid Strs; rw [List.length_map]
  clear h
  go_enter Try.func50, Try.ntmps50
  go_wp2_with fail
  go_loopw [5, 7, 8, 9, 12] (fun v5 _ _ _ i wr => ∃ j : Nat, j ≤ ys.length ∧ i = .int .i64 j ∧ Sat k wr (Kys v5 (ys.take j) * (Own 9 1 (.slice va ys.length vc) ys.length (strs (ys.map textK)) * (CacheR b (cdrops (ys.take j) c) n * R)))) (fun _ _ _ _ i _ => ys.length - (intOf i).toNat)
  case atStart => exact ⟨0, Nat.zero_le _, rfl, h0⟩
  case round =>
    clear h0
    obtain ⟨j, hj, rfl, hr⟩ := hrel
    by_cases hlt : j < ys.length
    · obtain ⟨g, rfl, hg, dj⟩ := strs_get hr.swap j (by simpa using hlt)
      rw [List.getElem_map] at dj
      have hsn : ys.take (j + 1) = ys.take j ++ [ys[j]] := by rw [List.take_succ]; simp [hlt]
      have hyj := hy ys[j] (List.getElem_mem hlt)
      have htl : (ys.take j).length = j := by rw [List.length_take]; omega
      have HE : Hid (cdrops (ys.take (j + 1)) c = cdrop (cdrops (ys.take j) c) ys[j]) := by unfold Hid; rw [hsn, cdrops_snoc]
      have HSN := Lib.hid hsn
      have HTL := Lib.hid htl
      clear hsn htl
      generalize ys[j] = y at *
      obtain ⟨hy1, hy2⟩ := hyj
      have C1 := Lib.hid (parse_text k wr _ y hy2 hy1 hr)
      have hlt' : (j : Int) < ys.length := by omega
      obtain ⟨ua, uc, huv⟩ := rec_val hr
      rw [HTL.out] at huv
      subst huv
      generalize cdrops (ys.take j) c = c1 at *
      generalize hyt : ys.take j = yt at *
      have HYT := Lib.hid hyt
      clear hyt
      go_wp2_with (go_at_call 10; (with_reducible refine C1.out.mono ?_); rintro e w2 ⟨rfl, h2⟩; unfold kyV)
      have h3 := h2.alloc (.cells #[.string y.db, .string y.ro, .int .i64 y.fm, .string y.nm] 23)
      generalize w2.alloc (.cells #[.string y.db, .string y.ro, .int .i64 y.fm, .string y.nm] 23) = w3 at *
      generalize w2.heap.size = o8 at *
      obtain ⟨s, q, m, hs⟩ := ca_open h3.get4
      have c2 : w3.cell? ⟨b, 2, none⟩ = some (.map (some m)) := hs.cell 2
      have d0 : w3.cell? ⟨o8, 0, none⟩ = some (.string y.db) := hs.get5.cell 0
      have d1 : w3.cell? ⟨o8, 1, none⟩ = some (.string y.ro) := hs.get5.cell 1
      have d2 : w3.cell? ⟨o8, 2, none⟩ = some (.int .i64 y.fm) := hs.get5.cell 2
      have d3 : w3.cell? ⟨o8, 3, none⟩ = some (.string y.nm) := hs.get5.cell 3
      clear h2 h3 hr dj C1
      go_region_held3 (fun w' => w'.cell? ⟨b, 2, none⟩ = some (.map (some m)) ∧ w'.cell? ⟨o8, 0, none⟩ = some (.string y.db) ∧ w'.cell? ⟨o8, 1, none⟩ = some (.string y.ro) ∧ w'.cell? ⟨o8, 2, none⟩ = some (.int .i64 y.fm) ∧ w'.cell? ⟨o8, 3, none⟩ = some (.string y.nm)) (first | exact ⟨c2, d0, d1, d2, d3⟩ | exact ⟨(h4.swap.cell 2).trans rfl, (h4.get5.cell 0).trans rfl, (h4.get5.cell 1).trans rfl, (h4.get5.cell 2).trans rfl, (h4.get5.cell 3).trans rfl⟩ | fail) ((refine step_delete_sat KKey mapV hs.drew.get4 y (.tmp 24) (.tmp 25) rfl rfl rfl rfl ?_; intro w4 h4))
      rw [vlv_del] at h4
      clear c2 d0 d1 d2 d3 hs
      have c1' : w4.cell? ⟨b, 1, none⟩ = some (.pointer (some ⟨q, 0, none⟩)) := h4.swap.cell 1
      go_wp2_with (first | (go_at_call 79; (with_reducible refine (qdrop_any k w4 _ q n c1.L (textK y) (by omega) h4.get4).mono ?_); rintro e w5 ⟨rfl, h5⟩; have c0' : w5.cell? ⟨b, 0, none⟩ = some (.pointer (some ⟨s, 0, none⟩)) := h5.get3.cell 0) | (go_at_call 74; (with_reducible refine (drop_any k w5 _ s c1.al c1.kp c1.mo c1.T c1.K (textK y) h5.get4).mono ?_); rintro e w6 ⟨rfl, h6⟩; have d0 : w6.cell? ⟨o8, 0, none⟩ = some (.string y.db) := h6.get5.cell 0; have d1 : w6.cell? ⟨o8, 1, none⟩ = some (.string y.ro) := h6.get5.cell 1; have d2 : w6.cell? ⟨o8, 2, none⟩ = some (.int .i64 y.fm) := h6.get5.cell 2; have d3 : w6.cell? ⟨o8, 3, none⟩ = some (.string y.nm) := h6.get5.cell 3; have hK := h6.get6) | (at_builtin; refine wpList_append_sat TKy (hK.alloc' _) (.tmp 38) (.tmp 40) _ 1 1 (kyc y) rfl rfl rfl rfl rfl (fun _ => ⟨_, rfl, new_cells_at _ _ _ _ (by first | rfl | simp)⟩) (EKy.one y) (by simp only [HTL.out, maxLen]; omega) (by rw [HTL.out]; omega) ?_; intro a7 c7 w7 h7))
      have h8 : Sat k w7 (Kys (.slice a7 (yt.length + 1) c7) (ys.take (j + 1)) * (Own 9 1 (.slice (some ⟨g, 0, none⟩) ys.length vc) ys.length (strs (ys.map textK)) * (CacheR b (cdrops (ys.take (j + 1)) c) n * R))) := by
        rw [HE.out, HSN.out]
        have h7' := (rec_push (E := EKy) h7).drop6
        have := ca_close (c := cdrop c1 y) (b := b) (n := n) (s := s) (q := q) (m := m) (cs := cellsCa s q m c1.ttl) (al := c1.al) (kp := c1.kp) (mo := c1.mo) (T := dropV (textK y) c1.T) (K := dropV (textK y) c1.K) (L := qdrop (textK y) c1.L) (l := vlv (mdel y c1.V)) (h7'.of_eq (show _ = blk b (.cells (cellsCa s q m c1.ttl) 72 (0, 0)) * (StoreV s c1.al c1.kp c1.mo (dropV (textK y) c1.T) (dropV (textK y) c1.K) * (QueueV q (qdrop (textK y) c1.L) n * (MapK kyV m (vlv (mdel y c1.V)) * (RecS EKy 23 (.slice a7 (yt.length + 1) c7) (yt ++ [y]) * (Own 9 1 (.slice (some ⟨g, 0, none⟩) ys.length vc) ys.length (strs (ys.map textK)) * R))))) by ac_rfl)) rfl rfl rfl rfl rfl rfl rfl rfl
        exact this.of_eq (by unfold Kys; ac_rfl)
      go_roundw
      case rel => exact ⟨j + 1, by omega, by go_num, h8⟩
      case measure => simp [intOf]; omega
    · have hjl : j = ys.length := by omega
      subst hjl
      rw [List.take_length] at hr
      go_wp2_with fail
      go_ret
      rw [HG.out]
      exact ⟨_, rfl, hr⟩

end Go.Proofs.Ytlilogcojeoelaa
