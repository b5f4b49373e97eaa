/- Contract of sets.sorted. -/
import Derived.Test.YtoeepbjnbgpmpaaSetsE
namespace Go.Proofs.Ytoeepbjnbgpmpaa
set_option linter.all false
open Go Go.RowKit

theorem del_key {V : Type} (a : ByteArray) : ∀ (l : List (ByteArray × V)), (l.map (·.1)).Nodup → ∀ x, x ∈ (mdel a l).map (·.1) ↔ x ∈ l.map (·.1) ∧ x ≠ a
  | [], _, x => by simp [mdel]
  | (b, u) :: r, h, x => by
    rw [List.map_cons, List.nodup_cons] at h
    have ih := del_key a r h.2 x
    rw [mdel]
    by_cases hb : b = a
    · rw [if_pos hb, List.map_cons, List.mem_cons]
      constructor
      · intro q
        exact ⟨.inr q, by rintro rfl; exact h.1 (hb ▸ q)⟩
      · rintro ⟨q | q, hne⟩
        · exact absurd (q.trans hb) hne
        · exact q
    · rw [if_neg hb, List.map_cons, List.map_cons, List.mem_cons, List.mem_cons, ih]
      constructor
      · rintro (rfl | ⟨q, hne⟩)
        · exact ⟨.inl rfl, hb⟩
        · exact ⟨.inr q, hne⟩
      · rintro ⟨q | q, hne⟩
        · exact .inl q
        · exact .inr ⟨q, hne⟩
theorem del_less {V : Type} (a : ByteArray) : ∀ (l : List (ByteArray × V)), a ∈ l.map (·.1) → (mdel a l).length < l.length
  | [], h => by simp at h
  | (b, u) :: r, h => by
    rw [mdel]
    by_cases hb : b = a
    · rw [if_pos hb]; simp
    · rw [if_neg hb, List.length_cons, List.length_cons]
      rw [List.map_cons, List.mem_cons] at h
      have := del_less a r (h.resolve_left (fun q => hb q.symm))
      omega
theorem hents_del (a : ByteArray) (l : List (ByteArray × Int)) : mdel a (hents l) = hents (mdel a l) := mdel_map (Value.int .i64) a l
theorem hents_keys (l : List (ByteArray × Int)) : (hents l).map (·.1) = l.map (·.1) := by unfold hents; rw [List.map_map]; rfl
/-- The least of those that have come. -/
structure Least (K lf : List ByteArray) (some : Bool) (best : ByteArray) : Prop where
  no : some = false → ∀ x ∈ K, x ∈ lf
  yes : some = true → best ∈ K ∧ ∀ x ∈ K, x ∈ lf ∨ x = best ∨ ltB best x = true
theorem Least.step {K lf lf2 : List ByteArray} {some : Bool} {best s : ByteArray} (h : Least K lf some best) (hs : s ∈ K) (hp : ∀ x, x ∈ lf → x = s ∨ x ∈ lf2) :
    Least K lf2 true (if (!some || ltB s best) = true then s else best) := by
  refine ⟨(by intro q; cases q), fun _ => ?_⟩
  by_cases hb : (!some || ltB s best) = true
  · rw [if_pos hb]
    refine ⟨hs, fun x hx => ?_⟩
    cases some with
    | false =>
      rcases hp x (h.no rfl x hx) with q | q
      · exact .inr (.inl q)
      · exact .inl q
    | true =>
      have hlt : ltB s best = true := by simpa using hb
      rcases (h.yes rfl).2 x hx with q | q | q
      · rcases hp x q with r | r
        · exact .inr (.inl r)
        · exact .inl r
      · subst q; exact .inr (.inr hlt)
      · exact .inr (.inr (lt_trans hlt q))
  · rw [if_neg hb]
    cases some with
    | false => exact absurd rfl hb
    | true =>
      refine ⟨(h.yes rfl).1, fun x hx => ?_⟩
      rcases (h.yes rfl).2 x hx with q | q | q
      · rcases hp x q with r | r
        · subst r
          by_cases hxb : x = best
          · exact .inr (.inl hxb)
          · have hnl : ltB x best = false := by cases hq : ltB x best with
              | false => rfl
              | true => rw [hq] at hb; exact absurd rfl hb
            rcases lt_total hxb with q | q
            · rw [hnl] at q; cases q
            · exact .inr (.inr q)
        · exact .inl r
      · exact .inr (.inl q)
      · exact .inr (.inr q)
theorem ins_len (l : List ByteArray) (s : ByteArray) : (insB l s).length ≤ l.length + 1 := by
  unfold insB
  split
  · omega
  · have e : (l.takeWhile (fun x => ltB x s) ++ l.dropWhile (fun x => ltB x s)).length = l.length := by rw [List.takeWhile_append_dropWhile]
    rw [List.length_append] at e
    rw [List.length_append, List.length_cons]
    omega
theorem put_len : ∀ (more l : List ByteArray), (putL l more).length ≤ l.length + more.length
  | [], l => Nat.le_refl _
  | x :: r, l => by
    have h1 := put_len r (insB l x)
    have h2 := ins_len l x
    rw [putL_cons, List.length_cons]
    omega
theorem sort_len (S : List ByteArray) : (sortL S).length ≤ S.length := by
  have := put_len S []
  simpa [sortL] using this
abbrev cNone : ByteArray := ⟨#[]⟩

set_option maxRecDepth 100000 in
set_option maxHeartbeats 8000000 in
theorem sorted_any (k : Env) (w : World) (R : Assn) (m : Nat) (L : List (ByteArray × Int)) (hn : L.length ≤ 2000000000000) (h : Sat k w (MapK Value.string m (hents L) * R)) :
    Calls Try.prog 78 #[.map (some m)] w fun e w' => ∃ v c, e = .returned (.slice v (sortL (L.map (·.1))).length c) ∧ Sat k w' (Strs (.slice v (sortL (L.map (·.1))).length c) (sortL (L.map (·.1))) * R) := by
  obtain ⟨total, hx0⟩ : ∃ total, sortL (L.map (·.1)) = total := ⟨_, rfl⟩
  have htl : total.length ≤ 2000000000000 := by
    have := sort_len (L.map (·.1))
    rw [hx0, List.length_map] at this
    omega
  have HX : Hid ([] ++ sortL (L.map (·.1)) = total) := hx0
  rw [hx0]
  have h0 : Sat k w (Strs (.slice none 0 0) [] * (MapK Value.string m (hents L) * R)) := own_nil h
  have HTL := Lib.hid htl
  clear hx0 h hn htl
  go_enter Try.func78, Try.ntmps78
  go_wp2_with fail
  go_loopg [3] L.length (fun gk s3 wr => ∃ (L' : List (ByteArray × Int)) (av : Option Addr) (ac : Nat) (acc : List ByteArray), gk = L'.length ∧ s3 = .slice av acc.length ac ∧ Hid (acc ++ sortL (L'.map (·.1)) = total) ∧ Sat k wr (Strs (.slice av acc.length ac) acc * (MapK Value.string m (hents L') * R)))
  case atStart => exact ⟨L, none, 0, [], rfl, rfl, HX, h0⟩
  case round =>
    clear h0 HX
    obtain ⟨L', av, ac, acc, rfl, rfl, HT, hs⟩ := hrel
    have hlm := run_len_map (P := Try.prog) 3 mapHa hs.swap
    have hnd : (L'.map (·.1)).Nodup := by have := map_nodup hs.swap; rwa [hents_keys] at this
    rw [show (hents L').length = L'.length by simp [hents]] at hlm
    by_cases h0 : 0 < L'.length
    · have h0' : (0 : Int) < L'.length := by omega
      have HND := Lib.hid hnd
      clear hnd
      have HSL := Lib.hid hs.swap
      go_wp2_with (at_range; refine wpList_range_sat rfl (.tmp 10) rfl mapHa rfl (kv := Value.string) (l := hents L') HSL.out ?_; intro gm w1 h1)
      go_frame
      go_loopg [4, 5] L'.length (fun gk s4 s5 wr => ∃ (lf : List (ByteArray × Value)) (so : Bool) (best : ByteArray), gk = lf.length ∧ s4 = .string best ∧ s5 = .bool so ∧ Hid (lf.Sublist (hents L')) ∧ Hid (Least (L'.map (·.1)) (lf.map (·.1)) so best) ∧ Sat k wr (RangeK Value.string m gm (hents L') lf * (Strs (.slice av acc.length ac) acc * R)))
      case atStart =>
        refine ⟨hents L', false, cNone, by simp [hents], rfl, rfl, List.Sublist.refl _, ?_, h1⟩
        rw [hents_keys]
        exact ⟨fun _ x hx => hx, (by intro q; cases q)⟩
      case round =>
        clear h1 hs HSL hlm
        obtain ⟨lf, so, best, rfl, rfl, rfl, HS, HL, hr⟩ := hrel
        go_wp2_with (at_next; refine wpList_next_sat rfl (.tmp 11) rfl rfl hr ?_ ?_)
        · rintro rfl
          have hso : so = true := by
            cases so with
            | true => rfl
            | false =>
              have hq := HL.out.no rfl
              cases L' with
              | nil => simp at h0
              | cons y r => exact absurd (hq y.1 (by simp)) (by simp)
          subst hso
          obtain ⟨hbest, hmin⟩ := HL.out.yes rfl
          have hleast : sortL (L'.map (·.1)) = best :: sortL ((mdel best L').map (·.1)) := by
            refine sort_least _ _ best hbest (fun x hx hne => ?_) (fun x => del_key best L' HND.out x)
            rcases hmin x hx with q | q | q
            · simp at q
            · exact absurd q hne
            · exact q
          have HN : Hid ((acc ++ [best]) ++ sortL ((mdel best L').map (·.1)) = total) := by
            unfold Hid; rw [← HT.out, hleast]; simp
          have hal : acc.length + 1 ≤ 2000000000000 := by
            have h1 := congrArg List.length HN.out
            have h2 := HTL.out
            rw [List.length_append, List.length_append] at h1
            simp only [List.length_singleton] at h1
            omega
          have HLS := Lib.hid (del_less best L' hbest)
          have h3 := range_map hr
          clear hr hbest hmin hleast HL HT HS
          go_wp2_with (first | (at_delete; refine wpList_delete_sat KStrT mapHa h3 best (.tmp 24) (.tmp 25) rfl rfl rfl rfl ?_; intro w4 h4; rw [hents_del] at h4) | (at_builtin; refine wpList_append_sat TStrs (h4.swap.alloc' _) (.tmp 26) (.tmp 28) _ 1 1 [.string best] rfl rfl rfl rfl rfl (fun _ => ⟨_, rfl, new_cells_at _ _ _ _ (by first | rfl | simp)⟩) (strs_one [best]) (by simp [maxLen]; omega) (by omega) ?_; intro a5 c5 w5 h5))
          go_roundg (mdel best L').length
          case rel => exact ⟨mdel best L', a5, c5, acc ++ [best], rfl, by simp, HN, by rw [List.length_append]; exact strs_push h5⟩
          case measure => exact HLS.out
        · intro j hj w1 h1 hen
          have hmem : lf[j] ∈ hents L' := HS.out.subset (List.getElem_mem hj)
          have hkey : lf[j].1 ∈ L'.map (·.1) := by rw [← hents_keys]; exact List.mem_map.2 ⟨_, hmem, rfl⟩
          have hp : ∀ x, x ∈ lf.map (·.1) → x = lf[j].1 ∨ x ∈ (lf.eraseIdx j).map (·.1) := by
            intro x hx
            have hperm : (lf[j].1 :: (lf.eraseIdx j).map (·.1)).Perm (lf.map (·.1)) := (perm_erase lf j hj).map (fun x : ByteArray × Value => x.1)
            rw [← hperm.mem_iff, List.mem_cons] at hx
            exact hx
          have HL2 := Lib.hid (HL.out.step hkey hp)
          have hsub2 : Hid ((lf.eraseIdx j).Sublist (hents L')) := (List.eraseIdx_sublist lf j).trans HS.out
          have hlen : (lf.eraseIdx j).length < lf.length := by rw [List.length_eraseIdx_of_lt hj]; omega
          generalize lf.eraseIdx j = lf2 at *
          generalize lf[j] = y at *
          obtain ⟨s, sv⟩ := y
          simp only at hen HL2 ⊢
          have HLEN := Lib.hid hlen
          have hlt : Op.bytesLess s.toList best.toList = ltB s best := rfl
          clear hr hmem hkey hp HL HS hlen
          cases so with
          | false =>
            simp only [Bool.not_false, Bool.true_or, if_true] at HL2
            clear hlt
            go_wp2_with fail
            go_roundg lf2.length
            case rel => exact ⟨lf2, true, s, rfl, rfl, rfl, hsub2, HL2, h1⟩
            case measure => exact HLEN.out
          | true =>
            cases hq : ltB s best with
            | true =>
              rw [hq] at HL2 hlt
              simp only [Bool.or_true, if_true] at HL2
              clear hq
              go_wp2_with fail
              go_roundg lf2.length
              case rel => exact ⟨lf2, true, s, rfl, rfl, rfl, hsub2, HL2, h1⟩
              case measure => exact HLEN.out
            | false =>
              rw [hq] at HL2 hlt
              have HL3 : Hid (Least (L'.map (·.1)) (lf2.map (·.1)) true best) := HL2
              clear hq HL2
              go_wp2_with fail
              go_roundg lf2.length
              case rel => exact ⟨lf2, true, best, rfl, rfl, rfl, hsub2, HL3, h1⟩
              case measure => exact HLEN.out
    · have hz : L' = [] := by cases L' with
        | nil => rfl
        | cons a r => simp at h0
      subst hz
      have hres : total = acc := by rw [← HT.out]; simp [sortL, putL]
      subst hres
      clear HT h0 hnd
      go_wp2_with fail
      go_ret
      exact ⟨_, _, rfl, hs.swap.drop⟩

end Go.Proofs.Ytoeepbjnbgpmpaa
