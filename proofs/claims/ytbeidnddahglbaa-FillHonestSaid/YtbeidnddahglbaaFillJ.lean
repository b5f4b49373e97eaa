/- Package fill: one key alone: the other calls. -/
import Derived.Test.YtbeidnddahglbaaFillI
namespace Go.Proofs.Ytbeidnddahglbaa
set_option linter.all false
open Go Go.RowKit

theorem stampS_rd {k : Env} {w : World} {s : StM} {X0 : Assn} (h : Sat k w (stampS s * X0)) (X : Assn) : Rd k (stampS s * X) s.a s.names ∧ RdI k (stampS s * X) s.i s.nums := by
  have he : ∀ Y, stampS s * Y = Strs (.slice s.a s.names.length s.ac) s.names * (Ints (.slice s.i s.nums.length s.ic) s.nums * Y) := by
    intro Y; unfold stampS; ac_rfl
  rw [he] at h
  exact ⟨(rd_own_any h _).mono fun w' h' => he X ▸ h', (rdi_own_any h.swap _).mono fun w' h' => (he X ▸ h').swap⟩
theorem fresh_now {V : VS} {s : StM} {l : List ByteArray} (h1 : s.ep = V.ep) (h2 : s.names = l) (h3 : s.nums = l.map V.N) : freshV V s.ep s.names s.nums := ⟨h1, by rw [h3, h2]⟩

section
variable (k : Env) (w : World) (R : Assn) (b n nv : Nat) (al kp mo ttl : Int) (y : Ky) (V : VS) (o : Option Kept)
theorem fo_new (h1 : 1 ≤ al) (h2 : al ≤ 1073741824) (h3 : 0 ≤ kp) (h4 : kp ≤ al) (h5 : 1 ≤ mo) (h6 : mo ≤ al) (t1 : 1 ≤ ttl) (t2 : ttl ≤ 549755813888) (h : Sat k w R) :
    Calls Try.prog 7 #[.int .i64 al, .int .i64 kp, .int .i64 mo, .int .i64 ttl] w fun e w' => ∃ b, e = .returned (.tuple #[pq b, .int .i64 0]) ∧ Sat k w' (FO b 0 0 al kp mo ttl y VS.new none * R) :=
  (fnew_any k w R al kp mo ttl h1 h2 h3 h4 h5 h6 t1 t2 h).mono fun e w' ⟨b, p, q⟩ => ⟨b, p, fo_close q rfl rfl⟩
theorem fo_start (a : Option Addr) (cap : Nat) (l : List ByteArray) (hr : Rd k R a l) (hn : l.length ≤ 1000000000) (h : Sat k w (FO b n nv al kp mo ttl y V o * R)) :
    Calls Try.prog 10 #[pq b, .slice a l.length cap] w fun e w' => ∃ s : StM, e = .returned s.v ∧ s.ep = V.ep ∧ s.names = l ∧ s.nums = l.map V.N ∧ Sat k w' (stampS s * (FO b n nv al kp mo ttl y V o * R)) := by
  obtain ⟨c, S, h1, h2, h3⟩ := fo_open h
  exact (fstart_any k w R b n nv c V S a cap l hr hn h3).mono fun e w' ⟨s, p1, p2, p3, p4, q⟩ => ⟨s, p1, p2, p3, p4, (fo_close q.swap h1 h2).swap⟩
theorem fo_write (cl : Int) (a : Option Addr) (cap : Nat) (l : List ByteArray) (hr : Rd k R a l) (hn : nv + l.length + l.length < 1000000000) (h : Sat k w (FO b n nv al kp mo ttl y V o * R)) :
    Calls Try.prog 12 #[pq b, .int .i64 cl, .slice a l.length cap] w fun e w' => e = .returned (.tuple #[]) ∧ Sat k w' (FO b n (nv + l.length + 1) al kp mo ttl y ((V.dirty cl l).bump l) o * R) := by
  obtain ⟨c, S, h1, h2, h3⟩ := fo_open h
  exact (fwrite_any k w R b n nv c V S cl a cap l hr hn h3).mono fun e w' ⟨p, q⟩ => ⟨p, fo_close q h1 h2⟩
theorem fo_commit (cl : Int) (a : Option Addr) (cap : Nat) (l : List ByteArray) (hr : Rd k R a l) (hn : nv + l.length < 1000000000) (h : Sat k w (FO b n nv al kp mo ttl y V o * R)) :
    Calls Try.prog 14 #[pq b, .int .i64 cl, .slice a l.length cap] w fun e w' => e = .returned (.tuple #[]) ∧ Sat k w' (FO b n (nv + 1) al kp mo ttl y ((V.bump l).clean cl) o * R) := by
  obtain ⟨c, S, h1, h2, h3⟩ := fo_open h
  exact (fcommit_any k w R b n nv c V S cl a cap l hr hn h3).mono fun e w' ⟨p, q⟩ => ⟨p, fo_close q h1 h2⟩
theorem fo_all (hn : nv < 1000000000) (h : Sat k w (FO b n nv al kp mo ttl y V o * R)) :
    Calls Try.prog 15 #[pq b] w fun e w' => e = .returned (.tuple #[]) ∧ Sat k w' (FO b n (nv + 1) al kp mo ttl y V.all o * R) := by
  obtain ⟨c, S, h1, h2, h3⟩ := fo_open h
  exact (fall_any k w R b n nv c V S hn h3).mono fun e w' ⟨p, q⟩ => ⟨p, fo_close q h1 h2⟩
theorem fo_size (q : Kept) (hy1 : rightK y = true) (hy2 : tiny y) (h : Sat k w (FO b n nv al kp mo ttl y V (some q) * R)) :
    Calls Try.prog 17 #[pq b] w fun e w' => e = .returned (.tuple #[.int .i64 1, .int .i64 (sizeK y q.v)]) ∧ Sat k w' (FO b n nv al kp mo ttl y V (some q) * R) := by
  obtain ⟨c, S, h1, h2, h3⟩ := fo_open h
  obtain ⟨s, hS, p1, p2, p3, p4, p5, p6⟩ := id h2
  have hp := sizeK_pos (v := q.v) hy1
  obtain ⟨T, K, hT, hc⟩ := id h1
  rcases hT with ⟨rfl, rfl⟩ | ⟨rfl, rfl⟩
  · have hk : c.K = [] := by rw [hc]
    have ht : c.T = [(textK y, sizeK y q.v)] := by rw [hc]
    refine (fsize_any k w R b n nv c V S [] [y] (by simp) (by simp [hy1, hy2]) (by rw [hk]; rfl) (by rw [ht]; rfl) (by simp) (by simp) (by rw [hk, ht]; simp only [sumV]; omega) h3).mono fun e w' ⟨p, q⟩ => ⟨?_, fo_close q h1 h2⟩
    rw [p, hk, ht]; simp [sumV]
  · have hk : c.K = [(textK y, sizeK y q.v)] := by rw [hc]
    have ht : c.T = [] := by rw [hc]
    refine (fsize_any k w R b n nv c V S [y] [] (by simp [hy1, hy2]) (by simp) (by rw [hk]; rfl) (by rw [ht]; rfl) (by simp) (by simp) (by rw [hk, ht]; simp only [sumV]; omega) h3).mono fun e w' ⟨p, q⟩ => ⟨?_, fo_close q h1 h2⟩
    rw [p, hk, ht]; simp [sumV]
end

end Go.Proofs.Ytbeidnddahglbaa
