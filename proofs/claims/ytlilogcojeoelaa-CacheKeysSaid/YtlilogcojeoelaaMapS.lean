/- A store into a map, as a step of a region that draws. -/
import Derived.Test.YtlilogcojeoelaaMap
namespace Go.Proofs.Ytlilogcojeoelaa
set_option linter.all false
open Go Go.RowKit

theorem step_update_sat {K : Type} [DecidableEq K] {kv : K → Value} {k : Env} {w : World} {b : Nat} {l : List (K × Value)} {R : Assn} {P : Program} {mt kt et : TypeId} {ops : Array Oper} {o : Oper} {act : Act} {Q : Exit → Act → World → Prop}
    {K' : Act → World → Prop} {E : Prop} (T : KeyT P kt kv) (hm : P.underlying mt = some (.map kt et)) (h : Sat k w (MapK kv b l * R)) (a : K) (v : Value) (m x y : Operand) (hgd : o.guard = none) (ho : o.op = Op.mapUpdate mt m x y)
    (e1 : act.eval m = .map (some b)) (e2 : act.eval x = kv a) (e3 : act.eval y = v)
    (hK : ∀ w', Sat k w' (MapK kv b (mput a v l) * R) → K' (act.put o.dst undef) w') : if Region.wanted o (yielded ops act.tmps) = true then Oper.wp P o act w K' Q else E := by
  have hw : Region.wanted o (yielded ops act.tmps) = true := by simp [Region.wanted, hgd]
  rw [if_pos hw]
  obtain ⟨w', hr, h2⟩ := run_update_sat T hm h a v
  unfold Oper.wp
  simp [execOp, ho, e1, e2, e3, hr, Result.andThen]
  exact hK w' h2

end Go.Proofs.Ytlilogcojeoelaa
