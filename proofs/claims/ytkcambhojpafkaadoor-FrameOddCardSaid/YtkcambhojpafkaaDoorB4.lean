/- A part of a block, read as one value, in a region that draws its order and is quiet. Over any program. -/
import Derived.Test.YtkcambhojpafkaaDoorB1
import Derived.BigQuiet
import Derived.Maps.RangeWalk
set_option linter.unusedSimpArgs false
set_option linter.unusedVariables false
namespace Go.Proofs.YtkcambhojpafkaaDoor
open Go Go.RowKit

theorem quiet_load_part {P : Program} {o : Oper} {a : Act} {C : World → Prop} {K : Act → Prop} (t : TypeId) (x : Operand) (ho : o.op = .load t x)
    (b off n : Nat) (hx : a.eval x = .pointer (some ⟨b, off, none⟩)) (g : Nat → Value) (d : TypeDesc) (hc : ∀ w, C w → ∀ j, j < n → w.cell? ⟨b, off + j, none⟩ = some (g j))
    (hu : P.underlying t = some d) (hd : (match d with | .struct _ | .array _ _ => true | _ => false) = true) (hi : (P.info? t).map (·.size) = some n)
    (hk : K (a.put o.dst (.agg (mkRow n g)))) : o.quiet P a C K := by
  refine ⟨_, fun w hw => ?_, hk⟩
  unfold Oper.quietAt execOp
  simp only [ho, hx, Instr.loadAt, Instr.sureAddr, Sem.run_bind, Sem.run_pure, Result.andThen_ok, run_loadVar_part (hc w hw) hu hd hi]
  exact ⟨rfl, rfl⟩
end Go.Proofs.YtkcambhojpafkaaDoor
