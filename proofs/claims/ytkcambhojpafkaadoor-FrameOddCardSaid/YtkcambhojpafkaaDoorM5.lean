/- Layer 15, the plain law: the example. -/
import Derived.Test.YtkcambhojpafkaaDoorM4
import Derived.Test.YtkcambhojpafkaaDoorS13
set_option linter.unusedSimpArgs false
set_option linter.unusedVariables false
namespace Go.Proofs.YtkcambhojpafkaaDoor
open Go
instance (s c t budget : Int) (q : Nat) : Decidable (Fit s c t budget q) := by unfold Fit same5; infer_instance
theorem awake_fits : ∀ q, q < 160 → 5 ≤ q → Fit 0 1 7 4 q := by decide +kernel
theorem awake_stops : ¬ Fit 0 1 7 4 160 := by decide +kernel
theorem awake_pos : same5 (lit5 0 0 1 0 0) (posF 0 1 7 160) := by unfold same5; decide +kernel
theorem shares_awake : Shares 0 1 7 4 (lit5 0 0 1 0 0) := ⟨160, by omega, awake_pos, fun q h1 h2 => awake_fits q h2 h1, Or.inl awake_stops⟩
/-- What the example's log is told. -/
def awakeM : List (Nat → Int) := [lit5 1 0 0 0 0, lit5 2 0 0 0 0, lit5 1 0 0 0 0]
theorem top_awake : TopOf awakeM (lit5 1 0 0 0 0) 2 := Or.inr ⟨⟨lit5 1 0 0 0 0, by simp [awakeM], same5.refl _, by decide +kernel⟩, fun y hy => by
  simp only [awakeM, List.mem_cons, List.not_mem_nil, or_false] at hy
  rcases hy with rfl | rfl | rfl
  · exact Or.inr ⟨by decide +kernel, more5_same (same5.refl _)⟩
  · exact Or.inl (by decide +kernel)
  · exact Or.inr ⟨by decide +kernel, more5_same (same5.refl _)⟩⟩
end Go.Proofs.YtkcambhojpafkaaDoor
