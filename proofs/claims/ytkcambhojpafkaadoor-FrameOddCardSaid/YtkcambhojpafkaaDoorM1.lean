/- Plain numbers of layers 5 and 14: modes, bands, widths, slopes. No program in sight. -/
import Derived.RowKit
set_option linter.unusedSimpArgs false
set_option linter.unusedVariables false
namespace Go.Proofs.YtkcambhojpafkaaDoor
open Go

def mRight (s c : Int) : Bool := decide (0 ≤ s) && decide (s < 3) && decide (1 ≤ c) && decide (c ≤ 2)
theorem mRight_iff {s c : Int} : mRight s c = true ↔ 0 ≤ s ∧ s < 3 ∧ 1 ≤ c ∧ c ≤ 2 := by
  unfold mRight; simp [and_assoc]
theorem mRight_not {s c : Int} (h : ¬ (0 ≤ s ∧ s < 3 ∧ 1 ≤ c ∧ c ≤ 2)) : mRight s c = false := by
  cases hr : mRight s c with
  | false => rfl
  | true => exact (h (mRight_iff.1 hr)).elim
def mBands (s c : Int) : Int := if mRight s c then 3 + s else 0
theorem mBands_bd (s c : Int) : 0 ≤ mBands s c ∧ mBands s c ≤ 5 := by
  unfold mBands; cases hr : mRight s c with
  | false => simp
  | true => have := mRight_iff.1 hr; simp; omega
def mHas (s c b : Int) : Bool := decide (0 ≤ b) && decide (b < mBands s c)
theorem mHas_iff {s c b : Int} : mHas s c b = true ↔ 0 ≤ b ∧ b < mBands s c := by unfold mHas; simp
def widthL : List Int := [2, 2, 4, 8, 16]
def mWidth (s c b : Int) : Int := if mHas s c b then widthL.getD b.toNat 0 else 0
theorem widthL_bd (k : Nat) : 0 ≤ widthL.getD k 0 ∧ widthL.getD k 0 ≤ 16 := by
  rcases k with _ | _ | _ | _ | _ | k <;> simp [widthL]
theorem mWidth_bd (s c b : Int) : 0 ≤ mWidth s c b ∧ mWidth s c b ≤ 16 := by
  unfold mWidth; split
  · exact widthL_bd _
  · omega
def trimOf (t : Int) : Int := min (max t 0) 7
theorem trimOf_bd (t : Int) : 0 ≤ trimOf t ∧ trimOf t ≤ 7 := by unfold trimOf; omega
def slope (s c t b : Int) : Int := if mWidth s c b = 0 then 0 else 64 / mWidth s c b + (8 - trimOf t) * b
theorem div64_bd {m : Int} (h : 0 ≤ m) : 0 ≤ 64 / m ∧ 64 / m ≤ 64 :=
  ⟨Int.ediv_nonneg (by omega) h, Int.ediv_le_self _ (by omega)⟩
end Go.Proofs.YtkcambhojpafkaaDoor
