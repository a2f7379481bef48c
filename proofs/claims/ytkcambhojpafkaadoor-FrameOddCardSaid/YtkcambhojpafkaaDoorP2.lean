/- The share laws: the table of widths is laid; the door. -/
import Derived.Test.YtkcambhojpafkaaDoorP1
import Derived.Test.YtkcambhojpafkaaDoorS1
import Derived.Test.YtkcambhojpafkaaDoorTie
set_option linter.unusedSimpArgs false
set_option linter.unusedVariables false
namespace Go.Proofs.YtkcambhojpafkaaDoor
open Go Go.ChangeShapes Go.WideShapes Go.ChangeAt Go.RowKit

theorem own : ownKnob Tryd.prog.godebug = none := by kernel_rfl
theorem laidOut : laidOutB Tryd.prog = true := by kernel_rfl
theorem widthsMet {W : World} (h : laidMetH Tryd.prog [("spinet/mode.widths", Rows.laid_spinet_mode_widths)] W) : Wid W := by
  rw [MakeChecks.laidMetH_plain _ _ _ (by kernel_rfl)] at h
  obtain ⟨ps, ⟨g0, t0, cs0, f0, p0, q0, hg0, ht0, hv0, hd0, _, _⟩, _, _⟩ := h
  have gw : Tryd.prog.globalNamed "spinet/mode.widths" = some 0 := by kernel_rfl
  have tw : (Tryd.prog.globals[0]?).map (·.type) = some 25 := by kernel_rfl
  obtain rfl := Option.some.inj (gw.symm.trans hg0)
  obtain rfl := Option.some.inj (tw.symm.trans ht0)
  intro k hk
  exact cells_of_laid (zs := widthL) gw Tryd.underlying25 Tryd.underlying3 (by kernel_rfl) hv0 hd0 k hk
theorem widthsDoor (os : Os) (args : Array Value) : laidMetH Tryd.prog [("spinet/mode.widths", Rows.laid_spinet_mode_widths)] ((World.doorLaid Tryd.prog 400 os).forCall (fun _ _ => 0) ⟨#[], args, []⟩).memory :=
  laidMetH_of_parts3 (fuel := 8) (laidMet_of_run' 8 (by kernel_rfl) (by kernel_rfl)) (by kernel_rfl) (by kernel_rfl)
end Go.Proofs.YtkcambhojpafkaaDoor
