/-
  DERIVED. GIVEN WITH THE SEED: THE PROGRAM's TIES (one call each: nine closed facts by the kernel) AND EACH ROW's TIE, after the 31st guide's Derived/Test/Toyas{Tie, Card}.lean. No idea stands in it: it is a product of the set-up. Laid BY PROGRAM, IN A SANDBOX (cutbox-door.mjs). By AI agents, Wed Nov 11 2026. No macro, syntax, notation, axiom, sorry.
-/
import Derived.Test.YtkcambhojpafkaaDoorRows
import Derived.LaidByTextLater
import Derived.SevenTiedAt
import Derived.LaidSub
import Derived.LaidOnce
namespace Go.Proofs.YtkcambhojpafkaaDoor
open Go
set_option maxRecDepth 100000
theorem seatTie1 : Tryd.prog.laidByTextLater [("spinet/conceal.fades", Rows.laid_spinet_conceal_fades), ("spinet/mode.widths", Rows.laid_spinet_mode_widths), ("spinet/sym.widths", Rows.laid_spinet_sym_widths), ("spinet/cis.cosines", Rows.laid_spinet_cis_cosines)] [.data, .data, .data, .data] true :=
  Program.laidByTextLater_by_one 29 8 66 (by kernel_rfl) (by kernel_rfl) (by kernel_rfl) (by kernel_rfl) (by kernel_rfl) (by kernel_rfl) (fun _ _ => by kernel_rfl)
theorem noOwnUnsafe : Tryd.pinned.checked.prog.headLifts.contains "ownunsafe" = false := by kernel_rfl
theorem tie : Tryd.prog.laidByTextLater [("spinet/mode.widths", Rows.laid_spinet_mode_widths)] [.data] true :=
  Program.laidByTextLater.sub seatTie1 ["spinet/mode.widths"] (by kernel_rfl) (by kernel_rfl)
theorem shareTells_row_tie : Rows.shareTellsRow.laidByTextAt .later Tryd.pinned [.data] true :=
  OpenClaim.laidByTextAt_later rfl rfl tie noOwnUnsafe
theorem shareLogs_row_tie : Rows.shareLogsRow.laidByTextAt .later Tryd.pinned [.data] true :=
  OpenClaim.laidByTextAt_later rfl rfl tie noOwnUnsafe
theorem shareSheet_row_tie : Rows.shareSheetRow.laidByTextAt .later Tryd.pinned [.data] true :=
  OpenClaim.laidByTextAt_later rfl rfl tie noOwnUnsafe
theorem shareAlike_row_tie : Rows.shareAlikeRow.laidByTextAt .later Tryd.pinned [.data] true :=
  OpenClaim.laidByTextAt_later rfl rfl tie noOwnUnsafe
theorem tie2 : Tryd.prog.laidByTextLater [("spinet/conceal.fades", Rows.laid_spinet_conceal_fades), ("spinet/cis.cosines", Rows.laid_spinet_cis_cosines)] [.data, .data] true :=
  Program.laidByTextLater.sub seatTie1 ["spinet/conceal.fades", "spinet/cis.cosines"] (by kernel_rfl) (by kernel_rfl)
theorem stateApart_row_tie : Rows.stateApartRow.laidByTextAt .later Tryd.pinned [.data, .data] true :=
  OpenClaim.laidByTextAt_later rfl rfl tie2 noOwnUnsafe
theorem stateFades_row_tie : Rows.stateFadesRow.laidByTextAt .later Tryd.pinned [.data, .data] true :=
  OpenClaim.laidByTextAt_later rfl rfl tie2 noOwnUnsafe
theorem stateKeeps_row_tie : Rows.stateKeepsRow.laidByTextAt .later Tryd.pinned [.data, .data] true :=
  OpenClaim.laidByTextAt_later rfl rfl tie2 noOwnUnsafe
theorem tie3 : Tryd.prog.laidByTextLater [("spinet/mode.widths", Rows.laid_spinet_mode_widths), ("spinet/sym.widths", Rows.laid_spinet_sym_widths)] [.data, .data] true :=
  Program.laidByTextLater.sub seatTie1 ["spinet/mode.widths", "spinet/sym.widths"] (by kernel_rfl) (by kernel_rfl)
theorem frameGuesses_row_tie : Rows.frameGuessesRow.laidByTextAt .later Tryd.pinned [.data, .data] true :=
  OpenClaim.laidByTextAt_later rfl rfl tie3 noOwnUnsafe
theorem frameOdd_row_tie : Rows.frameOddRow.laidByTextAt .later Tryd.pinned [.data, .data] true :=
  OpenClaim.laidByTextAt_later rfl rfl tie3 noOwnUnsafe
theorem shareTellsUpto_row_tie : Rows.shareTellsUptoRow.laidByTextAt .later Tryd.pinned [.data] true :=
  OpenClaim.laidByTextAt_later rfl rfl tie noOwnUnsafe
theorem shareLogsUpto_row_tie : Rows.shareLogsUptoRow.laidByTextAt .later Tryd.pinned [.data] true :=
  OpenClaim.laidByTextAt_later rfl rfl tie noOwnUnsafe
theorem shareSheetUpto_row_tie : Rows.shareSheetUptoRow.laidByTextAt .later Tryd.pinned [.data] true :=
  OpenClaim.laidByTextAt_later rfl rfl tie noOwnUnsafe
theorem shareAlikeUpto_row_tie : Rows.shareAlikeUptoRow.laidByTextAt .later Tryd.pinned [.data] true :=
  OpenClaim.laidByTextAt_later rfl rfl tie noOwnUnsafe
theorem stateApartUpto_row_tie : Rows.stateApartUptoRow.laidByTextAt .later Tryd.pinned [.data, .data] true :=
  OpenClaim.laidByTextAt_later rfl rfl tie2 noOwnUnsafe
theorem stateFadesUpto_row_tie : Rows.stateFadesUptoRow.laidByTextAt .later Tryd.pinned [.data, .data] true :=
  OpenClaim.laidByTextAt_later rfl rfl tie2 noOwnUnsafe
theorem stateKeepsUpto_row_tie : Rows.stateKeepsUptoRow.laidByTextAt .later Tryd.pinned [.data, .data] true :=
  OpenClaim.laidByTextAt_later rfl rfl tie2 noOwnUnsafe
theorem frameGuessesUpto_row_tie : Rows.frameGuessesUptoRow.laidByTextAt .later Tryd.pinned [.data, .data] true :=
  OpenClaim.laidByTextAt_later rfl rfl tie3 noOwnUnsafe
theorem frameOddUpto_row_tie : Rows.frameOddUptoRow.laidByTextAt .later Tryd.pinned [.data, .data] true :=
  OpenClaim.laidByTextAt_later rfl rfl tie3 noOwnUnsafe
end Go.Proofs.YtkcambhojpafkaaDoor
