/-
  DERIVED. GIVEN WITH THE SEED: THE CARDS: each row of YtkcambhojpafkaaDoorRows.lean that lists a variable, with what it lists TIED to the program's text (the seventh form; the later family's looks); each row that meets fmt, with fmt's text TOLD by the authors' own Lean function (tested against real Go, not proved from fmt's source: count such statements apart). THE CARD IS WHAT COUNTS. Prove the row's statement (the work); the ties are given (YtkcambhojpafkaaDoorTie.lean); close each card by the builder's one call (the guide's Derived/Test/ToyasCard.lean, 'card_holds'). Laid BY PROGRAM, IN A SANDBOX (cutbox-door.mjs). By AI agents, Wed Nov 11 2026. No macro, syntax, notation, axiom, sorry.
-/
import Derived.Test.YtkcambhojpafkaaDoorRows
import GoSem.ClaimSeven
namespace Go.Proofs.YtkcambhojpafkaaDoor
namespace Rows

/-- THE TIED CARD OF 'spinetlaw15.ShareTells'. -/
def shareTellsCard : Claim7 := { stood := { row := shareTellsRow, standIns := [], harness := (true, "56a79592d24ef0c7688ce38b7795ce9123dad47eda87b49882692c532ed86fb4"), looks := false }, kinds := [], alts := [], laidByText := true, laidKinds := [.data], laidTests := true, laidLooks := .later }
def ShareTellsCardSaid : Prop := Claim7.holds Tryd.pinned (.plain (OpenSpec.ofChange shareTellsSpec)) shareTellsCard

/-- THE TIED CARD OF 'spinetlaw15.ShareLogs'. -/
def shareLogsCard : Claim7 := { stood := { row := shareLogsRow, standIns := [], harness := (true, "56a79592d24ef0c7688ce38b7795ce9123dad47eda87b49882692c532ed86fb4"), looks := false }, kinds := [], alts := [], laidByText := true, laidKinds := [.data], laidTests := true, laidLooks := .later }
def ShareLogsCardSaid : Prop := Claim7.holds Tryd.pinned (.plain (OpenSpec.ofChange shareLogsSpec)) shareLogsCard

/-- THE TIED CARD OF 'spinetlaw15.ShareSheet'. -/
def shareSheetCard : Claim7 := { stood := { row := shareSheetRow, standIns := [], harness := (true, "56a79592d24ef0c7688ce38b7795ce9123dad47eda87b49882692c532ed86fb4"), looks := false }, kinds := [], alts := [], laidByText := true, laidKinds := [.data], laidTests := true, laidLooks := .later }
def ShareSheetCardSaid : Prop := Claim7.holds Tryd.pinned (.plain (OpenSpec.ofChange shareSheetSpec)) shareSheetCard

/-- THE TIED CARD OF 'spinetlaw15.ShareAlike'. -/
def shareAlikeCard : Claim7 := { stood := { row := shareAlikeRow, standIns := [], harness := (true, "56a79592d24ef0c7688ce38b7795ce9123dad47eda87b49882692c532ed86fb4"), looks := false }, kinds := [], alts := [], laidByText := true, laidKinds := [.data], laidTests := true, laidLooks := .later }
def ShareAlikeCardSaid : Prop := Claim7.holds Tryd.pinned (.plain (OpenSpec.ofChange shareAlikeSpec)) shareAlikeCard

/-- THE TIED CARD OF 'spinetlaw26.StateApart'. -/
def stateApartCard : Claim7 := { stood := { row := stateApartRow, standIns := [], harness := (true, "56a79592d24ef0c7688ce38b7795ce9123dad47eda87b49882692c532ed86fb4"), looks := false }, kinds := [], alts := [], laidByText := true, laidKinds := [.data, .data], laidTests := true, laidLooks := .later }
def StateApartCardSaid : Prop := Claim7.holds Tryd.pinned (.plain (OpenSpec.ofChange stateApartSpec)) stateApartCard

/-- THE TIED CARD OF 'spinetlaw26.StateFades'. -/
def stateFadesCard : Claim7 := { stood := { row := stateFadesRow, standIns := [], harness := (true, "56a79592d24ef0c7688ce38b7795ce9123dad47eda87b49882692c532ed86fb4"), looks := false }, kinds := [], alts := [], laidByText := true, laidKinds := [.data, .data], laidTests := true, laidLooks := .later }
def StateFadesCardSaid : Prop := Claim7.holds Tryd.pinned (.plain (OpenSpec.ofChange stateFadesSpec)) stateFadesCard

/-- THE TIED CARD OF 'spinetlaw26.StateKeeps'. -/
def stateKeepsCard : Claim7 := { stood := { row := stateKeepsRow, standIns := [], harness := (true, "56a79592d24ef0c7688ce38b7795ce9123dad47eda87b49882692c532ed86fb4"), looks := false }, kinds := [], alts := [], laidByText := true, laidKinds := [.data, .data], laidTests := true, laidLooks := .later }
def StateKeepsCardSaid : Prop := Claim7.holds Tryd.pinned (.plain (OpenSpec.ofChange stateKeepsSpec)) stateKeepsCard

/-- THE TIED CARD OF 'spinetlaw16.FrameGuesses'. -/
def frameGuessesCard : Claim7 := { stood := { row := frameGuessesRow, standIns := [], harness := (true, "56a79592d24ef0c7688ce38b7795ce9123dad47eda87b49882692c532ed86fb4"), looks := false }, kinds := [], alts := [], laidByText := true, laidKinds := [.data, .data], laidTests := true, laidLooks := .later }
def FrameGuessesCardSaid : Prop := Claim7.holds Tryd.pinned (.plain (OpenSpec.ofChange frameGuessesSpec)) frameGuessesCard

/-- THE TIED CARD OF 'spinetlaw16.FrameOdd'. -/
def frameOddCard : Claim7 := { stood := { row := frameOddRow, standIns := [], harness := (true, "56a79592d24ef0c7688ce38b7795ce9123dad47eda87b49882692c532ed86fb4"), looks := false }, kinds := [], alts := [], laidByText := true, laidKinds := [.data, .data], laidTests := true, laidLooks := .later }
def FrameOddCardSaid : Prop := Claim7.holds Tryd.pinned (.plain (OpenSpec.ofChange frameOddSpec)) frameOddCard

/-- THE SECOND FORM's CARD OF 'spinetlaw15.ShareTells'. -/
def shareTellsUptoCard : Claim7 := { stood := { row := shareTellsUptoRow, standIns := [], harness := (true, "56a79592d24ef0c7688ce38b7795ce9123dad47eda87b49882692c532ed86fb4"), looks := false }, kinds := [], alts := [], laidByText := true, laidKinds := [.data], laidTests := true, laidLooks := .later }
def ShareTellsUptoCardSaid : Prop := Claim7.holds Tryd.pinned (.plain (OpenSpec.upto shareTellsSpec)) shareTellsUptoCard

/-- THE SECOND FORM's CARD OF 'spinetlaw15.ShareLogs'. -/
def shareLogsUptoCard : Claim7 := { stood := { row := shareLogsUptoRow, standIns := [], harness := (true, "56a79592d24ef0c7688ce38b7795ce9123dad47eda87b49882692c532ed86fb4"), looks := false }, kinds := [], alts := [], laidByText := true, laidKinds := [.data], laidTests := true, laidLooks := .later }
def ShareLogsUptoCardSaid : Prop := Claim7.holds Tryd.pinned (.plain (OpenSpec.upto shareLogsSpec)) shareLogsUptoCard

/-- THE SECOND FORM's CARD OF 'spinetlaw15.ShareSheet'. -/
def shareSheetUptoCard : Claim7 := { stood := { row := shareSheetUptoRow, standIns := [], harness := (true, "56a79592d24ef0c7688ce38b7795ce9123dad47eda87b49882692c532ed86fb4"), looks := false }, kinds := [], alts := [], laidByText := true, laidKinds := [.data], laidTests := true, laidLooks := .later }
def ShareSheetUptoCardSaid : Prop := Claim7.holds Tryd.pinned (.plain (OpenSpec.upto shareSheetSpec)) shareSheetUptoCard

/-- THE SECOND FORM's CARD OF 'spinetlaw15.ShareAlike'. -/
def shareAlikeUptoCard : Claim7 := { stood := { row := shareAlikeUptoRow, standIns := [], harness := (true, "56a79592d24ef0c7688ce38b7795ce9123dad47eda87b49882692c532ed86fb4"), looks := false }, kinds := [], alts := [], laidByText := true, laidKinds := [.data], laidTests := true, laidLooks := .later }
def ShareAlikeUptoCardSaid : Prop := Claim7.holds Tryd.pinned (.plain (OpenSpec.upto shareAlikeSpec)) shareAlikeUptoCard

/-- THE SECOND FORM's CARD OF 'spinetlaw26.StateApart'. -/
def stateApartUptoCard : Claim7 := { stood := { row := stateApartUptoRow, standIns := [], harness := (true, "56a79592d24ef0c7688ce38b7795ce9123dad47eda87b49882692c532ed86fb4"), looks := false }, kinds := [], alts := [], laidByText := true, laidKinds := [.data, .data], laidTests := true, laidLooks := .later }
def StateApartUptoCardSaid : Prop := Claim7.holds Tryd.pinned (.plain (OpenSpec.upto stateApartSpec)) stateApartUptoCard

/-- THE SECOND FORM's CARD OF 'spinetlaw26.StateFades'. -/
def stateFadesUptoCard : Claim7 := { stood := { row := stateFadesUptoRow, standIns := [], harness := (true, "56a79592d24ef0c7688ce38b7795ce9123dad47eda87b49882692c532ed86fb4"), looks := false }, kinds := [], alts := [], laidByText := true, laidKinds := [.data, .data], laidTests := true, laidLooks := .later }
def StateFadesUptoCardSaid : Prop := Claim7.holds Tryd.pinned (.plain (OpenSpec.upto stateFadesSpec)) stateFadesUptoCard

/-- THE SECOND FORM's CARD OF 'spinetlaw26.StateKeeps'. -/
def stateKeepsUptoCard : Claim7 := { stood := { row := stateKeepsUptoRow, standIns := [], harness := (true, "56a79592d24ef0c7688ce38b7795ce9123dad47eda87b49882692c532ed86fb4"), looks := false }, kinds := [], alts := [], laidByText := true, laidKinds := [.data, .data], laidTests := true, laidLooks := .later }
def StateKeepsUptoCardSaid : Prop := Claim7.holds Tryd.pinned (.plain (OpenSpec.upto stateKeepsSpec)) stateKeepsUptoCard

/-- THE SECOND FORM's CARD OF 'spinetlaw16.FrameGuesses'. -/
def frameGuessesUptoCard : Claim7 := { stood := { row := frameGuessesUptoRow, standIns := [], harness := (true, "56a79592d24ef0c7688ce38b7795ce9123dad47eda87b49882692c532ed86fb4"), looks := false }, kinds := [], alts := [], laidByText := true, laidKinds := [.data, .data], laidTests := true, laidLooks := .later }
def FrameGuessesUptoCardSaid : Prop := Claim7.holds Tryd.pinned (.plain (OpenSpec.upto frameGuessesSpec)) frameGuessesUptoCard

/-- THE SECOND FORM's CARD OF 'spinetlaw16.FrameOdd'. -/
def frameOddUptoCard : Claim7 := { stood := { row := frameOddUptoRow, standIns := [], harness := (true, "56a79592d24ef0c7688ce38b7795ce9123dad47eda87b49882692c532ed86fb4"), looks := false }, kinds := [], alts := [], laidByText := true, laidKinds := [.data, .data], laidTests := true, laidLooks := .later }
def FrameOddUptoCardSaid : Prop := Claim7.holds Tryd.pinned (.plain (OpenSpec.upto frameOddSpec)) frameOddUptoCard
end Rows
end Go.Proofs.YtkcambhojpafkaaDoor
