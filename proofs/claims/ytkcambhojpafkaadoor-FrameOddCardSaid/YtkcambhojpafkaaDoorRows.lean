/-
  NARROWER THAN 'FOR EVERY INPUT', by the rows' own cells (each row's printed sentence says how): ShareTells: laid · ShareLogs: laid · ShareSheet: laid · ShareAlike: laid · StateApart: laid · StateFades: laid · StateKeeps: laid · FrameGuesses: laid · FrameOdd: laid.
  DERIVED. THE GIVEN ROWS OF THIS SEAT. 9 by the template 'for every input the law returns true; each argument reads behind the call as it read before'; 0 by the template 'total and deterministic' (their statements: YtkcambhojpafkaaDoorTotals.lean).
  GIVEN WITH THE SEED: the statements are not yours to turn. If you find one false, say at which input.
  Laid BY PROGRAM, IN A SANDBOX (cutbox-rows.mjs): the forced cells as the released guide's own fill.sh prints them over the translation acc3e8cb942ef6bc… (all of the seat's roots in one cut). By AI agents, Wed Nov 11 2026. No macro, syntax, notation, axiom, sorry.
-/
import Derived.Test.YtkcambhojpafkaaDoorChecked
import GoSem.Claim
import GoSem.ClaimJoined
import GoSem.ClaimMapViews
import Derived.JoinedTies
import Derived.KernelRfl
namespace Go.Proofs.YtkcambhojpafkaaDoor
/- THE CELL 'sum', in the pinned program and in every row, IS THE sha256 OF THE DUMP (.gsa) THAT YtkcambhojpafkaaDoorProg.lean LOADS. Nothing in Lean hashes anything: it is a label: what it is worth is what the hold of that sum in a sandbox is worth. -/
noncomputable def Tryd.pinned : Pinned := { name := "ytkcambhojpafkaadoor", sum := "acc3e8cb942ef6bc8d2376ba39fa18afa2f46fe5ea477ea09cfc640c79a1672e", checked := Tryd.checked }
namespace Rows
def none {H : Type} : Left H := { results := [], args := [] }

/- WHAT THE LISTED PACKAGE-LEVEL VARIABLES READ AS WHEN THE CALL BEGINS. Each datum BY PROGRAM (the guide's laid-datum.mjs) off the statement by which the dump's own 'gosem.cut.vars' lays the variable. In a bare row this is a premise. The card (YtkcambhojpafkaaDoorCards.lean) ties it to the program's text. -/
def laid_spinet_mode_widths {H : Type} : DataW H := .agg [.lit (.int .i64 2), .lit (.int .i64 2), .lit (.int .i64 4), .lit (.int .i64 8), .lit (.int .i64 16)]
def laid_spinet_conceal_fades {H : Type} : DataW H := .agg [.lit (.int .i32 0), .lit (.int .i32 29491), .lit (.int .i32 22937), .lit (.int .i32 13107), .lit (.int .i32 4915)]
def laid_spinet_cis_cosines {H : Type} : DataW H := .agg [.lit (.int .i64 4096), .lit (.int .i64 4095), .lit (.int .i64 4091), .lit (.int .i64 4085), .lit (.int .i64 4076), .lit (.int .i64 4065), .lit (.int .i64 4052), .lit (.int .i64 4036), .lit (.int .i64 4017), .lit (.int .i64 3996), .lit (.int .i64 3973), .lit (.int .i64 3948), .lit (.int .i64 3920), .lit (.int .i64 3889), .lit (.int .i64 3857), .lit (.int .i64 3822), .lit (.int .i64 3784), .lit (.int .i64 3745), .lit (.int .i64 3703), .lit (.int .i64 3659), .lit (.int .i64 3612), .lit (.int .i64 3564), .lit (.int .i64 3513), .lit (.int .i64 3461), .lit (.int .i64 3406), .lit (.int .i64 3349), .lit (.int .i64 3290), .lit (.int .i64 3229), .lit (.int .i64 3166), .lit (.int .i64 3102), .lit (.int .i64 3035), .lit (.int .i64 2967), .lit (.int .i64 2896), .lit (.int .i64 2824), .lit (.int .i64 2751), .lit (.int .i64 2675), .lit (.int .i64 2598), .lit (.int .i64 2520), .lit (.int .i64 2440), .lit (.int .i64 2359), .lit (.int .i64 2276), .lit (.int .i64 2191), .lit (.int .i64 2106), .lit (.int .i64 2019), .lit (.int .i64 1931), .lit (.int .i64 1842), .lit (.int .i64 1751), .lit (.int .i64 1660), .lit (.int .i64 1567), .lit (.int .i64 1474), .lit (.int .i64 1380), .lit (.int .i64 1285), .lit (.int .i64 1189), .lit (.int .i64 1092), .lit (.int .i64 995), .lit (.int .i64 897), .lit (.int .i64 799), .lit (.int .i64 700), .lit (.int .i64 601), .lit (.int .i64 501), .lit (.int .i64 401), .lit (.int .i64 301), .lit (.int .i64 201), .lit (.int .i64 101), .lit (.int .i64 0)]
def laid_spinet_sym_widths {H : Type} : DataW H := .agg [.lit (.int .i64 20), .lit (.int .i64 9), .lit (.int .i64 5), .lit (.int .i64 3), .lit (.int .i64 2), .lit (.int .i64 1), .lit (.int .i64 1), .lit (.int .i64 1)]

/-- 'spinetlaw15.ShareTells': WHATEVER THE INPUT: true; the input reads as it did. -/
def shareTellsSpec : ChangeSpec := { name := "shareTells", fn := fun _ => fun
  | [d] => { results := [.lit (.bool true)], args := [d] }
  | _ => none }
def shareTellsRow : OpenClaim := { program := "ytkcambhojpafkaadoor", sum := "acc3e8cb942ef6bc8d2376ba39fa18afa2f46fe5ea477ea09cfc640c79a1672e", func := "spinet/spinetlaw15.ShareTells", spec := "shareTells", recurses := true, named := ["spinet/mode.widths"], plainKeys := false, apart := false, laid := [("spinet/mode.widths", laid_spinet_mode_widths)] }
def ShareTellsSaid : Prop := shareTellsRow.holds Tryd.pinned (OpenSpec.ofChange shareTellsSpec)

/-- ITS FALSE NEIGHBOUR: 'it returns false'. Refute it at one input. -/
def shareTellsWrong : ChangeSpec := { name := "shareTells", fn := fun _ => fun
  | [d] => { results := [.lit (.bool false)], args := [d] }
  | _ => none }
def ShareTellsWrongFalsely : Prop := shareTellsRow.holds Tryd.pinned (OpenSpec.ofChange shareTellsWrong)

/-- 'spinetlaw15.ShareLogs': WHATEVER THE INPUT: true; the input reads as it did. -/
def shareLogsSpec : ChangeSpec := { name := "shareLogs", fn := fun _ => fun
  | [d1, d2] => { results := [.lit (.bool true)], args := [d1, d2] }
  | _ => none }
def shareLogsRow : OpenClaim := { program := "ytkcambhojpafkaadoor", sum := "acc3e8cb942ef6bc8d2376ba39fa18afa2f46fe5ea477ea09cfc640c79a1672e", func := "spinet/spinetlaw15.ShareLogs", spec := "shareLogs", named := ["spinet/mode.widths"], plainKeys := false, apart := false, laid := [("spinet/mode.widths", laid_spinet_mode_widths)] }
def ShareLogsSaid : Prop := shareLogsRow.holds Tryd.pinned (OpenSpec.ofChange shareLogsSpec)

/-- ITS FALSE NEIGHBOUR: 'it returns false'. Refute it at one input. -/
def shareLogsWrong : ChangeSpec := { name := "shareLogs", fn := fun _ => fun
  | [d1, d2] => { results := [.lit (.bool false)], args := [d1, d2] }
  | _ => none }
def ShareLogsWrongFalsely : Prop := shareLogsRow.holds Tryd.pinned (OpenSpec.ofChange shareLogsWrong)

/-- 'spinetlaw15.ShareSheet': WHATEVER THE INPUT: true; the input reads as it did. -/
def shareSheetSpec : ChangeSpec := { name := "shareSheet", fn := fun _ => fun
  | [d1, d2] => { results := [.lit (.bool true)], args := [d1, d2] }
  | _ => none }
def shareSheetRow : OpenClaim := { program := "ytkcambhojpafkaadoor", sum := "acc3e8cb942ef6bc8d2376ba39fa18afa2f46fe5ea477ea09cfc640c79a1672e", func := "spinet/spinetlaw15.ShareSheet", spec := "shareSheet", recurses := true, named := ["spinet/mode.widths"], plainKeys := false, apart := false, laid := [("spinet/mode.widths", laid_spinet_mode_widths)] }
def ShareSheetSaid : Prop := shareSheetRow.holds Tryd.pinned (OpenSpec.ofChange shareSheetSpec)

/-- ITS FALSE NEIGHBOUR: 'it returns false'. Refute it at one input. -/
def shareSheetWrong : ChangeSpec := { name := "shareSheet", fn := fun _ => fun
  | [d1, d2] => { results := [.lit (.bool false)], args := [d1, d2] }
  | _ => none }
def ShareSheetWrongFalsely : Prop := shareSheetRow.holds Tryd.pinned (OpenSpec.ofChange shareSheetWrong)

/-- 'spinetlaw15.ShareAlike': WHATEVER THE INPUT: true; the input reads as it did. -/
def shareAlikeSpec : ChangeSpec := { name := "shareAlike", fn := fun _ => fun
  | [d] => { results := [.lit (.bool true)], args := [d] }
  | _ => none }
def shareAlikeRow : OpenClaim := { program := "ytkcambhojpafkaadoor", sum := "acc3e8cb942ef6bc8d2376ba39fa18afa2f46fe5ea477ea09cfc640c79a1672e", func := "spinet/spinetlaw15.ShareAlike", spec := "shareAlike", recurses := true, named := ["spinet/mode.widths"], plainKeys := false, apart := false, laid := [("spinet/mode.widths", laid_spinet_mode_widths)] }
def ShareAlikeSaid : Prop := shareAlikeRow.holds Tryd.pinned (OpenSpec.ofChange shareAlikeSpec)

/-- ITS FALSE NEIGHBOUR: 'it returns false'. Refute it at one input. -/
def shareAlikeWrong : ChangeSpec := { name := "shareAlike", fn := fun _ => fun
  | [d] => { results := [.lit (.bool false)], args := [d] }
  | _ => none }
def ShareAlikeWrongFalsely : Prop := shareAlikeRow.holds Tryd.pinned (OpenSpec.ofChange shareAlikeWrong)

/-- 'spinetlaw26.StateApart': WHATEVER THE INPUT: true; the input reads as it did. -/
def stateApartSpec : ChangeSpec := { name := "stateApart", fn := fun _ => fun
  | [d1, d2, d3] => { results := [.lit (.bool true)], args := [d1, d2, d3] }
  | _ => none }
def stateApartRow : OpenClaim := { program := "ytkcambhojpafkaadoor", sum := "acc3e8cb942ef6bc8d2376ba39fa18afa2f46fe5ea477ea09cfc640c79a1672e", func := "spinet/spinetlaw26.StateApart", spec := "stateApart", inPlace := ["math/bits.Sub64", "math/bits.Add64"], named := ["spinet/conceal.fades", "spinet/cis.cosines"], plainKeys := false, apart := false, laid := [("spinet/conceal.fades", laid_spinet_conceal_fades), ("spinet/cis.cosines", laid_spinet_cis_cosines)] }
def StateApartSaid : Prop := stateApartRow.holds Tryd.pinned (OpenSpec.ofChange stateApartSpec)

/-- ITS FALSE NEIGHBOUR: 'it returns false'. Refute it at one input. -/
def stateApartWrong : ChangeSpec := { name := "stateApart", fn := fun _ => fun
  | [d1, d2, d3] => { results := [.lit (.bool false)], args := [d1, d2, d3] }
  | _ => none }
def StateApartWrongFalsely : Prop := stateApartRow.holds Tryd.pinned (OpenSpec.ofChange stateApartWrong)

/-- 'spinetlaw26.StateFades': WHATEVER THE INPUT: true; the input reads as it did. -/
def stateFadesSpec : ChangeSpec := { name := "stateFades", fn := fun _ => fun
  | [d1, d2, d3] => { results := [.lit (.bool true)], args := [d1, d2, d3] }
  | _ => none }
def stateFadesRow : OpenClaim := { program := "ytkcambhojpafkaadoor", sum := "acc3e8cb942ef6bc8d2376ba39fa18afa2f46fe5ea477ea09cfc640c79a1672e", func := "spinet/spinetlaw26.StateFades", spec := "stateFades", inPlace := ["math/bits.Sub64", "math/bits.Add64"], named := ["spinet/conceal.fades", "spinet/cis.cosines"], plainKeys := false, apart := false, laid := [("spinet/conceal.fades", laid_spinet_conceal_fades), ("spinet/cis.cosines", laid_spinet_cis_cosines)] }
def StateFadesSaid : Prop := stateFadesRow.holds Tryd.pinned (OpenSpec.ofChange stateFadesSpec)

/-- ITS FALSE NEIGHBOUR: 'it returns false'. Refute it at one input. -/
def stateFadesWrong : ChangeSpec := { name := "stateFades", fn := fun _ => fun
  | [d1, d2, d3] => { results := [.lit (.bool false)], args := [d1, d2, d3] }
  | _ => none }
def StateFadesWrongFalsely : Prop := stateFadesRow.holds Tryd.pinned (OpenSpec.ofChange stateFadesWrong)

/-- 'spinetlaw26.StateKeeps': WHATEVER THE INPUT: true; the input reads as it did. -/
def stateKeepsSpec : ChangeSpec := { name := "stateKeeps", fn := fun _ => fun
  | [d1, d2, d3] => { results := [.lit (.bool true)], args := [d1, d2, d3] }
  | _ => none }
def stateKeepsRow : OpenClaim := { program := "ytkcambhojpafkaadoor", sum := "acc3e8cb942ef6bc8d2376ba39fa18afa2f46fe5ea477ea09cfc640c79a1672e", func := "spinet/spinetlaw26.StateKeeps", spec := "stateKeeps", inPlace := ["math/bits.Sub64", "math/bits.Add64"], named := ["spinet/conceal.fades", "spinet/cis.cosines"], plainKeys := false, apart := false, laid := [("spinet/conceal.fades", laid_spinet_conceal_fades), ("spinet/cis.cosines", laid_spinet_cis_cosines)] }
def StateKeepsSaid : Prop := stateKeepsRow.holds Tryd.pinned (OpenSpec.ofChange stateKeepsSpec)

/-- ITS FALSE NEIGHBOUR: 'it returns false'. Refute it at one input. -/
def stateKeepsWrong : ChangeSpec := { name := "stateKeeps", fn := fun _ => fun
  | [d1, d2, d3] => { results := [.lit (.bool false)], args := [d1, d2, d3] }
  | _ => none }
def StateKeepsWrongFalsely : Prop := stateKeepsRow.holds Tryd.pinned (OpenSpec.ofChange stateKeepsWrong)

/-- 'spinetlaw16.FrameGuesses': WHATEVER THE INPUT: true; the input reads as it did. -/
def frameGuessesSpec : ChangeSpec := { name := "frameGuesses", fn := fun _ => fun
  | [d1, d2, d3] => { results := [.lit (.bool true)], args := [d1, d2, d3] }
  | _ => none }
def frameGuessesRow : OpenClaim := { program := "ytkcambhojpafkaadoor", sum := "acc3e8cb942ef6bc8d2376ba39fa18afa2f46fe5ea477ea09cfc640c79a1672e", func := "spinet/spinetlaw16.FrameGuesses", spec := "frameGuesses", unfollowed := true, recurses := true, named := ["spinet/sym.widths", "spinet/mode.widths"], plainKeys := false, apart := false, laid := [("spinet/mode.widths", laid_spinet_mode_widths), ("spinet/sym.widths", laid_spinet_sym_widths)] }
def FrameGuessesSaid : Prop := frameGuessesRow.holds Tryd.pinned (OpenSpec.ofChange frameGuessesSpec)

/-- ITS FALSE NEIGHBOUR: 'it returns false'. Refute it at one input. -/
def frameGuessesWrong : ChangeSpec := { name := "frameGuesses", fn := fun _ => fun
  | [d1, d2, d3] => { results := [.lit (.bool false)], args := [d1, d2, d3] }
  | _ => none }
def FrameGuessesWrongFalsely : Prop := frameGuessesRow.holds Tryd.pinned (OpenSpec.ofChange frameGuessesWrong)

/-- 'spinetlaw16.FrameOdd': WHATEVER THE INPUT: true; the input reads as it did. -/
def frameOddSpec : ChangeSpec := { name := "frameOdd", fn := fun _ => fun
  | [d1, d2, d3] => { results := [.lit (.bool true)], args := [d1, d2, d3] }
  | _ => none }
def frameOddRow : OpenClaim := { program := "ytkcambhojpafkaadoor", sum := "acc3e8cb942ef6bc8d2376ba39fa18afa2f46fe5ea477ea09cfc640c79a1672e", func := "spinet/spinetlaw16.FrameOdd", spec := "frameOdd", unfollowed := true, recurses := true, named := ["spinet/sym.widths", "spinet/mode.widths"], plainKeys := false, apart := false, laid := [("spinet/mode.widths", laid_spinet_mode_widths), ("spinet/sym.widths", laid_spinet_sym_widths)] }
def FrameOddSaid : Prop := frameOddRow.holds Tryd.pinned (OpenSpec.ofChange frameOddSpec)

/-- ITS FALSE NEIGHBOUR: 'it returns false'. Refute it at one input. -/
def frameOddWrong : ChangeSpec := { name := "frameOdd", fn := fun _ => fun
  | [d1, d2, d3] => { results := [.lit (.bool false)], args := [d1, d2, d3] }
  | _ => none }
def FrameOddWrongFalsely : Prop := frameOddRow.holds Tryd.pinned (OpenSpec.ofChange frameOddWrong)

/- THE SECOND FORM. 'bulk': how many values and letters a reading holds, each counted each time it is reached (what is shared counts as often as it is met; a slice's spare places count too). A statement '..UptoSaid' is the law's where the arguments, and the package variables that the reading takes, are together of bulk at most 1048576: NARROWER than '..Said'. Prove '..Said' where nothing that the law and all that it calls make is longer than what came in: it says more and counts as full. Else prove '..UptoSaid'. A law counts once. -/
mutual
def uptoBulk {H : Type} : DataW H → Nat
  | .lit (.string bytes) => bytes.length + 1
  | .lit _ => 1
  | .nil => 1
  | .ptr d => uptoBulk d + 1
  | .slice elems spare => uptoBulkAll elems + uptoBulkAll spare + 1
  | .agg parts => uptoBulkAll parts + 1
  | .iface _ d => uptoBulk d + 1
  | .map entries => uptoBulkEntries entries + 1
  | .held _ => 1
def uptoBulkAll {H : Type} : List (DataW H) → Nat
  | [] => 0
  | d :: r => uptoBulk d + uptoBulkAll r
def uptoBulkEntries {H : Type} : List (Lit × DataW H) → Nat
  | [] => 0
  | x :: r => uptoBulkEntry x + uptoBulkEntries r
def uptoBulkEntry {H : Type} : Lit × DataW H → Nat
  | (.string bytes, d) => bytes.length + uptoBulk d + 1
  | (_, d) => uptoBulk d + 1
 end
def uptoSmall : (H : Type) → List (DataW H) → Bool := fun _ ds => decide (uptoBulkAll ds ≤ 1048576)
def OpenSpec.upto (s : _root_.Go.ChangeSpec) : _root_.Go.OpenSpec := { _root_.Go.OpenSpec.ofChange s with cond := some uptoSmall }

/-- 'spinetlaw15.ShareTells', WHERE WHAT IT READS IS OF BULK AT MOST 1048576: true; the input reads as it did. -/
def shareTellsUptoRow : OpenClaim := { program := "ytkcambhojpafkaadoor", sum := "acc3e8cb942ef6bc8d2376ba39fa18afa2f46fe5ea477ea09cfc640c79a1672e", func := "spinet/spinetlaw15.ShareTells", spec := "shareTells", recurses := true, named := ["spinet/mode.widths"], plainKeys := false, apart := false, laid := [("spinet/mode.widths", laid_spinet_mode_widths)], narrowed := true }
def ShareTellsUptoSaid : Prop := shareTellsUptoRow.holds Tryd.pinned (OpenSpec.upto shareTellsSpec)

/-- 'spinetlaw15.ShareLogs', WHERE WHAT IT READS IS OF BULK AT MOST 1048576: true; the input reads as it did. -/
def shareLogsUptoRow : OpenClaim := { program := "ytkcambhojpafkaadoor", sum := "acc3e8cb942ef6bc8d2376ba39fa18afa2f46fe5ea477ea09cfc640c79a1672e", func := "spinet/spinetlaw15.ShareLogs", spec := "shareLogs", named := ["spinet/mode.widths"], plainKeys := false, apart := false, laid := [("spinet/mode.widths", laid_spinet_mode_widths)], narrowed := true }
def ShareLogsUptoSaid : Prop := shareLogsUptoRow.holds Tryd.pinned (OpenSpec.upto shareLogsSpec)

/-- 'spinetlaw15.ShareSheet', WHERE WHAT IT READS IS OF BULK AT MOST 1048576: true; the input reads as it did. -/
def shareSheetUptoRow : OpenClaim := { program := "ytkcambhojpafkaadoor", sum := "acc3e8cb942ef6bc8d2376ba39fa18afa2f46fe5ea477ea09cfc640c79a1672e", func := "spinet/spinetlaw15.ShareSheet", spec := "shareSheet", recurses := true, named := ["spinet/mode.widths"], plainKeys := false, apart := false, laid := [("spinet/mode.widths", laid_spinet_mode_widths)], narrowed := true }
def ShareSheetUptoSaid : Prop := shareSheetUptoRow.holds Tryd.pinned (OpenSpec.upto shareSheetSpec)

/-- 'spinetlaw15.ShareAlike', WHERE WHAT IT READS IS OF BULK AT MOST 1048576: true; the input reads as it did. -/
def shareAlikeUptoRow : OpenClaim := { program := "ytkcambhojpafkaadoor", sum := "acc3e8cb942ef6bc8d2376ba39fa18afa2f46fe5ea477ea09cfc640c79a1672e", func := "spinet/spinetlaw15.ShareAlike", spec := "shareAlike", recurses := true, named := ["spinet/mode.widths"], plainKeys := false, apart := false, laid := [("spinet/mode.widths", laid_spinet_mode_widths)], narrowed := true }
def ShareAlikeUptoSaid : Prop := shareAlikeUptoRow.holds Tryd.pinned (OpenSpec.upto shareAlikeSpec)

/-- 'spinetlaw26.StateApart', WHERE WHAT IT READS IS OF BULK AT MOST 1048576: true; the input reads as it did. -/
def stateApartUptoRow : OpenClaim := { program := "ytkcambhojpafkaadoor", sum := "acc3e8cb942ef6bc8d2376ba39fa18afa2f46fe5ea477ea09cfc640c79a1672e", func := "spinet/spinetlaw26.StateApart", spec := "stateApart", inPlace := ["math/bits.Sub64", "math/bits.Add64"], named := ["spinet/conceal.fades", "spinet/cis.cosines"], plainKeys := false, apart := false, laid := [("spinet/conceal.fades", laid_spinet_conceal_fades), ("spinet/cis.cosines", laid_spinet_cis_cosines)], narrowed := true }
def StateApartUptoSaid : Prop := stateApartUptoRow.holds Tryd.pinned (OpenSpec.upto stateApartSpec)

/-- 'spinetlaw26.StateFades', WHERE WHAT IT READS IS OF BULK AT MOST 1048576: true; the input reads as it did. -/
def stateFadesUptoRow : OpenClaim := { program := "ytkcambhojpafkaadoor", sum := "acc3e8cb942ef6bc8d2376ba39fa18afa2f46fe5ea477ea09cfc640c79a1672e", func := "spinet/spinetlaw26.StateFades", spec := "stateFades", inPlace := ["math/bits.Sub64", "math/bits.Add64"], named := ["spinet/conceal.fades", "spinet/cis.cosines"], plainKeys := false, apart := false, laid := [("spinet/conceal.fades", laid_spinet_conceal_fades), ("spinet/cis.cosines", laid_spinet_cis_cosines)], narrowed := true }
def StateFadesUptoSaid : Prop := stateFadesUptoRow.holds Tryd.pinned (OpenSpec.upto stateFadesSpec)

/-- 'spinetlaw26.StateKeeps', WHERE WHAT IT READS IS OF BULK AT MOST 1048576: true; the input reads as it did. -/
def stateKeepsUptoRow : OpenClaim := { program := "ytkcambhojpafkaadoor", sum := "acc3e8cb942ef6bc8d2376ba39fa18afa2f46fe5ea477ea09cfc640c79a1672e", func := "spinet/spinetlaw26.StateKeeps", spec := "stateKeeps", inPlace := ["math/bits.Sub64", "math/bits.Add64"], named := ["spinet/conceal.fades", "spinet/cis.cosines"], plainKeys := false, apart := false, laid := [("spinet/conceal.fades", laid_spinet_conceal_fades), ("spinet/cis.cosines", laid_spinet_cis_cosines)], narrowed := true }
def StateKeepsUptoSaid : Prop := stateKeepsUptoRow.holds Tryd.pinned (OpenSpec.upto stateKeepsSpec)

/-- 'spinetlaw16.FrameGuesses', WHERE WHAT IT READS IS OF BULK AT MOST 1048576: true; the input reads as it did. -/
def frameGuessesUptoRow : OpenClaim := { program := "ytkcambhojpafkaadoor", sum := "acc3e8cb942ef6bc8d2376ba39fa18afa2f46fe5ea477ea09cfc640c79a1672e", func := "spinet/spinetlaw16.FrameGuesses", spec := "frameGuesses", unfollowed := true, recurses := true, named := ["spinet/sym.widths", "spinet/mode.widths"], plainKeys := false, apart := false, laid := [("spinet/mode.widths", laid_spinet_mode_widths), ("spinet/sym.widths", laid_spinet_sym_widths)], narrowed := true }
def FrameGuessesUptoSaid : Prop := frameGuessesUptoRow.holds Tryd.pinned (OpenSpec.upto frameGuessesSpec)

/-- 'spinetlaw16.FrameOdd', WHERE WHAT IT READS IS OF BULK AT MOST 1048576: true; the input reads as it did. -/
def frameOddUptoRow : OpenClaim := { program := "ytkcambhojpafkaadoor", sum := "acc3e8cb942ef6bc8d2376ba39fa18afa2f46fe5ea477ea09cfc640c79a1672e", func := "spinet/spinetlaw16.FrameOdd", spec := "frameOdd", unfollowed := true, recurses := true, named := ["spinet/sym.widths", "spinet/mode.widths"], plainKeys := false, apart := false, laid := [("spinet/mode.widths", laid_spinet_mode_widths), ("spinet/sym.widths", laid_spinet_sym_widths)], narrowed := true }
def FrameOddUptoSaid : Prop := frameOddUptoRow.holds Tryd.pinned (OpenSpec.upto frameOddSpec)

end Rows
end Go.Proofs.YtkcambhojpafkaaDoor
