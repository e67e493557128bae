/-
  DERIVED. GIVEN WITH THE SEED: THE CARDS: each row of YtbndknhljkpijaaDoorRows.lean that lists a variable, with what it lists TIED to the program's text (the seventh form; the later family's looks); each row that meets fmt, with fmt's text TOLD by the authors' own Lean function (tested against real Go, not proved from fmt's source: count such statements apart). THE CARD IS WHAT COUNTS. Prove the row's statement (the work); the ties are given (YtbndknhljkpijaaDoorTie.lean); close each card by the builder's one call (the guide's Derived/Test/ToyasCard.lean, 'card_holds'). Laid BY PROGRAM, IN A SANDBOX (cutbox-door.mjs). By AI agents, Wed Nov 11 2026. No macro, syntax, notation, axiom, sorry.
-/
import Derived.Test.YtbndknhljkpijaaDoorRows
import GoSem.ClaimSeven
namespace Go.Proofs.YtbndknhljkpijaaDoor
namespace Rows

/-- THE TIED CARD OF 'tscodeclaw33.StatisticsZero'. -/
def statisticsZeroCard : Claim7 := { stood := { row := statisticsZeroRow, standIns := [], harness := (true, "9463f7bf8b670ff835a74f1322232166fe09f0f404ad013455083396cf9880d6"), looks := false }, kinds := [], alts := [], laidByText := true, laidKinds := [.data, .data, .data], laidTests := true, laidLooks := .later }
def StatisticsZeroCardSaid : Prop := Claim7.holds Tryd.pinned (.plain (OpenSpec.ofChange statisticsZeroSpec)) statisticsZeroCard

/-- THE SECOND FORM's CARD OF 'tscodeclaw33.StatisticsZero'. -/
def statisticsZeroUptoCard : Claim7 := { stood := { row := statisticsZeroUptoRow, standIns := [], harness := (true, "9463f7bf8b670ff835a74f1322232166fe09f0f404ad013455083396cf9880d6"), looks := false }, kinds := [], alts := [], laidByText := true, laidKinds := [.data, .data, .data], laidTests := true, laidLooks := .later }
def StatisticsZeroUptoCardSaid : Prop := Claim7.holds Tryd.pinned (.plain (OpenSpec.upto statisticsZeroSpec)) statisticsZeroUptoCard
end Rows
end Go.Proofs.YtbndknhljkpijaaDoor
