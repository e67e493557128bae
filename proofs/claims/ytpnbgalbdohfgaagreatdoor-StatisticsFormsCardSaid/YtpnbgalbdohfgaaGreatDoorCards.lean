/-
  DERIVED. GIVEN WITH THE SEED: THE CARDS: each row of YtpnbgalbdohfgaaGreatDoorRows.lean that lists a variable, with what it lists TIED to the program's text (the seventh form; the later family's looks); each row that meets fmt, with fmt's text TOLD by the authors' own Lean function (tested against real Go, not proved from fmt's source: count such statements apart). THE CARD IS WHAT COUNTS. Prove the row's statement (the work); the ties are given (YtpnbgalbdohfgaaGreatDoorTie.lean); close each card by the builder's one call (the guide's Derived/Test/ToyasCard.lean, 'card_holds'). Laid BY PROGRAM, IN A SANDBOX (cutbox-door.mjs). By AI agents, Wed Nov 11 2026. No macro, syntax, notation, axiom, sorry.
-/
import Derived.Test.YtpnbgalbdohfgaaGreatDoorRows
import GoSem.ClaimSeven
namespace Go.Proofs.YtpnbgalbdohfgaaGreatDoor
namespace Rows

/-- THE TIED CARD OF 'tscodeclaw33.StatisticsForms'. -/
def statisticsFormsCard : Claim7 := { stood := { row := statisticsFormsRow, standIns := [], harness := (true, "cbfd3093aae7ed9c2a1020248cb484ac8cb16bccce403cbb4c0aec3213b9686b"), looks := false }, kinds := [], alts := [], laidByText := true, laidKinds := [.data, .data, .data], laidTests := true, laidLooks := .later }
def StatisticsFormsCardSaid : Prop := Claim7.holds Tryz.pinned (.plain (OpenSpec.ofChange statisticsFormsSpec)) statisticsFormsCard

/-- THE SECOND FORM's CARD OF 'tscodeclaw33.StatisticsForms'. -/
def statisticsFormsUptoCard : Claim7 := { stood := { row := statisticsFormsUptoRow, standIns := [], harness := (true, "cbfd3093aae7ed9c2a1020248cb484ac8cb16bccce403cbb4c0aec3213b9686b"), looks := false }, kinds := [], alts := [], laidByText := true, laidKinds := [.data, .data, .data], laidTests := true, laidLooks := .later }
def StatisticsFormsUptoCardSaid : Prop := Claim7.holds Tryz.pinned (.plain (OpenSpec.upto statisticsFormsSpec)) statisticsFormsUptoCard
end Rows
end Go.Proofs.YtpnbgalbdohfgaaGreatDoor
