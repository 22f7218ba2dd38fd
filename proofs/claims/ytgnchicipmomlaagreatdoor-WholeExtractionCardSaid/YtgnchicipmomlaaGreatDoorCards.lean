/-
  DERIVED. GIVEN WITH THE SEED: THE CARDS: each row of YtgnchicipmomlaaGreatDoorRows.lean that lists a variable, with what it lists TIED to the program's text (the seventh form; the later family's looks); each row that meets fmt, with fmt's text TOLD by the authors' own Lean function (tested against real Go, not proved from fmt's source: count such statements apart). THE CARD IS WHAT COUNTS. Prove the row's statement (the work); the ties are given (YtgnchicipmomlaaGreatDoorTie.lean); close each card by the builder's one call (the guide's Derived/Test/ToyasCard.lean, 'card_holds'). Laid BY PROGRAM, IN A SANDBOX (cutbox-door.mjs). By AI agents, Wed Nov 11 2026. No macro, syntax, notation, axiom, sorry.
-/
import Derived.Test.YtgnchicipmomlaaGreatDoorRows
import GoSem.ClaimSeven
namespace Go.Proofs.YtgnchicipmomlaaGreatDoor
namespace Rows

/-- THE TIED CARD OF 'calquetop.WholeExtraction'. -/
def wholeExtractionCard : Claim7 := { stood := { row := wholeExtractionRow, standIns := [], harness := (true, "24c8414fe6bda1046522ece5c49dc8a9b568f69d013f743825c42adfef0779d3"), looks := false }, kinds := [], alts := [], laidByText := true, laidKinds := [.data, .data, .data, .data, .pinned], laidTests := true, laidLooks := .later }
def WholeExtractionCardSaid : Prop := Claim7.holds Tryz.pinned (.plain (OpenSpec.ofChange wholeExtractionSpec)) wholeExtractionCard

/-- THE SECOND FORM's CARD OF 'calquetop.WholeExtraction'. -/
def wholeExtractionUptoCard : Claim7 := { stood := { row := wholeExtractionUptoRow, standIns := [], harness := (true, "24c8414fe6bda1046522ece5c49dc8a9b568f69d013f743825c42adfef0779d3"), looks := false }, kinds := [], alts := [], laidByText := true, laidKinds := [.data, .data, .data, .data, .pinned], laidTests := true, laidLooks := .later }
def WholeExtractionUptoCardSaid : Prop := Claim7.holds Tryz.pinned (.plain (OpenSpec.upto wholeExtractionSpec)) wholeExtractionUptoCard
end Rows
end Go.Proofs.YtgnchicipmomlaaGreatDoor
