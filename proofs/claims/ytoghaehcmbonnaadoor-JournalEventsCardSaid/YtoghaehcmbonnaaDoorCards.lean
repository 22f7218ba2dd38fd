/-
  DERIVED. GIVEN WITH THE SEED: THE CARDS: each row of YtoghaehcmbonnaaDoorRows.lean that lists a variable, with what it lists TIED to the program's text (the seventh form; the later family's looks); each row that meets fmt, with fmt's text TOLD by the authors' own Lean function (tested against real Go, not proved from fmt's source: count such statements apart). THE CARD IS WHAT COUNTS. Prove the row's statement (the work); the ties are given (YtoghaehcmbonnaaDoorTie.lean); close each card by the builder's one call (the guide's Derived/Test/ToyasCard.lean, 'card_holds'). Laid BY PROGRAM, IN A SANDBOX (cutbox-door.mjs). By AI agents, Wed Nov 11 2026. No macro, syntax, notation, axiom, sorry.
-/
import Derived.Test.YtoghaehcmbonnaaDoorRows
import GoSem.ClaimSeven
namespace Go.Proofs.YtoghaehcmbonnaaDoor
namespace Rows

/-- THE TIED CARD OF 'calquelaw57.JournalBytes'. -/
def journalBytesCard : Claim7 := { stood := { row := journalBytesRow, standIns := [], harness := (true, "02c85c83ab8a5d03dfbc354c471f8405779c5ce19dc3d8cebe1d88944336b93d"), looks := false }, kinds := [], alts := [], laidByText := true, laidKinds := [.data, .data, .data, .sentinel], laidTests := true, laidLooks := .later }
def JournalBytesCardSaid : Prop := Claim7.holds Tryd.pinned (.plain (OpenSpec.ofChange journalBytesSpec)) journalBytesCard

/-- THE TIED CARD OF 'calquelaw57.JournalNil'. -/
def journalNilCard : Claim7 := { stood := { row := journalNilRow, standIns := [], harness := (true, "02c85c83ab8a5d03dfbc354c471f8405779c5ce19dc3d8cebe1d88944336b93d"), looks := false }, kinds := [], alts := [], laidByText := true, laidKinds := [.data, .data, .data, .sentinel], laidTests := true, laidLooks := .later }
def JournalNilCardSaid : Prop := Claim7.holds Tryd.pinned (.plain (OpenSpec.ofChange journalNilSpec)) journalNilCard

/-- THE TIED CARD OF 'calquelaw57.JournalEvents'. -/
def journalEventsCard : Claim7 := { stood := { row := journalEventsRow, standIns := [], harness := (true, "02c85c83ab8a5d03dfbc354c471f8405779c5ce19dc3d8cebe1d88944336b93d"), looks := false }, kinds := [], alts := [], laidByText := true, laidKinds := [.data, .data, .data, .sentinel], laidTests := true, laidLooks := .later }
def JournalEventsCardSaid : Prop := Claim7.holds Tryd.pinned (.plain (OpenSpec.ofChange journalEventsSpec)) journalEventsCard

/-- THE SECOND FORM's CARD OF 'calquelaw57.JournalBytes'. -/
def journalBytesUptoCard : Claim7 := { stood := { row := journalBytesUptoRow, standIns := [], harness := (true, "02c85c83ab8a5d03dfbc354c471f8405779c5ce19dc3d8cebe1d88944336b93d"), looks := false }, kinds := [], alts := [], laidByText := true, laidKinds := [.data, .data, .data, .sentinel], laidTests := true, laidLooks := .later }
def JournalBytesUptoCardSaid : Prop := Claim7.holds Tryd.pinned (.plain (OpenSpec.upto journalBytesSpec)) journalBytesUptoCard

/-- THE SECOND FORM's CARD OF 'calquelaw57.JournalNil'. -/
def journalNilUptoCard : Claim7 := { stood := { row := journalNilUptoRow, standIns := [], harness := (true, "02c85c83ab8a5d03dfbc354c471f8405779c5ce19dc3d8cebe1d88944336b93d"), looks := false }, kinds := [], alts := [], laidByText := true, laidKinds := [.data, .data, .data, .sentinel], laidTests := true, laidLooks := .later }
def JournalNilUptoCardSaid : Prop := Claim7.holds Tryd.pinned (.plain (OpenSpec.upto journalNilSpec)) journalNilUptoCard

/-- THE SECOND FORM's CARD OF 'calquelaw57.JournalEvents'. -/
def journalEventsUptoCard : Claim7 := { stood := { row := journalEventsUptoRow, standIns := [], harness := (true, "02c85c83ab8a5d03dfbc354c471f8405779c5ce19dc3d8cebe1d88944336b93d"), looks := false }, kinds := [], alts := [], laidByText := true, laidKinds := [.data, .data, .data, .sentinel], laidTests := true, laidLooks := .later }
def JournalEventsUptoCardSaid : Prop := Claim7.holds Tryd.pinned (.plain (OpenSpec.upto journalEventsSpec)) journalEventsUptoCard
end Rows
end Go.Proofs.YtoghaehcmbonnaaDoor
