/-
  DERIVED. GIVEN WITH THE SEED: THE CARDS: each row of YtoghaehcmbonnaaGreatDoorRows.lean that lists a variable, with what it lists TIED to the program's text (the seventh form; the later family's looks); each row that meets fmt, with fmt's text TOLD by the authors' own Lean function (tested against real Go, not proved from fmt's source: count such statements apart). THE CARD IS WHAT COUNTS. Prove the row's statement (the work); the ties are given (YtoghaehcmbonnaaGreatDoorTie.lean); close each card by the builder's one call (the guide's Derived/Test/ToyasCard.lean, 'card_holds'). Laid BY PROGRAM, IN A SANDBOX (cutbox-door.mjs). By AI agents, Wed Nov 11 2026. No macro, syntax, notation, axiom, sorry.
-/
import Derived.Test.YtoghaehcmbonnaaGreatDoorRows
import GoSem.ClaimSeven
namespace Go.Proofs.YtoghaehcmbonnaaGreatDoor
namespace Rows

/-- THE TIED CARD OF 'calquelaw57.JournalOpen'. -/
def journalOpenCard : Claim7 := { stood := { row := journalOpenRow, standIns := [], harness := (true, "6ed488510e17bcbb720f01e0173d36196c870ec60b9e06f50e5413e591991dfb"), looks := true }, kinds := [], alts := [], laidByText := true, laidKinds := [.data, .data, .data, .sentinel, .sentinel, .sentinel], laidTests := true, laidLooks := .later }
def JournalOpenCardSaid : Prop := Claim7.holds Tryz.pinned (.plain (OpenSpec.ofChange journalOpenSpec)) journalOpenCard

/-- THE TIED CARD OF 'calquelaw57.JournalCrash'. -/
def journalCrashCard : Claim7 := { stood := { row := journalCrashRow, standIns := [], harness := (true, "6ed488510e17bcbb720f01e0173d36196c870ec60b9e06f50e5413e591991dfb"), looks := true }, kinds := [], alts := [], laidByText := true, laidKinds := [.data, .data, .data, .sentinel, .sentinel, .sentinel], laidTests := true, laidLooks := .later }
def JournalCrashCardSaid : Prop := Claim7.holds Tryz.pinned (.plain (OpenSpec.ofChange journalCrashSpec)) journalCrashCard

/-- THE TIED CARD OF 'calquelaw57.JournalDamage'. -/
def journalDamageCard : Claim7 := { stood := { row := journalDamageRow, standIns := [], harness := (true, "6ed488510e17bcbb720f01e0173d36196c870ec60b9e06f50e5413e591991dfb"), looks := true }, kinds := [], alts := [], laidByText := true, laidKinds := [.data, .data, .data, .sentinel, .sentinel, .sentinel], laidTests := true, laidLooks := .later }
def JournalDamageCardSaid : Prop := Claim7.holds Tryz.pinned (.plain (OpenSpec.ofChange journalDamageSpec)) journalDamageCard

/-- THE TIED CARD OF 'calquelaw57.JournalScript'. -/
def journalScriptCard : Claim7 := { stood := { row := journalScriptRow, standIns := [], harness := (true, "6ed488510e17bcbb720f01e0173d36196c870ec60b9e06f50e5413e591991dfb"), looks := true }, kinds := [], alts := [], laidByText := true, laidKinds := [.data, .data, .data, .sentinel, .sentinel, .sentinel], laidTests := true, laidLooks := .later }
def JournalScriptCardSaid : Prop := Claim7.holds Tryz.pinned (.plain (OpenSpec.ofChange journalScriptSpec)) journalScriptCard

/-- THE SECOND FORM's CARD OF 'calquelaw57.JournalOpen'. -/
def journalOpenUptoCard : Claim7 := { stood := { row := journalOpenUptoRow, standIns := [], harness := (true, "6ed488510e17bcbb720f01e0173d36196c870ec60b9e06f50e5413e591991dfb"), looks := true }, kinds := [], alts := [], laidByText := true, laidKinds := [.data, .data, .data, .sentinel, .sentinel, .sentinel], laidTests := true, laidLooks := .later }
def JournalOpenUptoCardSaid : Prop := Claim7.holds Tryz.pinned (.plain (OpenSpec.upto journalOpenSpec)) journalOpenUptoCard

/-- THE SECOND FORM's CARD OF 'calquelaw57.JournalCrash'. -/
def journalCrashUptoCard : Claim7 := { stood := { row := journalCrashUptoRow, standIns := [], harness := (true, "6ed488510e17bcbb720f01e0173d36196c870ec60b9e06f50e5413e591991dfb"), looks := true }, kinds := [], alts := [], laidByText := true, laidKinds := [.data, .data, .data, .sentinel, .sentinel, .sentinel], laidTests := true, laidLooks := .later }
def JournalCrashUptoCardSaid : Prop := Claim7.holds Tryz.pinned (.plain (OpenSpec.upto journalCrashSpec)) journalCrashUptoCard

/-- THE SECOND FORM's CARD OF 'calquelaw57.JournalDamage'. -/
def journalDamageUptoCard : Claim7 := { stood := { row := journalDamageUptoRow, standIns := [], harness := (true, "6ed488510e17bcbb720f01e0173d36196c870ec60b9e06f50e5413e591991dfb"), looks := true }, kinds := [], alts := [], laidByText := true, laidKinds := [.data, .data, .data, .sentinel, .sentinel, .sentinel], laidTests := true, laidLooks := .later }
def JournalDamageUptoCardSaid : Prop := Claim7.holds Tryz.pinned (.plain (OpenSpec.upto journalDamageSpec)) journalDamageUptoCard

/-- THE SECOND FORM's CARD OF 'calquelaw57.JournalScript'. -/
def journalScriptUptoCard : Claim7 := { stood := { row := journalScriptUptoRow, standIns := [], harness := (true, "6ed488510e17bcbb720f01e0173d36196c870ec60b9e06f50e5413e591991dfb"), looks := true }, kinds := [], alts := [], laidByText := true, laidKinds := [.data, .data, .data, .sentinel, .sentinel, .sentinel], laidTests := true, laidLooks := .later }
def JournalScriptUptoCardSaid : Prop := Claim7.holds Tryz.pinned (.plain (OpenSpec.upto journalScriptSpec)) journalScriptUptoCard
end Rows
end Go.Proofs.YtoghaehcmbonnaaGreatDoor
