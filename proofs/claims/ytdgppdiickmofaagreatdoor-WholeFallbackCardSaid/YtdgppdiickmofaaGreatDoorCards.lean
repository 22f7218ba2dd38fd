/-
  DERIVED. GIVEN WITH THE SEED: THE CARDS: each row of YtdgppdiickmofaaGreatDoorRows.lean that lists a variable, with what it lists TIED to the program's text (the seventh form; the later family's looks); each row that meets fmt, with fmt's text TOLD by the authors' own Lean function (tested against real Go, not proved from fmt's source: count such statements apart). THE CARD IS WHAT COUNTS. Prove the row's statement (the work); the ties are given (YtdgppdiickmofaaGreatDoorTie.lean); close each card by the builder's one call (the guide's Derived/Test/ToyasCard.lean, 'card_holds'). Laid BY PROGRAM, IN A SANDBOX (cutbox-door.mjs). By AI agents, Wed Nov 11 2026. No macro, syntax, notation, axiom, sorry.
-/
import Derived.Test.YtdgppdiickmofaaGreatDoorRows
import GoSem.ClaimSeven
namespace Go.Proofs.YtdgppdiickmofaaGreatDoor
namespace Rows

/-- THE TIED CARD OF 'calquetop.WholeFallback'. -/
def wholeFallbackCard : Claim7 := { stood := { row := wholeFallbackRow, standIns := [], harness := (true, "b92d240baa2b9e56b78ca8b9b899ab464523bbd66cd492d2b3e0e6073f944bdc"), looks := false }, kinds := [], alts := [], laidByText := true, laidKinds := [.data, .pinned], laidTests := true, laidLooks := .later }
def WholeFallbackCardSaid : Prop := Claim7.holds Tryz.pinned (.plain (OpenSpec.ofChange wholeFallbackSpec)) wholeFallbackCard

/-- THE SECOND FORM's CARD OF 'calquetop.WholeFallback'. -/
def wholeFallbackUptoCard : Claim7 := { stood := { row := wholeFallbackUptoRow, standIns := [], harness := (true, "b92d240baa2b9e56b78ca8b9b899ab464523bbd66cd492d2b3e0e6073f944bdc"), looks := false }, kinds := [], alts := [], laidByText := true, laidKinds := [.data, .pinned], laidTests := true, laidLooks := .later }
def WholeFallbackUptoCardSaid : Prop := Claim7.holds Tryz.pinned (.plain (OpenSpec.upto wholeFallbackSpec)) wholeFallbackUptoCard
end Rows
end Go.Proofs.YtdgppdiickmofaaGreatDoor
