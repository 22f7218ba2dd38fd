/-
  DERIVED. GIVEN WITH THE SEED: THE CARDS: each row of YtghndnacmpckbaaGreatDoorRows.lean that lists a variable, with what it lists TIED to the program's text (the seventh form; the later family's looks); each row that meets fmt, with fmt's text TOLD by the authors' own Lean function (tested against real Go, not proved from fmt's source: count such statements apart). THE CARD IS WHAT COUNTS. Prove the row's statement (the work); the ties are given (YtghndnacmpckbaaGreatDoorTie.lean); close each card by the builder's one call (the guide's Derived/Test/ToyasCard.lean, 'card_holds'). Laid BY PROGRAM, IN A SANDBOX (cutbox-door.mjs). By AI agents, Wed Nov 11 2026. No macro, syntax, notation, axiom, sorry.
-/
import Derived.Test.YtghndnacmpckbaaGreatDoorRows
import GoSem.ClaimSeven
namespace Go.Proofs.YtghndnacmpckbaaGreatDoor
namespace Rows

/-- THE TIED CARD OF 'calquelaw55.PatchApply'. -/
def patchApplyCard : Claim7 := { stood := { row := patchApplyRow, standIns := [], harness := (true, "13e933532a42f60b4d8f6f13d4aba6261c62189e90564632565fc19d0c41f0ca"), looks := true }, kinds := [], alts := [], laidByText := true, laidKinds := [.data, .data, .data, .sentinel, .sentinel], laidTests := true, laidLooks := .later }
def PatchApplyCardSaid : Prop := Claim7.holds Tryz.pinned (.plain (OpenSpec.ofChange patchApplySpec)) patchApplyCard

/-- THE SECOND FORM's CARD OF 'calquelaw55.PatchApply'. -/
def patchApplyUptoCard : Claim7 := { stood := { row := patchApplyUptoRow, standIns := [], harness := (true, "13e933532a42f60b4d8f6f13d4aba6261c62189e90564632565fc19d0c41f0ca"), looks := true }, kinds := [], alts := [], laidByText := true, laidKinds := [.data, .data, .data, .sentinel, .sentinel], laidTests := true, laidLooks := .later }
def PatchApplyUptoCardSaid : Prop := Claim7.holds Tryz.pinned (.plain (OpenSpec.upto patchApplySpec)) patchApplyUptoCard
end Rows
end Go.Proofs.YtghndnacmpckbaaGreatDoor
