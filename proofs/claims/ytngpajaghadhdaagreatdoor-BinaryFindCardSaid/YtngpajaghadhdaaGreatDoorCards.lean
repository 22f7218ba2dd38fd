/-
  DERIVED. GIVEN WITH THE SEED: THE CARDS: each row of YtngpajaghadhdaaGreatDoorRows.lean that lists a variable, with what it lists TIED to the program's text (the seventh form; the later family's looks); each row that meets fmt, with fmt's text TOLD by the authors' own Lean function (tested against real Go, not proved from fmt's source: count such statements apart). THE CARD IS WHAT COUNTS. Prove the row's statement (the work); the ties are given (YtngpajaghadhdaaGreatDoorTie.lean); close each card by the builder's one call (the guide's Derived/Test/ToyasCard.lean, 'card_holds'). Laid BY PROGRAM, IN A SANDBOX (cutbox-door.mjs). By AI agents, Wed Nov 11 2026. No macro, syntax, notation, axiom, sorry.
-/
import Derived.Test.YtngpajaghadhdaaGreatDoorRows
import GoSem.ClaimSeven
namespace Go.Proofs.YtngpajaghadhdaaGreatDoor
namespace Rows

/-- THE TIED CARD OF 'calquelaw42.BinaryDecode'. -/
def binaryDecodeCard : Claim7 := { stood := { row := binaryDecodeRow, standIns := [], harness := (true, "5ebf0f7114aff0ea5b739b042c703915024161563fc99a968fec4373a03b0aee"), looks := false }, kinds := [], alts := [], laidByText := true, laidKinds := [.data, .pinned], laidTests := true, laidLooks := .later }
def BinaryDecodeCardSaid : Prop := Claim7.holds Tryz.pinned (.plain (OpenSpec.ofChange binaryDecodeSpec)) binaryDecodeCard

/-- THE TIED CARD OF 'calquelaw42.BinaryFind'. -/
def binaryFindCard : Claim7 := { stood := { row := binaryFindRow, standIns := [], harness := (true, "5ebf0f7114aff0ea5b739b042c703915024161563fc99a968fec4373a03b0aee"), looks := false }, kinds := [], alts := [], laidByText := true, laidKinds := [.data, .pinned], laidTests := true, laidLooks := .later }
def BinaryFindCardSaid : Prop := Claim7.holds Tryz.pinned (.plain (OpenSpec.ofChange binaryFindSpec)) binaryFindCard

/-- THE SECOND FORM's CARD OF 'calquelaw42.BinaryDecode'. -/
def binaryDecodeUptoCard : Claim7 := { stood := { row := binaryDecodeUptoRow, standIns := [], harness := (true, "5ebf0f7114aff0ea5b739b042c703915024161563fc99a968fec4373a03b0aee"), looks := false }, kinds := [], alts := [], laidByText := true, laidKinds := [.data, .pinned], laidTests := true, laidLooks := .later }
def BinaryDecodeUptoCardSaid : Prop := Claim7.holds Tryz.pinned (.plain (OpenSpec.upto binaryDecodeSpec)) binaryDecodeUptoCard

/-- THE SECOND FORM's CARD OF 'calquelaw42.BinaryFind'. -/
def binaryFindUptoCard : Claim7 := { stood := { row := binaryFindUptoRow, standIns := [], harness := (true, "5ebf0f7114aff0ea5b739b042c703915024161563fc99a968fec4373a03b0aee"), looks := false }, kinds := [], alts := [], laidByText := true, laidKinds := [.data, .pinned], laidTests := true, laidLooks := .later }
def BinaryFindUptoCardSaid : Prop := Claim7.holds Tryz.pinned (.plain (OpenSpec.upto binaryFindSpec)) binaryFindUptoCard
end Rows
end Go.Proofs.YtngpajaghadhdaaGreatDoor
