/-
  DERIVED. GIVEN WITH THE SEED: THE CARDS: each row of YtikbjaopcminaaaDoorRows.lean that lists a variable, with what it lists TIED to the program's text (the seventh form; the later family's looks); each row that meets fmt, with fmt's text TOLD by the authors' own Lean function (tested against real Go, not proved from fmt's source: count such statements apart). THE CARD IS WHAT COUNTS. Prove the row's statement (the work); the ties are given (YtikbjaopcminaaaDoorTie.lean); close each card by the builder's one call (the guide's Derived/Test/ToyasCard.lean, 'card_holds'). Laid BY PROGRAM, IN A SANDBOX (cutbox-door.mjs). By AI agents, Wed Nov 11 2026. No macro, syntax, notation, axiom, sorry.
-/
import Derived.Test.YtikbjaopcminaaaDoorRows
import GoSem.ClaimSeven
namespace Go.Proofs.YtikbjaopcminaaaDoor
namespace Rows

/-- THE TIED CARD OF 'calquelaw36.CatalogNames'. -/
def catalogNamesCard : Claim7 := { stood := { row := catalogNamesRow, standIns := [], harness := (true, "9c5fa882fd887abb321b85d69ab7f216b211b9c20318f4c188add7e9857a4295"), looks := false }, kinds := [], alts := [], laidByText := true, laidKinds := [.data, .pinned], laidTests := true, laidLooks := .later }
def CatalogNamesCardSaid : Prop := Claim7.holds Tryd.pinned (.plain (OpenSpec.ofChange catalogNamesSpec)) catalogNamesCard

/-- THE TIED CARD OF 'calquelaw36.CatalogValid'. -/
def catalogValidCard : Claim7 := { stood := { row := catalogValidRow, standIns := [], harness := (true, "9c5fa882fd887abb321b85d69ab7f216b211b9c20318f4c188add7e9857a4295"), looks := false }, kinds := [], alts := [], laidByText := true, laidKinds := [.data, .pinned], laidTests := true, laidLooks := .later }
def CatalogValidCardSaid : Prop := Claim7.holds Tryd.pinned (.plain (OpenSpec.ofChange catalogValidSpec)) catalogValidCard

/-- THE TIED CARD OF 'calquelaw36.CatalogRemove'. -/
def catalogRemoveCard : Claim7 := { stood := { row := catalogRemoveRow, standIns := [], harness := (true, "9c5fa882fd887abb321b85d69ab7f216b211b9c20318f4c188add7e9857a4295"), looks := false }, kinds := [], alts := [], laidByText := true, laidKinds := [.data, .pinned], laidTests := true, laidLooks := .later }
def CatalogRemoveCardSaid : Prop := Claim7.holds Tryd.pinned (.plain (OpenSpec.ofChange catalogRemoveSpec)) catalogRemoveCard

/-- THE TIED CARD OF 'calquelaw36.CatalogPut'. -/
def catalogPutCard : Claim7 := { stood := { row := catalogPutRow, standIns := [], harness := (true, "9c5fa882fd887abb321b85d69ab7f216b211b9c20318f4c188add7e9857a4295"), looks := false }, kinds := [], alts := [], laidByText := true, laidKinds := [.data, .pinned], laidTests := true, laidLooks := .later }
def CatalogPutCardSaid : Prop := Claim7.holds Tryd.pinned (.plain (OpenSpec.ofChange catalogPutSpec)) catalogPutCard

/-- THE TIED CARD OF 'calquelaw36.CatalogPuts'. -/
def catalogPutsCard : Claim7 := { stood := { row := catalogPutsRow, standIns := [], harness := (true, "9c5fa882fd887abb321b85d69ab7f216b211b9c20318f4c188add7e9857a4295"), looks := false }, kinds := [], alts := [], laidByText := true, laidKinds := [.data, .pinned], laidTests := true, laidLooks := .later }
def CatalogPutsCardSaid : Prop := Claim7.holds Tryd.pinned (.plain (OpenSpec.ofChange catalogPutsSpec)) catalogPutsCard

/-- THE TIED CARD OF 'calquelaw36.CatalogMoves'. -/
def catalogMovesCard : Claim7 := { stood := { row := catalogMovesRow, standIns := [], harness := (true, "9c5fa882fd887abb321b85d69ab7f216b211b9c20318f4c188add7e9857a4295"), looks := false }, kinds := [], alts := [], laidByText := true, laidKinds := [.data, .pinned], laidTests := true, laidLooks := .later }
def CatalogMovesCardSaid : Prop := Claim7.holds Tryd.pinned (.plain (OpenSpec.ofChange catalogMovesSpec)) catalogMovesCard

/-- THE TIED CARD OF 'calquelaw36.CatalogFind'. -/
def catalogFindCard : Claim7 := { stood := { row := catalogFindRow, standIns := [], harness := (true, "9c5fa882fd887abb321b85d69ab7f216b211b9c20318f4c188add7e9857a4295"), looks := false }, kinds := [], alts := [], laidByText := true, laidKinds := [.data, .pinned], laidTests := true, laidLooks := .later }
def CatalogFindCardSaid : Prop := Claim7.holds Tryd.pinned (.plain (OpenSpec.ofChange catalogFindSpec)) catalogFindCard

/-- THE TIED CARD OF 'calquelaw36.CatalogFields'. -/
def catalogFieldsCard : Claim7 := { stood := { row := catalogFieldsRow, standIns := [], harness := (true, "9c5fa882fd887abb321b85d69ab7f216b211b9c20318f4c188add7e9857a4295"), looks := false }, kinds := [], alts := [], laidByText := true, laidKinds := [.data, .pinned], laidTests := true, laidLooks := .later }
def CatalogFieldsCardSaid : Prop := Claim7.holds Tryd.pinned (.plain (OpenSpec.ofChange catalogFieldsSpec)) catalogFieldsCard

/-- THE TIED CARD OF 'calquelaw36.CatalogSets'. -/
def catalogSetsCard : Claim7 := { stood := { row := catalogSetsRow, standIns := [], harness := (true, "9c5fa882fd887abb321b85d69ab7f216b211b9c20318f4c188add7e9857a4295"), looks := false }, kinds := [], alts := [], laidByText := true, laidKinds := [.data, .pinned], laidTests := true, laidLooks := .later }
def CatalogSetsCardSaid : Prop := Claim7.holds Tryd.pinned (.plain (OpenSpec.ofChange catalogSetsSpec)) catalogSetsCard

/-- THE SECOND FORM's CARD OF 'calquelaw36.CatalogNames'. -/
def catalogNamesUptoCard : Claim7 := { stood := { row := catalogNamesUptoRow, standIns := [], harness := (true, "9c5fa882fd887abb321b85d69ab7f216b211b9c20318f4c188add7e9857a4295"), looks := false }, kinds := [], alts := [], laidByText := true, laidKinds := [.data, .pinned], laidTests := true, laidLooks := .later }
def CatalogNamesUptoCardSaid : Prop := Claim7.holds Tryd.pinned (.plain (OpenSpec.upto catalogNamesSpec)) catalogNamesUptoCard

/-- THE SECOND FORM's CARD OF 'calquelaw36.CatalogValid'. -/
def catalogValidUptoCard : Claim7 := { stood := { row := catalogValidUptoRow, standIns := [], harness := (true, "9c5fa882fd887abb321b85d69ab7f216b211b9c20318f4c188add7e9857a4295"), looks := false }, kinds := [], alts := [], laidByText := true, laidKinds := [.data, .pinned], laidTests := true, laidLooks := .later }
def CatalogValidUptoCardSaid : Prop := Claim7.holds Tryd.pinned (.plain (OpenSpec.upto catalogValidSpec)) catalogValidUptoCard

/-- THE SECOND FORM's CARD OF 'calquelaw36.CatalogRemove'. -/
def catalogRemoveUptoCard : Claim7 := { stood := { row := catalogRemoveUptoRow, standIns := [], harness := (true, "9c5fa882fd887abb321b85d69ab7f216b211b9c20318f4c188add7e9857a4295"), looks := false }, kinds := [], alts := [], laidByText := true, laidKinds := [.data, .pinned], laidTests := true, laidLooks := .later }
def CatalogRemoveUptoCardSaid : Prop := Claim7.holds Tryd.pinned (.plain (OpenSpec.upto catalogRemoveSpec)) catalogRemoveUptoCard

/-- THE SECOND FORM's CARD OF 'calquelaw36.CatalogPut'. -/
def catalogPutUptoCard : Claim7 := { stood := { row := catalogPutUptoRow, standIns := [], harness := (true, "9c5fa882fd887abb321b85d69ab7f216b211b9c20318f4c188add7e9857a4295"), looks := false }, kinds := [], alts := [], laidByText := true, laidKinds := [.data, .pinned], laidTests := true, laidLooks := .later }
def CatalogPutUptoCardSaid : Prop := Claim7.holds Tryd.pinned (.plain (OpenSpec.upto catalogPutSpec)) catalogPutUptoCard

/-- THE SECOND FORM's CARD OF 'calquelaw36.CatalogPuts'. -/
def catalogPutsUptoCard : Claim7 := { stood := { row := catalogPutsUptoRow, standIns := [], harness := (true, "9c5fa882fd887abb321b85d69ab7f216b211b9c20318f4c188add7e9857a4295"), looks := false }, kinds := [], alts := [], laidByText := true, laidKinds := [.data, .pinned], laidTests := true, laidLooks := .later }
def CatalogPutsUptoCardSaid : Prop := Claim7.holds Tryd.pinned (.plain (OpenSpec.upto catalogPutsSpec)) catalogPutsUptoCard

/-- THE SECOND FORM's CARD OF 'calquelaw36.CatalogMoves'. -/
def catalogMovesUptoCard : Claim7 := { stood := { row := catalogMovesUptoRow, standIns := [], harness := (true, "9c5fa882fd887abb321b85d69ab7f216b211b9c20318f4c188add7e9857a4295"), looks := false }, kinds := [], alts := [], laidByText := true, laidKinds := [.data, .pinned], laidTests := true, laidLooks := .later }
def CatalogMovesUptoCardSaid : Prop := Claim7.holds Tryd.pinned (.plain (OpenSpec.upto catalogMovesSpec)) catalogMovesUptoCard

/-- THE SECOND FORM's CARD OF 'calquelaw36.CatalogFind'. -/
def catalogFindUptoCard : Claim7 := { stood := { row := catalogFindUptoRow, standIns := [], harness := (true, "9c5fa882fd887abb321b85d69ab7f216b211b9c20318f4c188add7e9857a4295"), looks := false }, kinds := [], alts := [], laidByText := true, laidKinds := [.data, .pinned], laidTests := true, laidLooks := .later }
def CatalogFindUptoCardSaid : Prop := Claim7.holds Tryd.pinned (.plain (OpenSpec.upto catalogFindSpec)) catalogFindUptoCard

/-- THE SECOND FORM's CARD OF 'calquelaw36.CatalogFields'. -/
def catalogFieldsUptoCard : Claim7 := { stood := { row := catalogFieldsUptoRow, standIns := [], harness := (true, "9c5fa882fd887abb321b85d69ab7f216b211b9c20318f4c188add7e9857a4295"), looks := false }, kinds := [], alts := [], laidByText := true, laidKinds := [.data, .pinned], laidTests := true, laidLooks := .later }
def CatalogFieldsUptoCardSaid : Prop := Claim7.holds Tryd.pinned (.plain (OpenSpec.upto catalogFieldsSpec)) catalogFieldsUptoCard

/-- THE SECOND FORM's CARD OF 'calquelaw36.CatalogSets'. -/
def catalogSetsUptoCard : Claim7 := { stood := { row := catalogSetsUptoRow, standIns := [], harness := (true, "9c5fa882fd887abb321b85d69ab7f216b211b9c20318f4c188add7e9857a4295"), looks := false }, kinds := [], alts := [], laidByText := true, laidKinds := [.data, .pinned], laidTests := true, laidLooks := .later }
def CatalogSetsUptoCardSaid : Prop := Claim7.holds Tryd.pinned (.plain (OpenSpec.upto catalogSetsSpec)) catalogSetsUptoCard
end Rows
end Go.Proofs.YtikbjaopcminaaaDoor
