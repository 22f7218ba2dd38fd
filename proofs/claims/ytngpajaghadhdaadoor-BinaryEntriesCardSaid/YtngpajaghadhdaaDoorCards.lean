/-
  DERIVED. GIVEN WITH THE SEED: THE CARDS: each row of YtngpajaghadhdaaDoorRows.lean that lists a variable, with what it lists TIED to the program's text (the seventh form; the later family's looks); each row that meets fmt, with fmt's text TOLD by the authors' own Lean function (tested against real Go, not proved from fmt's source: count such statements apart). THE CARD IS WHAT COUNTS. Prove the row's statement (the work); the ties are given (YtngpajaghadhdaaDoorTie.lean); close each card by the builder's one call (the guide's Derived/Test/ToyasCard.lean, 'card_holds'). Laid BY PROGRAM, IN A SANDBOX (cutbox-door.mjs). By AI agents, Wed Nov 11 2026. No macro, syntax, notation, axiom, sorry.
-/
import Derived.Test.YtngpajaghadhdaaDoorRows
import GoSem.ClaimSeven
namespace Go.Proofs.YtngpajaghadhdaaDoor
namespace Rows

/-- THE TIED CARD OF 'calquelaw42.BinaryEncode'. -/
def binaryEncodeCard : Claim7 := { stood := { row := binaryEncodeRow, standIns := [], harness := (true, "6fa67bb511e35bae8a07c727d63698060d7d4b48e30947b50213305835ad77f1"), looks := false }, kinds := [], alts := [], laidByText := true, laidKinds := [.data, .pinned], laidTests := true, laidLooks := .later }
def BinaryEncodeCardSaid : Prop := Claim7.holds Tryd.pinned (.plain (OpenSpec.ofChange binaryEncodeSpec)) binaryEncodeCard

/-- THE TIED CARD OF 'calquelaw42.BinaryDirectory'. -/
def binaryDirectoryCard : Claim7 := { stood := { row := binaryDirectoryRow, standIns := [], harness := (true, "6fa67bb511e35bae8a07c727d63698060d7d4b48e30947b50213305835ad77f1"), looks := false }, kinds := [], alts := [], laidByText := true, laidKinds := [.data, .pinned], laidTests := true, laidLooks := .later }
def BinaryDirectoryCardSaid : Prop := Claim7.holds Tryd.pinned (.plain (OpenSpec.ofChange binaryDirectorySpec)) binaryDirectoryCard

/-- THE TIED CARD OF 'calquelaw42.BinaryInverse'. -/
def binaryInverseCard : Claim7 := { stood := { row := binaryInverseRow, standIns := [], harness := (true, "6fa67bb511e35bae8a07c727d63698060d7d4b48e30947b50213305835ad77f1"), looks := false }, kinds := [], alts := [], laidByText := true, laidKinds := [.data, .pinned], laidTests := true, laidLooks := .later }
def BinaryInverseCardSaid : Prop := Claim7.holds Tryd.pinned (.plain (OpenSpec.ofChange binaryInverseSpec)) binaryInverseCard

/-- THE TIED CARD OF 'calquelaw42.BinaryLength'. -/
def binaryLengthCard : Claim7 := { stood := { row := binaryLengthRow, standIns := [], harness := (true, "6fa67bb511e35bae8a07c727d63698060d7d4b48e30947b50213305835ad77f1"), looks := false }, kinds := [], alts := [], laidByText := true, laidKinds := [.data, .pinned], laidTests := true, laidLooks := .later }
def BinaryLengthCardSaid : Prop := Claim7.holds Tryd.pinned (.plain (OpenSpec.ofChange binaryLengthSpec)) binaryLengthCard

/-- THE TIED CARD OF 'calquelaw42.BinaryEntries'. -/
def binaryEntriesCard : Claim7 := { stood := { row := binaryEntriesRow, standIns := [], harness := (true, "6fa67bb511e35bae8a07c727d63698060d7d4b48e30947b50213305835ad77f1"), looks := false }, kinds := [], alts := [], laidByText := true, laidKinds := [.data, .pinned], laidTests := true, laidLooks := .later }
def BinaryEntriesCardSaid : Prop := Claim7.holds Tryd.pinned (.plain (OpenSpec.ofChange binaryEntriesSpec)) binaryEntriesCard

/-- THE SECOND FORM's CARD OF 'calquelaw42.BinaryEncode'. -/
def binaryEncodeUptoCard : Claim7 := { stood := { row := binaryEncodeUptoRow, standIns := [], harness := (true, "6fa67bb511e35bae8a07c727d63698060d7d4b48e30947b50213305835ad77f1"), looks := false }, kinds := [], alts := [], laidByText := true, laidKinds := [.data, .pinned], laidTests := true, laidLooks := .later }
def BinaryEncodeUptoCardSaid : Prop := Claim7.holds Tryd.pinned (.plain (OpenSpec.upto binaryEncodeSpec)) binaryEncodeUptoCard

/-- THE SECOND FORM's CARD OF 'calquelaw42.BinaryDirectory'. -/
def binaryDirectoryUptoCard : Claim7 := { stood := { row := binaryDirectoryUptoRow, standIns := [], harness := (true, "6fa67bb511e35bae8a07c727d63698060d7d4b48e30947b50213305835ad77f1"), looks := false }, kinds := [], alts := [], laidByText := true, laidKinds := [.data, .pinned], laidTests := true, laidLooks := .later }
def BinaryDirectoryUptoCardSaid : Prop := Claim7.holds Tryd.pinned (.plain (OpenSpec.upto binaryDirectorySpec)) binaryDirectoryUptoCard

/-- THE SECOND FORM's CARD OF 'calquelaw42.BinaryInverse'. -/
def binaryInverseUptoCard : Claim7 := { stood := { row := binaryInverseUptoRow, standIns := [], harness := (true, "6fa67bb511e35bae8a07c727d63698060d7d4b48e30947b50213305835ad77f1"), looks := false }, kinds := [], alts := [], laidByText := true, laidKinds := [.data, .pinned], laidTests := true, laidLooks := .later }
def BinaryInverseUptoCardSaid : Prop := Claim7.holds Tryd.pinned (.plain (OpenSpec.upto binaryInverseSpec)) binaryInverseUptoCard

/-- THE SECOND FORM's CARD OF 'calquelaw42.BinaryLength'. -/
def binaryLengthUptoCard : Claim7 := { stood := { row := binaryLengthUptoRow, standIns := [], harness := (true, "6fa67bb511e35bae8a07c727d63698060d7d4b48e30947b50213305835ad77f1"), looks := false }, kinds := [], alts := [], laidByText := true, laidKinds := [.data, .pinned], laidTests := true, laidLooks := .later }
def BinaryLengthUptoCardSaid : Prop := Claim7.holds Tryd.pinned (.plain (OpenSpec.upto binaryLengthSpec)) binaryLengthUptoCard

/-- THE SECOND FORM's CARD OF 'calquelaw42.BinaryEntries'. -/
def binaryEntriesUptoCard : Claim7 := { stood := { row := binaryEntriesUptoRow, standIns := [], harness := (true, "6fa67bb511e35bae8a07c727d63698060d7d4b48e30947b50213305835ad77f1"), looks := false }, kinds := [], alts := [], laidByText := true, laidKinds := [.data, .pinned], laidTests := true, laidLooks := .later }
def BinaryEntriesUptoCardSaid : Prop := Claim7.holds Tryd.pinned (.plain (OpenSpec.upto binaryEntriesSpec)) binaryEntriesUptoCard
end Rows
end Go.Proofs.YtngpajaghadhdaaDoor
