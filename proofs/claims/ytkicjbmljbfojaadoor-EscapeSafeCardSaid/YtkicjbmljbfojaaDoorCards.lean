/-
  DERIVED. GIVEN WITH THE SEED: THE CARDS: each row of YtkicjbmljbfojaaDoorRows.lean that lists a variable, with what it lists TIED to the program's text (the seventh form; the later family's looks); each row that meets fmt, with fmt's text TOLD by the authors' own Lean function (tested against real Go, not proved from fmt's source: count such statements apart). THE CARD IS WHAT COUNTS. Prove the row's statement (the work); the ties are given (YtkicjbmljbfojaaDoorTie.lean); close each card by the builder's one call (the guide's Derived/Test/ToyasCard.lean, 'card_holds'). Laid BY PROGRAM, IN A SANDBOX (cutbox-door.mjs). By AI agents, Wed Nov 11 2026. No macro, syntax, notation, axiom, sorry.
-/
import Derived.Test.YtkicjbmljbfojaaDoorRows
import GoSem.ClaimSeven
namespace Go.Proofs.YtkicjbmljbfojaaDoor
namespace Rows

/-- THE TIED CARD OF 'calquelaw02.EscapeEscape'. -/
def escapeEscapeCard : Claim7 := { stood := { row := escapeEscapeRow, standIns := [], harness := (true, "656579b63e37a2255a7321608a29baa40268fa6cbe01712e34ae4ac7ddebd375"), looks := false }, kinds := [], alts := [], laidByText := true, laidKinds := [.data, .data, .data], laidTests := true, laidLooks := .later }
def EscapeEscapeCardSaid : Prop := Claim7.holds Tryd.pinned (.plain (OpenSpec.ofChange escapeEscapeSpec)) escapeEscapeCard

/-- THE TIED CARD OF 'calquelaw02.EscapeUnescape'. -/
def escapeUnescapeCard : Claim7 := { stood := { row := escapeUnescapeRow, standIns := [], harness := (true, "656579b63e37a2255a7321608a29baa40268fa6cbe01712e34ae4ac7ddebd375"), looks := false }, kinds := [], alts := [], laidByText := true, laidKinds := [.data, .data, .data], laidTests := true, laidLooks := .later }
def EscapeUnescapeCardSaid : Prop := Claim7.holds Tryd.pinned (.plain (OpenSpec.ofChange escapeUnescapeSpec)) escapeUnescapeCard

/-- THE TIED CARD OF 'calquelaw02.EscapeInverse'. -/
def escapeInverseCard : Claim7 := { stood := { row := escapeInverseRow, standIns := [], harness := (true, "656579b63e37a2255a7321608a29baa40268fa6cbe01712e34ae4ac7ddebd375"), looks := false }, kinds := [], alts := [], laidByText := true, laidKinds := [.data, .data, .data], laidTests := true, laidLooks := .later }
def EscapeInverseCardSaid : Prop := Claim7.holds Tryd.pinned (.plain (OpenSpec.ofChange escapeInverseSpec)) escapeInverseCard

/-- THE TIED CARD OF 'calquelaw02.EscapeJoins'. -/
def escapeJoinsCard : Claim7 := { stood := { row := escapeJoinsRow, standIns := [], harness := (true, "656579b63e37a2255a7321608a29baa40268fa6cbe01712e34ae4ac7ddebd375"), looks := false }, kinds := [], alts := [], laidByText := true, laidKinds := [.data, .data, .data], laidTests := true, laidLooks := .later }
def EscapeJoinsCardSaid : Prop := Claim7.holds Tryd.pinned (.plain (OpenSpec.ofChange escapeJoinsSpec)) escapeJoinsCard

/-- THE TIED CARD OF 'calquelaw02.EscapeLetters'. -/
def escapeLettersCard : Claim7 := { stood := { row := escapeLettersRow, standIns := [], harness := (true, "656579b63e37a2255a7321608a29baa40268fa6cbe01712e34ae4ac7ddebd375"), looks := false }, kinds := [], alts := [], laidByText := true, laidKinds := [.data, .data, .data], laidTests := true, laidLooks := .later }
def EscapeLettersCardSaid : Prop := Claim7.holds Tryd.pinned (.plain (OpenSpec.ofChange escapeLettersSpec)) escapeLettersCard

/-- THE TIED CARD OF 'calquelaw02.EscapeEnd'. -/
def escapeEndCard : Claim7 := { stood := { row := escapeEndRow, standIns := [], harness := (true, "656579b63e37a2255a7321608a29baa40268fa6cbe01712e34ae4ac7ddebd375"), looks := false }, kinds := [], alts := [], laidByText := true, laidKinds := [.data, .data, .data], laidTests := true, laidLooks := .later }
def EscapeEndCardSaid : Prop := Claim7.holds Tryd.pinned (.plain (OpenSpec.ofChange escapeEndSpec)) escapeEndCard

/-- THE TIED CARD OF 'calquelaw02.EscapeSafe'. -/
def escapeSafeCard : Claim7 := { stood := { row := escapeSafeRow, standIns := [], harness := (true, "656579b63e37a2255a7321608a29baa40268fa6cbe01712e34ae4ac7ddebd375"), looks := false }, kinds := [], alts := [], laidByText := true, laidKinds := [.data, .data, .data], laidTests := true, laidLooks := .later }
def EscapeSafeCardSaid : Prop := Claim7.holds Tryd.pinned (.plain (OpenSpec.ofChange escapeSafeSpec)) escapeSafeCard

/-- THE SECOND FORM's CARD OF 'calquelaw02.EscapeEscape'. -/
def escapeEscapeUptoCard : Claim7 := { stood := { row := escapeEscapeUptoRow, standIns := [], harness := (true, "656579b63e37a2255a7321608a29baa40268fa6cbe01712e34ae4ac7ddebd375"), looks := false }, kinds := [], alts := [], laidByText := true, laidKinds := [.data, .data, .data], laidTests := true, laidLooks := .later }
def EscapeEscapeUptoCardSaid : Prop := Claim7.holds Tryd.pinned (.plain (OpenSpec.upto escapeEscapeSpec)) escapeEscapeUptoCard

/-- THE SECOND FORM's CARD OF 'calquelaw02.EscapeUnescape'. -/
def escapeUnescapeUptoCard : Claim7 := { stood := { row := escapeUnescapeUptoRow, standIns := [], harness := (true, "656579b63e37a2255a7321608a29baa40268fa6cbe01712e34ae4ac7ddebd375"), looks := false }, kinds := [], alts := [], laidByText := true, laidKinds := [.data, .data, .data], laidTests := true, laidLooks := .later }
def EscapeUnescapeUptoCardSaid : Prop := Claim7.holds Tryd.pinned (.plain (OpenSpec.upto escapeUnescapeSpec)) escapeUnescapeUptoCard

/-- THE SECOND FORM's CARD OF 'calquelaw02.EscapeInverse'. -/
def escapeInverseUptoCard : Claim7 := { stood := { row := escapeInverseUptoRow, standIns := [], harness := (true, "656579b63e37a2255a7321608a29baa40268fa6cbe01712e34ae4ac7ddebd375"), looks := false }, kinds := [], alts := [], laidByText := true, laidKinds := [.data, .data, .data], laidTests := true, laidLooks := .later }
def EscapeInverseUptoCardSaid : Prop := Claim7.holds Tryd.pinned (.plain (OpenSpec.upto escapeInverseSpec)) escapeInverseUptoCard

/-- THE SECOND FORM's CARD OF 'calquelaw02.EscapeJoins'. -/
def escapeJoinsUptoCard : Claim7 := { stood := { row := escapeJoinsUptoRow, standIns := [], harness := (true, "656579b63e37a2255a7321608a29baa40268fa6cbe01712e34ae4ac7ddebd375"), looks := false }, kinds := [], alts := [], laidByText := true, laidKinds := [.data, .data, .data], laidTests := true, laidLooks := .later }
def EscapeJoinsUptoCardSaid : Prop := Claim7.holds Tryd.pinned (.plain (OpenSpec.upto escapeJoinsSpec)) escapeJoinsUptoCard

/-- THE SECOND FORM's CARD OF 'calquelaw02.EscapeLetters'. -/
def escapeLettersUptoCard : Claim7 := { stood := { row := escapeLettersUptoRow, standIns := [], harness := (true, "656579b63e37a2255a7321608a29baa40268fa6cbe01712e34ae4ac7ddebd375"), looks := false }, kinds := [], alts := [], laidByText := true, laidKinds := [.data, .data, .data], laidTests := true, laidLooks := .later }
def EscapeLettersUptoCardSaid : Prop := Claim7.holds Tryd.pinned (.plain (OpenSpec.upto escapeLettersSpec)) escapeLettersUptoCard

/-- THE SECOND FORM's CARD OF 'calquelaw02.EscapeEnd'. -/
def escapeEndUptoCard : Claim7 := { stood := { row := escapeEndUptoRow, standIns := [], harness := (true, "656579b63e37a2255a7321608a29baa40268fa6cbe01712e34ae4ac7ddebd375"), looks := false }, kinds := [], alts := [], laidByText := true, laidKinds := [.data, .data, .data], laidTests := true, laidLooks := .later }
def EscapeEndUptoCardSaid : Prop := Claim7.holds Tryd.pinned (.plain (OpenSpec.upto escapeEndSpec)) escapeEndUptoCard

/-- THE SECOND FORM's CARD OF 'calquelaw02.EscapeSafe'. -/
def escapeSafeUptoCard : Claim7 := { stood := { row := escapeSafeUptoRow, standIns := [], harness := (true, "656579b63e37a2255a7321608a29baa40268fa6cbe01712e34ae4ac7ddebd375"), looks := false }, kinds := [], alts := [], laidByText := true, laidKinds := [.data, .data, .data], laidTests := true, laidLooks := .later }
def EscapeSafeUptoCardSaid : Prop := Claim7.holds Tryd.pinned (.plain (OpenSpec.upto escapeSafeSpec)) escapeSafeUptoCard
end Rows
end Go.Proofs.YtkicjbmljbfojaaDoor
