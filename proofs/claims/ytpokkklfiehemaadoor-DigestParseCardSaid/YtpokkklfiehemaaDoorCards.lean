/-
  DERIVED. GIVEN WITH THE SEED: THE CARDS: each row of YtpokkklfiehemaaDoorRows.lean that lists a variable, with what it lists TIED to the program's text (the seventh form; the later family's looks); each row that meets fmt, with fmt's text TOLD by the authors' own Lean function (tested against real Go, not proved from fmt's source: count such statements apart). THE CARD IS WHAT COUNTS. Prove the row's statement (the work); the ties are given (YtpokkklfiehemaaDoorTie.lean); close each card by the builder's one call (the guide's Derived/Test/ToyasCard.lean, 'card_holds'). Laid BY PROGRAM, IN A SANDBOX (cutbox-door.mjs). By AI agents, Wed Nov 11 2026. No macro, syntax, notation, axiom, sorry.
-/
import Derived.Test.YtpokkklfiehemaaDoorRows
import GoSem.ClaimSeven
namespace Go.Proofs.YtpokkklfiehemaaDoor
namespace Rows

/-- THE TIED CARD OF 'calquelaw03.DigestJoins'. -/
def digestJoinsCard : Claim7 := { stood := { row := digestJoinsRow, standIns := [], harness := (true, "1ff0af4bfbb3e60195e423cd6463024b38e148b4e763eb06090b095c23e06f6d"), looks := true }, kinds := [], alts := [], laidByText := true, laidKinds := [.data, .data, .data], laidTests := true, laidLooks := .later }
def DigestJoinsCardSaid : Prop := Claim7.holds Tryd.pinned (.plain (OpenSpec.ofChange digestJoinsSpec)) digestJoinsCard

/-- THE TIED CARD OF 'calquelaw03.DigestSum'. -/
def digestSumCard : Claim7 := { stood := { row := digestSumRow, standIns := [], harness := (true, "1ff0af4bfbb3e60195e423cd6463024b38e148b4e763eb06090b095c23e06f6d"), looks := true }, kinds := [], alts := [], laidByText := true, laidKinds := [.data, .data, .data], laidTests := true, laidLooks := .later }
def DigestSumCardSaid : Prop := Claim7.holds Tryd.pinned (.plain (OpenSpec.ofChange digestSumSpec)) digestSumCard

/-- THE TIED CARD OF 'calquelaw03.DigestOne'. -/
def digestOneCard : Claim7 := { stood := { row := digestOneRow, standIns := [], harness := (true, "1ff0af4bfbb3e60195e423cd6463024b38e148b4e763eb06090b095c23e06f6d"), looks := true }, kinds := [], alts := [], laidByText := true, laidKinds := [.data, .data, .data], laidTests := true, laidLooks := .later }
def DigestOneCardSaid : Prop := Claim7.holds Tryd.pinned (.plain (OpenSpec.ofChange digestOneSpec)) digestOneCard

/-- THE TIED CARD OF 'calquelaw03.DigestSeal'. -/
def digestSealCard : Claim7 := { stood := { row := digestSealRow, standIns := [], harness := (true, "1ff0af4bfbb3e60195e423cd6463024b38e148b4e763eb06090b095c23e06f6d"), looks := true }, kinds := [], alts := [], laidByText := true, laidKinds := [.data, .data, .data], laidTests := true, laidLooks := .later }
def DigestSealCardSaid : Prop := Claim7.holds Tryd.pinned (.plain (OpenSpec.ofChange digestSealSpec)) digestSealCard

/-- THE TIED CARD OF 'calquelaw03.DigestOpen'. -/
def digestOpenCard : Claim7 := { stood := { row := digestOpenRow, standIns := [], harness := (true, "1ff0af4bfbb3e60195e423cd6463024b38e148b4e763eb06090b095c23e06f6d"), looks := true }, kinds := [], alts := [], laidByText := true, laidKinds := [.data, .data, .data], laidTests := true, laidLooks := .later }
def DigestOpenCardSaid : Prop := Claim7.holds Tryd.pinned (.plain (OpenSpec.ofChange digestOpenSpec)) digestOpenCard

/-- THE TIED CARD OF 'calquelaw03.DigestDamage'. -/
def digestDamageCard : Claim7 := { stood := { row := digestDamageRow, standIns := [], harness := (true, "1ff0af4bfbb3e60195e423cd6463024b38e148b4e763eb06090b095c23e06f6d"), looks := true }, kinds := [], alts := [], laidByText := true, laidKinds := [.data, .data, .data], laidTests := true, laidLooks := .later }
def DigestDamageCardSaid : Prop := Claim7.holds Tryd.pinned (.plain (OpenSpec.ofChange digestDamageSpec)) digestDamageCard

/-- THE TIED CARD OF 'calquelaw03.DigestParse'. -/
def digestParseCard : Claim7 := { stood := { row := digestParseRow, standIns := [], harness := (true, "1ff0af4bfbb3e60195e423cd6463024b38e148b4e763eb06090b095c23e06f6d"), looks := true }, kinds := [], alts := [], laidByText := true, laidKinds := [.data, .data, .data, .sentinel, .sentinel], laidTests := true, laidLooks := .later }
def DigestParseCardSaid : Prop := Claim7.holds Tryd.pinned (.plain (OpenSpec.ofChange digestParseSpec)) digestParseCard

/-- THE SECOND FORM's CARD OF 'calquelaw03.DigestJoins'. -/
def digestJoinsUptoCard : Claim7 := { stood := { row := digestJoinsUptoRow, standIns := [], harness := (true, "1ff0af4bfbb3e60195e423cd6463024b38e148b4e763eb06090b095c23e06f6d"), looks := true }, kinds := [], alts := [], laidByText := true, laidKinds := [.data, .data, .data], laidTests := true, laidLooks := .later }
def DigestJoinsUptoCardSaid : Prop := Claim7.holds Tryd.pinned (.plain (OpenSpec.upto digestJoinsSpec)) digestJoinsUptoCard

/-- THE SECOND FORM's CARD OF 'calquelaw03.DigestSum'. -/
def digestSumUptoCard : Claim7 := { stood := { row := digestSumUptoRow, standIns := [], harness := (true, "1ff0af4bfbb3e60195e423cd6463024b38e148b4e763eb06090b095c23e06f6d"), looks := true }, kinds := [], alts := [], laidByText := true, laidKinds := [.data, .data, .data], laidTests := true, laidLooks := .later }
def DigestSumUptoCardSaid : Prop := Claim7.holds Tryd.pinned (.plain (OpenSpec.upto digestSumSpec)) digestSumUptoCard

/-- THE SECOND FORM's CARD OF 'calquelaw03.DigestOne'. -/
def digestOneUptoCard : Claim7 := { stood := { row := digestOneUptoRow, standIns := [], harness := (true, "1ff0af4bfbb3e60195e423cd6463024b38e148b4e763eb06090b095c23e06f6d"), looks := true }, kinds := [], alts := [], laidByText := true, laidKinds := [.data, .data, .data], laidTests := true, laidLooks := .later }
def DigestOneUptoCardSaid : Prop := Claim7.holds Tryd.pinned (.plain (OpenSpec.upto digestOneSpec)) digestOneUptoCard

/-- THE SECOND FORM's CARD OF 'calquelaw03.DigestSeal'. -/
def digestSealUptoCard : Claim7 := { stood := { row := digestSealUptoRow, standIns := [], harness := (true, "1ff0af4bfbb3e60195e423cd6463024b38e148b4e763eb06090b095c23e06f6d"), looks := true }, kinds := [], alts := [], laidByText := true, laidKinds := [.data, .data, .data], laidTests := true, laidLooks := .later }
def DigestSealUptoCardSaid : Prop := Claim7.holds Tryd.pinned (.plain (OpenSpec.upto digestSealSpec)) digestSealUptoCard

/-- THE SECOND FORM's CARD OF 'calquelaw03.DigestOpen'. -/
def digestOpenUptoCard : Claim7 := { stood := { row := digestOpenUptoRow, standIns := [], harness := (true, "1ff0af4bfbb3e60195e423cd6463024b38e148b4e763eb06090b095c23e06f6d"), looks := true }, kinds := [], alts := [], laidByText := true, laidKinds := [.data, .data, .data], laidTests := true, laidLooks := .later }
def DigestOpenUptoCardSaid : Prop := Claim7.holds Tryd.pinned (.plain (OpenSpec.upto digestOpenSpec)) digestOpenUptoCard

/-- THE SECOND FORM's CARD OF 'calquelaw03.DigestDamage'. -/
def digestDamageUptoCard : Claim7 := { stood := { row := digestDamageUptoRow, standIns := [], harness := (true, "1ff0af4bfbb3e60195e423cd6463024b38e148b4e763eb06090b095c23e06f6d"), looks := true }, kinds := [], alts := [], laidByText := true, laidKinds := [.data, .data, .data], laidTests := true, laidLooks := .later }
def DigestDamageUptoCardSaid : Prop := Claim7.holds Tryd.pinned (.plain (OpenSpec.upto digestDamageSpec)) digestDamageUptoCard

/-- THE SECOND FORM's CARD OF 'calquelaw03.DigestParse'. -/
def digestParseUptoCard : Claim7 := { stood := { row := digestParseUptoRow, standIns := [], harness := (true, "1ff0af4bfbb3e60195e423cd6463024b38e148b4e763eb06090b095c23e06f6d"), looks := true }, kinds := [], alts := [], laidByText := true, laidKinds := [.data, .data, .data, .sentinel, .sentinel], laidTests := true, laidLooks := .later }
def DigestParseUptoCardSaid : Prop := Claim7.holds Tryd.pinned (.plain (OpenSpec.upto digestParseSpec)) digestParseUptoCard
end Rows
end Go.Proofs.YtpokkklfiehemaaDoor
