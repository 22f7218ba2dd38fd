/-
  DERIVED. GIVEN WITH THE SEED: THE CARDS: each row of YthmeobjomidkoaaDoorRows.lean that lists a variable, with what it lists TIED to the program's text (the seventh form; the later family's looks); each row that meets fmt, with fmt's text TOLD by the authors' own Lean function (tested against real Go, not proved from fmt's source: count such statements apart). THE CARD IS WHAT COUNTS. Prove the row's statement (the work); the ties are given (YthmeobjomidkoaaDoorTie.lean); close each card by the builder's one call (the guide's Derived/Test/ToyasCard.lean, 'card_holds'). Laid BY PROGRAM, IN A SANDBOX (cutbox-door.mjs). By AI agents, Wed Nov 11 2026. No macro, syntax, notation, axiom, sorry.
-/
import Derived.Test.YthmeobjomidkoaaDoorRows
import GoSem.ClaimSeven
namespace Go.Proofs.YthmeobjomidkoaaDoor
namespace Rows

/-- THE TIED CARD OF 'calquelaw58.LockHolds'. -/
def lockHoldsCard : Claim7 := { stood := { row := lockHoldsRow, standIns := [], harness := (true, "cc5523e2f8af305ef3fad920aa5202098cccb6676c3a3063c741540bc6cdb730"), looks := true }, kinds := [], alts := [], laidByText := true, laidKinds := [.data, .pinned], laidTests := true, laidLooks := .later }
def LockHoldsCardSaid : Prop := Claim7.holds Tryd.pinned (.plain (OpenSpec.ofChange lockHoldsSpec)) lockHoldsCard

/-- THE TIED CARD OF 'calquelaw58.LockLimit'. -/
def lockLimitCard : Claim7 := { stood := { row := lockLimitRow, standIns := [], harness := (true, "cc5523e2f8af305ef3fad920aa5202098cccb6676c3a3063c741540bc6cdb730"), looks := true }, kinds := [], alts := [], laidByText := true, laidKinds := [.data, .pinned], laidTests := true, laidLooks := .later }
def LockLimitCardSaid : Prop := Claim7.holds Tryd.pinned (.plain (OpenSpec.ofChange lockLimitSpec)) lockLimitCard

/-- THE TIED CARD OF 'calquelaw58.LockOthers'. -/
def lockOthersCard : Claim7 := { stood := { row := lockOthersRow, standIns := [], harness := (true, "cc5523e2f8af305ef3fad920aa5202098cccb6676c3a3063c741540bc6cdb730"), looks := true }, kinds := [], alts := [], laidByText := true, laidKinds := [.data, .pinned], laidTests := true, laidLooks := .later }
def LockOthersCardSaid : Prop := Claim7.holds Tryd.pinned (.plain (OpenSpec.ofChange lockOthersSpec)) lockOthersCard

/-- THE TIED CARD OF 'calquelaw58.LockScript'. -/
def lockScriptCard : Claim7 := { stood := { row := lockScriptRow, standIns := [], harness := (true, "cc5523e2f8af305ef3fad920aa5202098cccb6676c3a3063c741540bc6cdb730"), looks := true }, kinds := [], alts := [], laidByText := true, laidKinds := [.data, .pinned], laidTests := true, laidLooks := .later }
def LockScriptCardSaid : Prop := Claim7.holds Tryd.pinned (.plain (OpenSpec.ofChange lockScriptSpec)) lockScriptCard

/-- THE TIED CARD OF 'calquelaw58.LockExpires'. -/
def lockExpiresCard : Claim7 := { stood := { row := lockExpiresRow, standIns := [], harness := (true, "cc5523e2f8af305ef3fad920aa5202098cccb6676c3a3063c741540bc6cdb730"), looks := true }, kinds := [], alts := [], laidByText := true, laidKinds := [.data, .pinned], laidTests := true, laidLooks := .later }
def LockExpiresCardSaid : Prop := Claim7.holds Tryd.pinned (.plain (OpenSpec.ofChange lockExpiresSpec)) lockExpiresCard

/-- THE TIED CARD OF 'calquelaw58.LockNil'. -/
def lockNilCard : Claim7 := { stood := { row := lockNilRow, standIns := [], harness := (true, "cc5523e2f8af305ef3fad920aa5202098cccb6676c3a3063c741540bc6cdb730"), looks := true }, kinds := [], alts := [], laidByText := true, laidKinds := [.data, .pinned], laidTests := true, laidLooks := .later }
def LockNilCardSaid : Prop := Claim7.holds Tryd.pinned (.plain (OpenSpec.ofChange lockNilSpec)) lockNilCard

/-- THE SECOND FORM's CARD OF 'calquelaw58.LockHolds'. -/
def lockHoldsUptoCard : Claim7 := { stood := { row := lockHoldsUptoRow, standIns := [], harness := (true, "cc5523e2f8af305ef3fad920aa5202098cccb6676c3a3063c741540bc6cdb730"), looks := true }, kinds := [], alts := [], laidByText := true, laidKinds := [.data, .pinned], laidTests := true, laidLooks := .later }
def LockHoldsUptoCardSaid : Prop := Claim7.holds Tryd.pinned (.plain (OpenSpec.upto lockHoldsSpec)) lockHoldsUptoCard

/-- THE SECOND FORM's CARD OF 'calquelaw58.LockLimit'. -/
def lockLimitUptoCard : Claim7 := { stood := { row := lockLimitUptoRow, standIns := [], harness := (true, "cc5523e2f8af305ef3fad920aa5202098cccb6676c3a3063c741540bc6cdb730"), looks := true }, kinds := [], alts := [], laidByText := true, laidKinds := [.data, .pinned], laidTests := true, laidLooks := .later }
def LockLimitUptoCardSaid : Prop := Claim7.holds Tryd.pinned (.plain (OpenSpec.upto lockLimitSpec)) lockLimitUptoCard

/-- THE SECOND FORM's CARD OF 'calquelaw58.LockOthers'. -/
def lockOthersUptoCard : Claim7 := { stood := { row := lockOthersUptoRow, standIns := [], harness := (true, "cc5523e2f8af305ef3fad920aa5202098cccb6676c3a3063c741540bc6cdb730"), looks := true }, kinds := [], alts := [], laidByText := true, laidKinds := [.data, .pinned], laidTests := true, laidLooks := .later }
def LockOthersUptoCardSaid : Prop := Claim7.holds Tryd.pinned (.plain (OpenSpec.upto lockOthersSpec)) lockOthersUptoCard

/-- THE SECOND FORM's CARD OF 'calquelaw58.LockScript'. -/
def lockScriptUptoCard : Claim7 := { stood := { row := lockScriptUptoRow, standIns := [], harness := (true, "cc5523e2f8af305ef3fad920aa5202098cccb6676c3a3063c741540bc6cdb730"), looks := true }, kinds := [], alts := [], laidByText := true, laidKinds := [.data, .pinned], laidTests := true, laidLooks := .later }
def LockScriptUptoCardSaid : Prop := Claim7.holds Tryd.pinned (.plain (OpenSpec.upto lockScriptSpec)) lockScriptUptoCard

/-- THE SECOND FORM's CARD OF 'calquelaw58.LockExpires'. -/
def lockExpiresUptoCard : Claim7 := { stood := { row := lockExpiresUptoRow, standIns := [], harness := (true, "cc5523e2f8af305ef3fad920aa5202098cccb6676c3a3063c741540bc6cdb730"), looks := true }, kinds := [], alts := [], laidByText := true, laidKinds := [.data, .pinned], laidTests := true, laidLooks := .later }
def LockExpiresUptoCardSaid : Prop := Claim7.holds Tryd.pinned (.plain (OpenSpec.upto lockExpiresSpec)) lockExpiresUptoCard

/-- THE SECOND FORM's CARD OF 'calquelaw58.LockNil'. -/
def lockNilUptoCard : Claim7 := { stood := { row := lockNilUptoRow, standIns := [], harness := (true, "cc5523e2f8af305ef3fad920aa5202098cccb6676c3a3063c741540bc6cdb730"), looks := true }, kinds := [], alts := [], laidByText := true, laidKinds := [.data, .pinned], laidTests := true, laidLooks := .later }
def LockNilUptoCardSaid : Prop := Claim7.holds Tryd.pinned (.plain (OpenSpec.upto lockNilSpec)) lockNilUptoCard
end Rows
end Go.Proofs.YthmeobjomidkoaaDoor
