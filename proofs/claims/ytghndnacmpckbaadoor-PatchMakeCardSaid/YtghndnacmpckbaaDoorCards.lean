/-
  DERIVED. GIVEN WITH THE SEED: THE CARDS: each row of YtghndnacmpckbaaDoorRows.lean that lists a variable, with what it lists TIED to the program's text (the seventh form; the later family's looks); each row that meets fmt, with fmt's text TOLD by the authors' own Lean function (tested against real Go, not proved from fmt's source: count such statements apart). THE CARD IS WHAT COUNTS. Prove the row's statement (the work); the ties are given (YtghndnacmpckbaaDoorTie.lean); close each card by the builder's one call (the guide's Derived/Test/ToyasCard.lean, 'card_holds'). Laid BY PROGRAM, IN A SANDBOX (cutbox-door.mjs). By AI agents, Wed Nov 11 2026. No macro, syntax, notation, axiom, sorry.
-/
import Derived.Test.YtghndnacmpckbaaDoorRows
import GoSem.ClaimSeven
namespace Go.Proofs.YtghndnacmpckbaaDoor
namespace Rows

/-- THE TIED CARD OF 'calquelaw55.PatchStale'. -/
def patchStaleCard : Claim7 := { stood := { row := patchStaleRow, standIns := [], harness := (true, "bb903143a1dbe4ec99a9a1f28247d560837f50d39a579c67129adee383a6f3e0"), looks := true }, kinds := [], alts := [], laidByText := true, laidKinds := [.data, .data, .data, .sentinel, .sentinel], laidTests := true, laidLooks := .later }
def PatchStaleCardSaid : Prop := Claim7.holds Tryd.pinned (.plain (OpenSpec.ofChange patchStaleSpec)) patchStaleCard

/-- THE TIED CARD OF 'calquelaw55.PatchDamage'. -/
def patchDamageCard : Claim7 := { stood := { row := patchDamageRow, standIns := [], harness := (true, "bb903143a1dbe4ec99a9a1f28247d560837f50d39a579c67129adee383a6f3e0"), looks := true }, kinds := [], alts := [], laidByText := true, laidKinds := [.data, .data, .data, .sentinel, .sentinel], laidTests := true, laidLooks := .later }
def PatchDamageCardSaid : Prop := Claim7.holds Tryd.pinned (.plain (OpenSpec.ofChange patchDamageSpec)) patchDamageCard

/-- THE TIED CARD OF 'calquelaw55.PatchSize'. -/
def patchSizeCard : Claim7 := { stood := { row := patchSizeRow, standIns := [], harness := (true, "bb903143a1dbe4ec99a9a1f28247d560837f50d39a579c67129adee383a6f3e0"), looks := true }, kinds := [], alts := [], laidByText := true, laidKinds := [.data, .data, .data, .sentinel, .sentinel], laidTests := true, laidLooks := .later }
def PatchSizeCardSaid : Prop := Claim7.holds Tryd.pinned (.plain (OpenSpec.ofChange patchSizeSpec)) patchSizeCard

/-- THE TIED CARD OF 'calquelaw55.PatchSame'. -/
def patchSameCard : Claim7 := { stood := { row := patchSameRow, standIns := [], harness := (true, "bb903143a1dbe4ec99a9a1f28247d560837f50d39a579c67129adee383a6f3e0"), looks := true }, kinds := [], alts := [], laidByText := true, laidKinds := [.data, .data, .data, .sentinel, .sentinel], laidTests := true, laidLooks := .later }
def PatchSameCardSaid : Prop := Claim7.holds Tryd.pinned (.plain (OpenSpec.ofChange patchSameSpec)) patchSameCard

/-- THE TIED CARD OF 'calquelaw55.PatchMake'. -/
def patchMakeCard : Claim7 := { stood := { row := patchMakeRow, standIns := [], harness := (true, "bb903143a1dbe4ec99a9a1f28247d560837f50d39a579c67129adee383a6f3e0"), looks := true }, kinds := [], alts := [], laidByText := true, laidKinds := [.data, .data, .data, .sentinel, .sentinel], laidTests := true, laidLooks := .later }
def PatchMakeCardSaid : Prop := Claim7.holds Tryd.pinned (.plain (OpenSpec.ofChange patchMakeSpec)) patchMakeCard

/-- THE SECOND FORM's CARD OF 'calquelaw55.PatchStale'. -/
def patchStaleUptoCard : Claim7 := { stood := { row := patchStaleUptoRow, standIns := [], harness := (true, "bb903143a1dbe4ec99a9a1f28247d560837f50d39a579c67129adee383a6f3e0"), looks := true }, kinds := [], alts := [], laidByText := true, laidKinds := [.data, .data, .data, .sentinel, .sentinel], laidTests := true, laidLooks := .later }
def PatchStaleUptoCardSaid : Prop := Claim7.holds Tryd.pinned (.plain (OpenSpec.upto patchStaleSpec)) patchStaleUptoCard

/-- THE SECOND FORM's CARD OF 'calquelaw55.PatchDamage'. -/
def patchDamageUptoCard : Claim7 := { stood := { row := patchDamageUptoRow, standIns := [], harness := (true, "bb903143a1dbe4ec99a9a1f28247d560837f50d39a579c67129adee383a6f3e0"), looks := true }, kinds := [], alts := [], laidByText := true, laidKinds := [.data, .data, .data, .sentinel, .sentinel], laidTests := true, laidLooks := .later }
def PatchDamageUptoCardSaid : Prop := Claim7.holds Tryd.pinned (.plain (OpenSpec.upto patchDamageSpec)) patchDamageUptoCard

/-- THE SECOND FORM's CARD OF 'calquelaw55.PatchSize'. -/
def patchSizeUptoCard : Claim7 := { stood := { row := patchSizeUptoRow, standIns := [], harness := (true, "bb903143a1dbe4ec99a9a1f28247d560837f50d39a579c67129adee383a6f3e0"), looks := true }, kinds := [], alts := [], laidByText := true, laidKinds := [.data, .data, .data, .sentinel, .sentinel], laidTests := true, laidLooks := .later }
def PatchSizeUptoCardSaid : Prop := Claim7.holds Tryd.pinned (.plain (OpenSpec.upto patchSizeSpec)) patchSizeUptoCard

/-- THE SECOND FORM's CARD OF 'calquelaw55.PatchSame'. -/
def patchSameUptoCard : Claim7 := { stood := { row := patchSameUptoRow, standIns := [], harness := (true, "bb903143a1dbe4ec99a9a1f28247d560837f50d39a579c67129adee383a6f3e0"), looks := true }, kinds := [], alts := [], laidByText := true, laidKinds := [.data, .data, .data, .sentinel, .sentinel], laidTests := true, laidLooks := .later }
def PatchSameUptoCardSaid : Prop := Claim7.holds Tryd.pinned (.plain (OpenSpec.upto patchSameSpec)) patchSameUptoCard

/-- THE SECOND FORM's CARD OF 'calquelaw55.PatchMake'. -/
def patchMakeUptoCard : Claim7 := { stood := { row := patchMakeUptoRow, standIns := [], harness := (true, "bb903143a1dbe4ec99a9a1f28247d560837f50d39a579c67129adee383a6f3e0"), looks := true }, kinds := [], alts := [], laidByText := true, laidKinds := [.data, .data, .data, .sentinel, .sentinel], laidTests := true, laidLooks := .later }
def PatchMakeUptoCardSaid : Prop := Claim7.holds Tryd.pinned (.plain (OpenSpec.upto patchMakeSpec)) patchMakeUptoCard
end Rows
end Go.Proofs.YtghndnacmpckbaaDoor
