/-
  DERIVED. GIVEN WITH THE SEED: THE CARDS: each row of YtcdpmgdocgddcaaDoorRows.lean that lists a variable, with what it lists TIED to the program's text (the seventh form; the later family's looks); each row that meets fmt, with fmt's text TOLD by the authors' own Lean function (tested against real Go, not proved from fmt's source: count such statements apart). THE CARD IS WHAT COUNTS. Prove the row's statement (the work); the ties are given (YtcdpmgdocgddcaaDoorTie.lean); close each card by the builder's one call (the guide's Derived/Test/ToyasCard.lean, 'card_holds'). Laid BY PROGRAM, IN A SANDBOX (cutbox-door.mjs). By AI agents, Wed Nov 11 2026. No macro, syntax, notation, axiom, sorry.
-/
import Derived.Test.YtcdpmgdocgddcaaDoorRows
import GoSem.ClaimSeven
namespace Go.Proofs.YtcdpmgdocgddcaaDoor
namespace Rows

/-- THE TIED CARD OF 'calquelaw47.UpdateKeeps'. -/
def updateKeepsCard : Claim7 := { stood := { row := updateKeepsRow, standIns := [], harness := (true, "fb053a039933697f6fbeb3c11e7b309d54d662662207750b1ede638b7d82e6c8"), looks := false }, kinds := [], alts := [], laidByText := true, laidKinds := [.data, .pinned], laidTests := true, laidLooks := .later }
def UpdateKeepsCardSaid : Prop := Claim7.holds Tryd.pinned (.plain (OpenSpec.ofChange updateKeepsSpec)) updateKeepsCard

/-- THE TIED CARD OF 'calquelaw47.UpdateSources'. -/
def updateSourcesCard : Claim7 := { stood := { row := updateSourcesRow, standIns := [], harness := (true, "fb053a039933697f6fbeb3c11e7b309d54d662662207750b1ede638b7d82e6c8"), looks := false }, kinds := [], alts := [], laidByText := true, laidKinds := [.data, .pinned], laidTests := true, laidLooks := .later }
def UpdateSourcesCardSaid : Prop := Claim7.holds Tryd.pinned (.plain (OpenSpec.ofChange updateSourcesSpec)) updateSourcesCard

/-- THE TIED CARD OF 'calquelaw47.UpdateReport'. -/
def updateReportCard : Claim7 := { stood := { row := updateReportRow, standIns := [], harness := (true, "fb053a039933697f6fbeb3c11e7b309d54d662662207750b1ede638b7d82e6c8"), looks := false }, kinds := [], alts := [], laidByText := true, laidKinds := [.data, .pinned], laidTests := true, laidLooks := .later }
def UpdateReportCardSaid : Prop := Claim7.holds Tryd.pinned (.plain (OpenSpec.ofChange updateReportSpec)) updateReportCard

/-- THE TIED CARD OF 'calquelaw47.UpdateEmpty'. -/
def updateEmptyCard : Claim7 := { stood := { row := updateEmptyRow, standIns := [], harness := (true, "fb053a039933697f6fbeb3c11e7b309d54d662662207750b1ede638b7d82e6c8"), looks := false }, kinds := [], alts := [], laidByText := true, laidKinds := [.data, .pinned], laidTests := true, laidLooks := .later }
def UpdateEmptyCardSaid : Prop := Claim7.holds Tryd.pinned (.plain (OpenSpec.ofChange updateEmptySpec)) updateEmptyCard

/-- THE TIED CARD OF 'calquelaw47.UpdateCandidate'. -/
def updateCandidateCard : Claim7 := { stood := { row := updateCandidateRow, standIns := [], harness := (true, "fb053a039933697f6fbeb3c11e7b309d54d662662207750b1ede638b7d82e6c8"), looks := false }, kinds := [], alts := [], laidByText := true, laidKinds := [.data, .pinned], laidTests := true, laidLooks := .later }
def UpdateCandidateCardSaid : Prop := Claim7.holds Tryd.pinned (.plain (OpenSpec.ofChange updateCandidateSpec)) updateCandidateCard

/-- THE SECOND FORM's CARD OF 'calquelaw47.UpdateKeeps'. -/
def updateKeepsUptoCard : Claim7 := { stood := { row := updateKeepsUptoRow, standIns := [], harness := (true, "fb053a039933697f6fbeb3c11e7b309d54d662662207750b1ede638b7d82e6c8"), looks := false }, kinds := [], alts := [], laidByText := true, laidKinds := [.data, .pinned], laidTests := true, laidLooks := .later }
def UpdateKeepsUptoCardSaid : Prop := Claim7.holds Tryd.pinned (.plain (OpenSpec.upto updateKeepsSpec)) updateKeepsUptoCard

/-- THE SECOND FORM's CARD OF 'calquelaw47.UpdateSources'. -/
def updateSourcesUptoCard : Claim7 := { stood := { row := updateSourcesUptoRow, standIns := [], harness := (true, "fb053a039933697f6fbeb3c11e7b309d54d662662207750b1ede638b7d82e6c8"), looks := false }, kinds := [], alts := [], laidByText := true, laidKinds := [.data, .pinned], laidTests := true, laidLooks := .later }
def UpdateSourcesUptoCardSaid : Prop := Claim7.holds Tryd.pinned (.plain (OpenSpec.upto updateSourcesSpec)) updateSourcesUptoCard

/-- THE SECOND FORM's CARD OF 'calquelaw47.UpdateReport'. -/
def updateReportUptoCard : Claim7 := { stood := { row := updateReportUptoRow, standIns := [], harness := (true, "fb053a039933697f6fbeb3c11e7b309d54d662662207750b1ede638b7d82e6c8"), looks := false }, kinds := [], alts := [], laidByText := true, laidKinds := [.data, .pinned], laidTests := true, laidLooks := .later }
def UpdateReportUptoCardSaid : Prop := Claim7.holds Tryd.pinned (.plain (OpenSpec.upto updateReportSpec)) updateReportUptoCard

/-- THE SECOND FORM's CARD OF 'calquelaw47.UpdateEmpty'. -/
def updateEmptyUptoCard : Claim7 := { stood := { row := updateEmptyUptoRow, standIns := [], harness := (true, "fb053a039933697f6fbeb3c11e7b309d54d662662207750b1ede638b7d82e6c8"), looks := false }, kinds := [], alts := [], laidByText := true, laidKinds := [.data, .pinned], laidTests := true, laidLooks := .later }
def UpdateEmptyUptoCardSaid : Prop := Claim7.holds Tryd.pinned (.plain (OpenSpec.upto updateEmptySpec)) updateEmptyUptoCard

/-- THE SECOND FORM's CARD OF 'calquelaw47.UpdateCandidate'. -/
def updateCandidateUptoCard : Claim7 := { stood := { row := updateCandidateUptoRow, standIns := [], harness := (true, "fb053a039933697f6fbeb3c11e7b309d54d662662207750b1ede638b7d82e6c8"), looks := false }, kinds := [], alts := [], laidByText := true, laidKinds := [.data, .pinned], laidTests := true, laidLooks := .later }
def UpdateCandidateUptoCardSaid : Prop := Claim7.holds Tryd.pinned (.plain (OpenSpec.upto updateCandidateSpec)) updateCandidateUptoCard
end Rows
end Go.Proofs.YtcdpmgdocgddcaaDoor
