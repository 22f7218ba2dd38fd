/-
  NARROWER THAN 'FOR EVERY INPUT', by the rows' own cells (each row's printed sentence says how): UpdateKeeps: laid · UpdateSources: laid · UpdateReport: laid · UpdateEmpty: laid · UpdateCandidate: laid.
  DERIVED. THE GIVEN ROWS OF THIS SEAT. 5 by the template 'for every input the law returns true; each argument reads behind the call as it read before'; 0 by the template 'total and deterministic' (their statements: YtcdpmgdocgddcaaDoorTotals.lean).
  GIVEN WITH THE SEED: the statements are not yours to turn. If you find one false, say at which input.
  Laid BY PROGRAM, IN A SANDBOX (cutbox-rows.mjs): the forced cells as the released guide's own fill.sh prints them over the translation 33f41391b51e81c0… (all of the seat's roots in one cut). By AI agents, Wed Nov 11 2026. No macro, syntax, notation, axiom, sorry.
-/
import Derived.Test.YtcdpmgdocgddcaaDoorChecked
import GoSem.PinnedTables
import GoSem.Claim
import GoSem.ClaimJoined
import GoSem.ClaimMapViews
import Derived.JoinedTies
import Derived.KernelRfl
namespace Go.Proofs.YtcdpmgdocgddcaaDoor
/- THE CELL 'sum', in the pinned program and in every row, IS THE sha256 OF THE DUMP (.gsa) THAT YtcdpmgdocgddcaaDoorProg.lean LOADS. Nothing in Lean hashes anything: it is a label: what it is worth is what the hold of that sum in a sandbox is worth. -/
noncomputable def Tryd.pinned : Pinned := { name := "ytcdpmgdocgddcaadoor", sum := "33f41391b51e81c0a012f1bdc4aff5aca74ea68ac8be431a7e1c020f27a069ac", checked := Tryd.checked }
namespace Rows
def none {H : Type} : Left H := { results := [], args := [] }

/- WHAT THE LISTED PACKAGE-LEVEL VARIABLES READ AS WHEN THE CALL BEGINS. Each datum BY PROGRAM (the guide's laid-datum.mjs) off the statement by which the dump's own 'gosem.cut.vars' lays the variable. In a bare row this is a premise. The card (YtcdpmgdocgddcaaDoorCards.lean) ties it to the program's text. -/
def laid_unicode_utf8_acceptRanges {H : Type} : DataW H := .agg [.agg [.lit (.int .u8 128), .lit (.int .u8 191)], .agg [.lit (.int .u8 160), .lit (.int .u8 191)], .agg [.lit (.int .u8 128), .lit (.int .u8 159)], .agg [.lit (.int .u8 144), .lit (.int .u8 191)], .agg [.lit (.int .u8 128), .lit (.int .u8 143)], .agg [.lit (.int .u8 0), .lit (.int .u8 0)], .agg [.lit (.int .u8 0), .lit (.int .u8 0)], .agg [.lit (.int .u8 0), .lit (.int .u8 0)], .agg [.lit (.int .u8 0), .lit (.int .u8 0)], .agg [.lit (.int .u8 0), .lit (.int .u8 0)], .agg [.lit (.int .u8 0), .lit (.int .u8 0)], .agg [.lit (.int .u8 0), .lit (.int .u8 0)], .agg [.lit (.int .u8 0), .lit (.int .u8 0)], .agg [.lit (.int .u8 0), .lit (.int .u8 0)], .agg [.lit (.int .u8 0), .lit (.int .u8 0)], .agg [.lit (.int .u8 0), .lit (.int .u8 0)]]
/-- One of Go's own tables, pinned by name: the form's constant. -/
def laid_unicode_utf8_first : DataW Unit := Go.Pinned.utf8First

/-- 'calquelaw47.UpdateKeeps': WHATEVER THE INPUT: true; the input reads as it did. -/
def updateKeepsSpec : ChangeSpec := { name := "updateKeeps", fn := fun _ => fun
  | [d1, d2] => { results := [.lit (.bool true)], args := [d1, d2] }
  | _ => none }
def updateKeepsRow : OpenClaim := { program := "ytcdpmgdocgddcaadoor", sum := "33f41391b51e81c0a012f1bdc4aff5aca74ea68ac8be431a7e1c020f27a069ac", func := "calque/calquelaw47.UpdateKeeps", spec := "updateKeeps", inPlace := ["slices.overlaps[calque/api.Field]"], unfollowed := true, recurses := true, named := ["unicode/utf8.first", "unicode/utf8.acceptRanges"], apart := false, laid := [("unicode/utf8.acceptRanges", laid_unicode_utf8_acceptRanges), ("unicode/utf8.first", laid_unicode_utf8_first)] }
def UpdateKeepsSaid : Prop := updateKeepsRow.holds Tryd.pinned (OpenSpec.ofChange updateKeepsSpec)

/-- ITS FALSE NEIGHBOUR: 'it returns false'. Refute it at one input. -/
def updateKeepsWrong : ChangeSpec := { name := "updateKeeps", fn := fun _ => fun
  | [d1, d2] => { results := [.lit (.bool false)], args := [d1, d2] }
  | _ => none }
def UpdateKeepsWrongFalsely : Prop := updateKeepsRow.holds Tryd.pinned (OpenSpec.ofChange updateKeepsWrong)

/-- 'calquelaw47.UpdateSources': WHATEVER THE INPUT: true; the input reads as it did. -/
def updateSourcesSpec : ChangeSpec := { name := "updateSources", fn := fun _ => fun
  | [d1, d2] => { results := [.lit (.bool true)], args := [d1, d2] }
  | _ => none }
def updateSourcesRow : OpenClaim := { program := "ytcdpmgdocgddcaadoor", sum := "33f41391b51e81c0a012f1bdc4aff5aca74ea68ac8be431a7e1c020f27a069ac", func := "calque/calquelaw47.UpdateSources", spec := "updateSources", inPlace := ["slices.overlaps[calque/api.Field]"], unfollowed := true, recurses := true, named := ["unicode/utf8.first", "unicode/utf8.acceptRanges"], apart := false, laid := [("unicode/utf8.acceptRanges", laid_unicode_utf8_acceptRanges), ("unicode/utf8.first", laid_unicode_utf8_first)] }
def UpdateSourcesSaid : Prop := updateSourcesRow.holds Tryd.pinned (OpenSpec.ofChange updateSourcesSpec)

/-- ITS FALSE NEIGHBOUR: 'it returns false'. Refute it at one input. -/
def updateSourcesWrong : ChangeSpec := { name := "updateSources", fn := fun _ => fun
  | [d1, d2] => { results := [.lit (.bool false)], args := [d1, d2] }
  | _ => none }
def UpdateSourcesWrongFalsely : Prop := updateSourcesRow.holds Tryd.pinned (OpenSpec.ofChange updateSourcesWrong)

/-- 'calquelaw47.UpdateReport': WHATEVER THE INPUT: true; the input reads as it did. -/
def updateReportSpec : ChangeSpec := { name := "updateReport", fn := fun _ => fun
  | [d1, d2] => { results := [.lit (.bool true)], args := [d1, d2] }
  | _ => none }
def updateReportRow : OpenClaim := { program := "ytcdpmgdocgddcaadoor", sum := "33f41391b51e81c0a012f1bdc4aff5aca74ea68ac8be431a7e1c020f27a069ac", func := "calque/calquelaw47.UpdateReport", spec := "updateReport", inPlace := ["slices.overlaps[calque/api.Field]"], unfollowed := true, recurses := true, named := ["unicode/utf8.first", "unicode/utf8.acceptRanges"], apart := false, laid := [("unicode/utf8.acceptRanges", laid_unicode_utf8_acceptRanges), ("unicode/utf8.first", laid_unicode_utf8_first)] }
def UpdateReportSaid : Prop := updateReportRow.holds Tryd.pinned (OpenSpec.ofChange updateReportSpec)

/-- ITS FALSE NEIGHBOUR: 'it returns false'. Refute it at one input. -/
def updateReportWrong : ChangeSpec := { name := "updateReport", fn := fun _ => fun
  | [d1, d2] => { results := [.lit (.bool false)], args := [d1, d2] }
  | _ => none }
def UpdateReportWrongFalsely : Prop := updateReportRow.holds Tryd.pinned (OpenSpec.ofChange updateReportWrong)

/-- 'calquelaw47.UpdateEmpty': WHATEVER THE INPUT: true; the input reads as it did. -/
def updateEmptySpec : ChangeSpec := { name := "updateEmpty", fn := fun _ => fun
  | [d] => { results := [.lit (.bool true)], args := [d] }
  | _ => none }
def updateEmptyRow : OpenClaim := { program := "ytcdpmgdocgddcaadoor", sum := "33f41391b51e81c0a012f1bdc4aff5aca74ea68ac8be431a7e1c020f27a069ac", func := "calque/calquelaw47.UpdateEmpty", spec := "updateEmpty", inPlace := ["slices.overlaps[calque/api.Field]"], unfollowed := true, recurses := true, named := ["unicode/utf8.first", "unicode/utf8.acceptRanges"], apart := false, laid := [("unicode/utf8.acceptRanges", laid_unicode_utf8_acceptRanges), ("unicode/utf8.first", laid_unicode_utf8_first)] }
def UpdateEmptySaid : Prop := updateEmptyRow.holds Tryd.pinned (OpenSpec.ofChange updateEmptySpec)

/-- ITS FALSE NEIGHBOUR: 'it returns false'. Refute it at one input. -/
def updateEmptyWrong : ChangeSpec := { name := "updateEmpty", fn := fun _ => fun
  | [d] => { results := [.lit (.bool false)], args := [d] }
  | _ => none }
def UpdateEmptyWrongFalsely : Prop := updateEmptyRow.holds Tryd.pinned (OpenSpec.ofChange updateEmptyWrong)

/-- 'calquelaw47.UpdateCandidate': WHATEVER THE INPUT: true; the input reads as it did. -/
def updateCandidateSpec : ChangeSpec := { name := "updateCandidate", fn := fun _ => fun
  | [d1, d2, d3] => { results := [.lit (.bool true)], args := [d1, d2, d3] }
  | _ => none }
def updateCandidateRow : OpenClaim := { program := "ytcdpmgdocgddcaadoor", sum := "33f41391b51e81c0a012f1bdc4aff5aca74ea68ac8be431a7e1c020f27a069ac", func := "calque/calquelaw47.UpdateCandidate", spec := "updateCandidate", inPlace := ["slices.overlaps[calque/api.Field]"], unfollowed := true, recurses := true, named := ["unicode/utf8.first", "unicode/utf8.acceptRanges"], apart := false, laid := [("unicode/utf8.acceptRanges", laid_unicode_utf8_acceptRanges), ("unicode/utf8.first", laid_unicode_utf8_first)] }
def UpdateCandidateSaid : Prop := updateCandidateRow.holds Tryd.pinned (OpenSpec.ofChange updateCandidateSpec)

/-- ITS FALSE NEIGHBOUR: 'it returns false'. Refute it at one input. -/
def updateCandidateWrong : ChangeSpec := { name := "updateCandidate", fn := fun _ => fun
  | [d1, d2, d3] => { results := [.lit (.bool false)], args := [d1, d2, d3] }
  | _ => none }
def UpdateCandidateWrongFalsely : Prop := updateCandidateRow.holds Tryd.pinned (OpenSpec.ofChange updateCandidateWrong)

/- THE SECOND FORM. 'bulk': how many values and letters a reading holds, each counted each time it is reached (what is shared counts as often as it is met; a slice's spare places count too). A statement '..UptoSaid' is the law's where the arguments, and the package variables that the reading takes, are together of bulk at most 1048576: NARROWER than '..Said'. Prove '..Said' where nothing that the law and all that it calls make is longer than what came in: it says more and counts as full. Else prove '..UptoSaid'. A law counts once. -/
mutual
def uptoBulk {H : Type} : DataW H → Nat
  | .lit (.string bytes) => bytes.length + 1
  | .lit _ => 1
  | .nil => 1
  | .ptr d => uptoBulk d + 1
  | .slice elems spare => uptoBulkAll elems + uptoBulkAll spare + 1
  | .agg parts => uptoBulkAll parts + 1
  | .iface _ d => uptoBulk d + 1
  | .map entries => uptoBulkEntries entries + 1
  | .held _ => 1
def uptoBulkAll {H : Type} : List (DataW H) → Nat
  | [] => 0
  | d :: r => uptoBulk d + uptoBulkAll r
def uptoBulkEntries {H : Type} : List (Lit × DataW H) → Nat
  | [] => 0
  | x :: r => uptoBulkEntry x + uptoBulkEntries r
def uptoBulkEntry {H : Type} : Lit × DataW H → Nat
  | (.string bytes, d) => bytes.length + uptoBulk d + 1
  | (_, d) => uptoBulk d + 1
 end
def uptoSmall : (H : Type) → List (DataW H) → Bool := fun _ ds => decide (uptoBulkAll ds ≤ 1048576)
def OpenSpec.upto (s : _root_.Go.ChangeSpec) : _root_.Go.OpenSpec := { _root_.Go.OpenSpec.ofChange s with cond := some uptoSmall }

/-- 'calquelaw47.UpdateKeeps', WHERE WHAT IT READS IS OF BULK AT MOST 1048576: true; the input reads as it did. -/
def updateKeepsUptoRow : OpenClaim := { program := "ytcdpmgdocgddcaadoor", sum := "33f41391b51e81c0a012f1bdc4aff5aca74ea68ac8be431a7e1c020f27a069ac", func := "calque/calquelaw47.UpdateKeeps", spec := "updateKeeps", inPlace := ["slices.overlaps[calque/api.Field]"], unfollowed := true, recurses := true, named := ["unicode/utf8.first", "unicode/utf8.acceptRanges"], apart := false, laid := [("unicode/utf8.acceptRanges", laid_unicode_utf8_acceptRanges), ("unicode/utf8.first", laid_unicode_utf8_first)], narrowed := true }
def UpdateKeepsUptoSaid : Prop := updateKeepsUptoRow.holds Tryd.pinned (OpenSpec.upto updateKeepsSpec)

/-- 'calquelaw47.UpdateSources', WHERE WHAT IT READS IS OF BULK AT MOST 1048576: true; the input reads as it did. -/
def updateSourcesUptoRow : OpenClaim := { program := "ytcdpmgdocgddcaadoor", sum := "33f41391b51e81c0a012f1bdc4aff5aca74ea68ac8be431a7e1c020f27a069ac", func := "calque/calquelaw47.UpdateSources", spec := "updateSources", inPlace := ["slices.overlaps[calque/api.Field]"], unfollowed := true, recurses := true, named := ["unicode/utf8.first", "unicode/utf8.acceptRanges"], apart := false, laid := [("unicode/utf8.acceptRanges", laid_unicode_utf8_acceptRanges), ("unicode/utf8.first", laid_unicode_utf8_first)], narrowed := true }
def UpdateSourcesUptoSaid : Prop := updateSourcesUptoRow.holds Tryd.pinned (OpenSpec.upto updateSourcesSpec)

/-- 'calquelaw47.UpdateReport', WHERE WHAT IT READS IS OF BULK AT MOST 1048576: true; the input reads as it did. -/
def updateReportUptoRow : OpenClaim := { program := "ytcdpmgdocgddcaadoor", sum := "33f41391b51e81c0a012f1bdc4aff5aca74ea68ac8be431a7e1c020f27a069ac", func := "calque/calquelaw47.UpdateReport", spec := "updateReport", inPlace := ["slices.overlaps[calque/api.Field]"], unfollowed := true, recurses := true, named := ["unicode/utf8.first", "unicode/utf8.acceptRanges"], apart := false, laid := [("unicode/utf8.acceptRanges", laid_unicode_utf8_acceptRanges), ("unicode/utf8.first", laid_unicode_utf8_first)], narrowed := true }
def UpdateReportUptoSaid : Prop := updateReportUptoRow.holds Tryd.pinned (OpenSpec.upto updateReportSpec)

/-- 'calquelaw47.UpdateEmpty', WHERE WHAT IT READS IS OF BULK AT MOST 1048576: true; the input reads as it did. -/
def updateEmptyUptoRow : OpenClaim := { program := "ytcdpmgdocgddcaadoor", sum := "33f41391b51e81c0a012f1bdc4aff5aca74ea68ac8be431a7e1c020f27a069ac", func := "calque/calquelaw47.UpdateEmpty", spec := "updateEmpty", inPlace := ["slices.overlaps[calque/api.Field]"], unfollowed := true, recurses := true, named := ["unicode/utf8.first", "unicode/utf8.acceptRanges"], apart := false, laid := [("unicode/utf8.acceptRanges", laid_unicode_utf8_acceptRanges), ("unicode/utf8.first", laid_unicode_utf8_first)], narrowed := true }
def UpdateEmptyUptoSaid : Prop := updateEmptyUptoRow.holds Tryd.pinned (OpenSpec.upto updateEmptySpec)

/-- 'calquelaw47.UpdateCandidate', WHERE WHAT IT READS IS OF BULK AT MOST 1048576: true; the input reads as it did. -/
def updateCandidateUptoRow : OpenClaim := { program := "ytcdpmgdocgddcaadoor", sum := "33f41391b51e81c0a012f1bdc4aff5aca74ea68ac8be431a7e1c020f27a069ac", func := "calque/calquelaw47.UpdateCandidate", spec := "updateCandidate", inPlace := ["slices.overlaps[calque/api.Field]"], unfollowed := true, recurses := true, named := ["unicode/utf8.first", "unicode/utf8.acceptRanges"], apart := false, laid := [("unicode/utf8.acceptRanges", laid_unicode_utf8_acceptRanges), ("unicode/utf8.first", laid_unicode_utf8_first)], narrowed := true }
def UpdateCandidateUptoSaid : Prop := updateCandidateUptoRow.holds Tryd.pinned (OpenSpec.upto updateCandidateSpec)

end Rows
end Go.Proofs.YtcdpmgdocgddcaaDoor
