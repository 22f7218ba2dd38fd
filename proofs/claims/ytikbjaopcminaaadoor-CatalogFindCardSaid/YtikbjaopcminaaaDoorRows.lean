/-
  NARROWER THAN 'FOR EVERY INPUT', by the rows' own cells (each row's printed sentence says how): CatalogNames: laid · CatalogValid: laid · CatalogRemove: laid · CatalogPut: laid · CatalogPuts: laid · CatalogMoves: laid · CatalogFind: laid · CatalogFields: laid · CatalogSets: laid.
  DERIVED. THE GIVEN ROWS OF THIS SEAT. 9 by the template 'for every input the law returns true; each argument reads behind the call as it read before'; 0 by the template 'total and deterministic' (their statements: YtikbjaopcminaaaDoorTotals.lean).
  GIVEN WITH THE SEED: the statements are not yours to turn. If you find one false, say at which input.
  Laid BY PROGRAM, IN A SANDBOX (cutbox-rows.mjs): the forced cells as the released guide's own fill.sh prints them over the translation 6eb5e7058d81f989… (all of the seat's roots in one cut). By AI agents, Wed Nov 11 2026. No macro, syntax, notation, axiom, sorry.
-/
import Derived.Test.YtikbjaopcminaaaDoorChecked
import GoSem.PinnedTables
import GoSem.Claim
import GoSem.ClaimJoined
import GoSem.ClaimMapViews
import Derived.JoinedTies
import Derived.KernelRfl
namespace Go.Proofs.YtikbjaopcminaaaDoor
/- THE CELL 'sum', in the pinned program and in every row, IS THE sha256 OF THE DUMP (.gsa) THAT YtikbjaopcminaaaDoorProg.lean LOADS. Nothing in Lean hashes anything: it is a label: what it is worth is what the hold of that sum in a sandbox is worth. -/
noncomputable def Tryd.pinned : Pinned := { name := "ytikbjaopcminaaadoor", sum := "6eb5e7058d81f98988ad8c0bbc9a3bdda7a63a748179a9f0cd42aa51a8665b48", checked := Tryd.checked }
namespace Rows
def none {H : Type} : Left H := { results := [], args := [] }

/- WHAT THE LISTED PACKAGE-LEVEL VARIABLES READ AS WHEN THE CALL BEGINS. Each datum BY PROGRAM (the guide's laid-datum.mjs) off the statement by which the dump's own 'gosem.cut.vars' lays the variable. In a bare row this is a premise. The card (YtikbjaopcminaaaDoorCards.lean) ties it to the program's text. -/
def laid_unicode_utf8_acceptRanges {H : Type} : DataW H := .agg [.agg [.lit (.int .u8 128), .lit (.int .u8 191)], .agg [.lit (.int .u8 160), .lit (.int .u8 191)], .agg [.lit (.int .u8 128), .lit (.int .u8 159)], .agg [.lit (.int .u8 144), .lit (.int .u8 191)], .agg [.lit (.int .u8 128), .lit (.int .u8 143)], .agg [.lit (.int .u8 0), .lit (.int .u8 0)], .agg [.lit (.int .u8 0), .lit (.int .u8 0)], .agg [.lit (.int .u8 0), .lit (.int .u8 0)], .agg [.lit (.int .u8 0), .lit (.int .u8 0)], .agg [.lit (.int .u8 0), .lit (.int .u8 0)], .agg [.lit (.int .u8 0), .lit (.int .u8 0)], .agg [.lit (.int .u8 0), .lit (.int .u8 0)], .agg [.lit (.int .u8 0), .lit (.int .u8 0)], .agg [.lit (.int .u8 0), .lit (.int .u8 0)], .agg [.lit (.int .u8 0), .lit (.int .u8 0)], .agg [.lit (.int .u8 0), .lit (.int .u8 0)]]
/-- One of Go's own tables, pinned by name: the form's constant. -/
def laid_unicode_utf8_first : DataW Unit := Go.Pinned.utf8First

/-- 'calquelaw36.CatalogNames': WHATEVER THE INPUT: true; the input reads as it did. -/
def catalogNamesSpec : ChangeSpec := { name := "catalogNames", fn := fun _ => fun
  | [d] => { results := [.lit (.bool true)], args := [d] }
  | _ => none }
def catalogNamesRow : OpenClaim := { program := "ytikbjaopcminaaadoor", sum := "6eb5e7058d81f98988ad8c0bbc9a3bdda7a63a748179a9f0cd42aa51a8665b48", func := "calque/calquelaw36.CatalogNames", spec := "catalogNames", inPlace := ["slices.overlaps[calque/api.Entry]"], unfollowed := true, recurses := true, named := ["unicode/utf8.first", "unicode/utf8.acceptRanges"], apart := false, laid := [("unicode/utf8.acceptRanges", laid_unicode_utf8_acceptRanges), ("unicode/utf8.first", laid_unicode_utf8_first)] }
def CatalogNamesSaid : Prop := catalogNamesRow.holds Tryd.pinned (OpenSpec.ofChange catalogNamesSpec)

/-- ITS FALSE NEIGHBOUR: 'it returns false'. Refute it at one input. -/
def catalogNamesWrong : ChangeSpec := { name := "catalogNames", fn := fun _ => fun
  | [d] => { results := [.lit (.bool false)], args := [d] }
  | _ => none }
def CatalogNamesWrongFalsely : Prop := catalogNamesRow.holds Tryd.pinned (OpenSpec.ofChange catalogNamesWrong)

/-- 'calquelaw36.CatalogValid': WHATEVER THE INPUT: true; the input reads as it did. -/
def catalogValidSpec : ChangeSpec := { name := "catalogValid", fn := fun _ => fun
  | [d1, d2] => { results := [.lit (.bool true)], args := [d1, d2] }
  | _ => none }
def catalogValidRow : OpenClaim := { program := "ytikbjaopcminaaadoor", sum := "6eb5e7058d81f98988ad8c0bbc9a3bdda7a63a748179a9f0cd42aa51a8665b48", func := "calque/calquelaw36.CatalogValid", spec := "catalogValid", inPlace := ["slices.overlaps[calque/api.Entry]"], unfollowed := true, recurses := true, named := ["unicode/utf8.first", "unicode/utf8.acceptRanges"], apart := false, laid := [("unicode/utf8.acceptRanges", laid_unicode_utf8_acceptRanges), ("unicode/utf8.first", laid_unicode_utf8_first)] }
def CatalogValidSaid : Prop := catalogValidRow.holds Tryd.pinned (OpenSpec.ofChange catalogValidSpec)

/-- ITS FALSE NEIGHBOUR: 'it returns false'. Refute it at one input. -/
def catalogValidWrong : ChangeSpec := { name := "catalogValid", fn := fun _ => fun
  | [d1, d2] => { results := [.lit (.bool false)], args := [d1, d2] }
  | _ => none }
def CatalogValidWrongFalsely : Prop := catalogValidRow.holds Tryd.pinned (OpenSpec.ofChange catalogValidWrong)

/-- 'calquelaw36.CatalogRemove': WHATEVER THE INPUT: true; the input reads as it did. -/
def catalogRemoveSpec : ChangeSpec := { name := "catalogRemove", fn := fun _ => fun
  | [d1, d2, d3] => { results := [.lit (.bool true)], args := [d1, d2, d3] }
  | _ => none }
def catalogRemoveRow : OpenClaim := { program := "ytikbjaopcminaaadoor", sum := "6eb5e7058d81f98988ad8c0bbc9a3bdda7a63a748179a9f0cd42aa51a8665b48", func := "calque/calquelaw36.CatalogRemove", spec := "catalogRemove", inPlace := ["slices.overlaps[calque/api.Entry]"], unfollowed := true, recurses := true, named := ["unicode/utf8.first", "unicode/utf8.acceptRanges"], apart := false, laid := [("unicode/utf8.acceptRanges", laid_unicode_utf8_acceptRanges), ("unicode/utf8.first", laid_unicode_utf8_first)] }
def CatalogRemoveSaid : Prop := catalogRemoveRow.holds Tryd.pinned (OpenSpec.ofChange catalogRemoveSpec)

/-- ITS FALSE NEIGHBOUR: 'it returns false'. Refute it at one input. -/
def catalogRemoveWrong : ChangeSpec := { name := "catalogRemove", fn := fun _ => fun
  | [d1, d2, d3] => { results := [.lit (.bool false)], args := [d1, d2, d3] }
  | _ => none }
def CatalogRemoveWrongFalsely : Prop := catalogRemoveRow.holds Tryd.pinned (OpenSpec.ofChange catalogRemoveWrong)

/-- 'calquelaw36.CatalogPut': WHATEVER THE INPUT: true; the input reads as it did. -/
def catalogPutSpec : ChangeSpec := { name := "catalogPut", fn := fun _ => fun
  | [d1, d2, d3] => { results := [.lit (.bool true)], args := [d1, d2, d3] }
  | _ => none }
def catalogPutRow : OpenClaim := { program := "ytikbjaopcminaaadoor", sum := "6eb5e7058d81f98988ad8c0bbc9a3bdda7a63a748179a9f0cd42aa51a8665b48", func := "calque/calquelaw36.CatalogPut", spec := "catalogPut", inPlace := ["slices.overlaps[calque/api.Entry]"], unfollowed := true, recurses := true, named := ["unicode/utf8.first", "unicode/utf8.acceptRanges"], apart := false, laid := [("unicode/utf8.acceptRanges", laid_unicode_utf8_acceptRanges), ("unicode/utf8.first", laid_unicode_utf8_first)] }
def CatalogPutSaid : Prop := catalogPutRow.holds Tryd.pinned (OpenSpec.ofChange catalogPutSpec)

/-- ITS FALSE NEIGHBOUR: 'it returns false'. Refute it at one input. -/
def catalogPutWrong : ChangeSpec := { name := "catalogPut", fn := fun _ => fun
  | [d1, d2, d3] => { results := [.lit (.bool false)], args := [d1, d2, d3] }
  | _ => none }
def CatalogPutWrongFalsely : Prop := catalogPutRow.holds Tryd.pinned (OpenSpec.ofChange catalogPutWrong)

/-- 'calquelaw36.CatalogPuts': WHATEVER THE INPUT: true; the input reads as it did. -/
def catalogPutsSpec : ChangeSpec := { name := "catalogPuts", fn := fun _ => fun
  | [d1, d2, d3] => { results := [.lit (.bool true)], args := [d1, d2, d3] }
  | _ => none }
def catalogPutsRow : OpenClaim := { program := "ytikbjaopcminaaadoor", sum := "6eb5e7058d81f98988ad8c0bbc9a3bdda7a63a748179a9f0cd42aa51a8665b48", func := "calque/calquelaw36.CatalogPuts", spec := "catalogPuts", inPlace := ["slices.overlaps[calque/api.Entry]"], unfollowed := true, recurses := true, named := ["unicode/utf8.first", "unicode/utf8.acceptRanges"], apart := false, laid := [("unicode/utf8.acceptRanges", laid_unicode_utf8_acceptRanges), ("unicode/utf8.first", laid_unicode_utf8_first)] }
def CatalogPutsSaid : Prop := catalogPutsRow.holds Tryd.pinned (OpenSpec.ofChange catalogPutsSpec)

/-- ITS FALSE NEIGHBOUR: 'it returns false'. Refute it at one input. -/
def catalogPutsWrong : ChangeSpec := { name := "catalogPuts", fn := fun _ => fun
  | [d1, d2, d3] => { results := [.lit (.bool false)], args := [d1, d2, d3] }
  | _ => none }
def CatalogPutsWrongFalsely : Prop := catalogPutsRow.holds Tryd.pinned (OpenSpec.ofChange catalogPutsWrong)

/-- 'calquelaw36.CatalogMoves': WHATEVER THE INPUT: true; the input reads as it did. -/
def catalogMovesSpec : ChangeSpec := { name := "catalogMoves", fn := fun _ => fun
  | [d1, d2, d3] => { results := [.lit (.bool true)], args := [d1, d2, d3] }
  | _ => none }
def catalogMovesRow : OpenClaim := { program := "ytikbjaopcminaaadoor", sum := "6eb5e7058d81f98988ad8c0bbc9a3bdda7a63a748179a9f0cd42aa51a8665b48", func := "calque/calquelaw36.CatalogMoves", spec := "catalogMoves", inPlace := ["slices.overlaps[calque/api.Entry]"], unfollowed := true, recurses := true, named := ["unicode/utf8.first", "unicode/utf8.acceptRanges"], apart := false, laid := [("unicode/utf8.acceptRanges", laid_unicode_utf8_acceptRanges), ("unicode/utf8.first", laid_unicode_utf8_first)] }
def CatalogMovesSaid : Prop := catalogMovesRow.holds Tryd.pinned (OpenSpec.ofChange catalogMovesSpec)

/-- ITS FALSE NEIGHBOUR: 'it returns false'. Refute it at one input. -/
def catalogMovesWrong : ChangeSpec := { name := "catalogMoves", fn := fun _ => fun
  | [d1, d2, d3] => { results := [.lit (.bool false)], args := [d1, d2, d3] }
  | _ => none }
def CatalogMovesWrongFalsely : Prop := catalogMovesRow.holds Tryd.pinned (OpenSpec.ofChange catalogMovesWrong)

/-- 'calquelaw36.CatalogFind': WHATEVER THE INPUT: true; the input reads as it did. -/
def catalogFindSpec : ChangeSpec := { name := "catalogFind", fn := fun _ => fun
  | [d1, d2, d3] => { results := [.lit (.bool true)], args := [d1, d2, d3] }
  | _ => none }
def catalogFindRow : OpenClaim := { program := "ytikbjaopcminaaadoor", sum := "6eb5e7058d81f98988ad8c0bbc9a3bdda7a63a748179a9f0cd42aa51a8665b48", func := "calque/calquelaw36.CatalogFind", spec := "catalogFind", inPlace := ["slices.overlaps[calque/api.Entry]"], unfollowed := true, recurses := true, named := ["unicode/utf8.first", "unicode/utf8.acceptRanges"], apart := false, laid := [("unicode/utf8.acceptRanges", laid_unicode_utf8_acceptRanges), ("unicode/utf8.first", laid_unicode_utf8_first)] }
def CatalogFindSaid : Prop := catalogFindRow.holds Tryd.pinned (OpenSpec.ofChange catalogFindSpec)

/-- ITS FALSE NEIGHBOUR: 'it returns false'. Refute it at one input. -/
def catalogFindWrong : ChangeSpec := { name := "catalogFind", fn := fun _ => fun
  | [d1, d2, d3] => { results := [.lit (.bool false)], args := [d1, d2, d3] }
  | _ => none }
def CatalogFindWrongFalsely : Prop := catalogFindRow.holds Tryd.pinned (OpenSpec.ofChange catalogFindWrong)

/-- 'calquelaw36.CatalogFields': WHATEVER THE INPUT: true; the input reads as it did. -/
def catalogFieldsSpec : ChangeSpec := { name := "catalogFields", fn := fun _ => fun
  | [d1, d2, d3] => { results := [.lit (.bool true)], args := [d1, d2, d3] }
  | _ => none }
def catalogFieldsRow : OpenClaim := { program := "ytikbjaopcminaaadoor", sum := "6eb5e7058d81f98988ad8c0bbc9a3bdda7a63a748179a9f0cd42aa51a8665b48", func := "calque/calquelaw36.CatalogFields", spec := "catalogFields", inPlace := ["slices.overlaps[calque/api.Entry]", "slices.overlaps[calque/api.Field]"], unfollowed := true, recurses := true, named := ["unicode/utf8.first", "unicode/utf8.acceptRanges"], apart := false, laid := [("unicode/utf8.acceptRanges", laid_unicode_utf8_acceptRanges), ("unicode/utf8.first", laid_unicode_utf8_first)] }
def CatalogFieldsSaid : Prop := catalogFieldsRow.holds Tryd.pinned (OpenSpec.ofChange catalogFieldsSpec)

/-- ITS FALSE NEIGHBOUR: 'it returns false'. Refute it at one input. -/
def catalogFieldsWrong : ChangeSpec := { name := "catalogFields", fn := fun _ => fun
  | [d1, d2, d3] => { results := [.lit (.bool false)], args := [d1, d2, d3] }
  | _ => none }
def CatalogFieldsWrongFalsely : Prop := catalogFieldsRow.holds Tryd.pinned (OpenSpec.ofChange catalogFieldsWrong)

/-- 'calquelaw36.CatalogSets': WHATEVER THE INPUT: true; the input reads as it did. -/
def catalogSetsSpec : ChangeSpec := { name := "catalogSets", fn := fun _ => fun
  | [d1, d2, d3] => { results := [.lit (.bool true)], args := [d1, d2, d3] }
  | _ => none }
def catalogSetsRow : OpenClaim := { program := "ytikbjaopcminaaadoor", sum := "6eb5e7058d81f98988ad8c0bbc9a3bdda7a63a748179a9f0cd42aa51a8665b48", func := "calque/calquelaw36.CatalogSets", spec := "catalogSets", inPlace := ["slices.overlaps[calque/api.Entry]", "slices.overlaps[calque/api.Field]"], unfollowed := true, recurses := true, named := ["unicode/utf8.first", "unicode/utf8.acceptRanges"], apart := false, laid := [("unicode/utf8.acceptRanges", laid_unicode_utf8_acceptRanges), ("unicode/utf8.first", laid_unicode_utf8_first)] }
def CatalogSetsSaid : Prop := catalogSetsRow.holds Tryd.pinned (OpenSpec.ofChange catalogSetsSpec)

/-- ITS FALSE NEIGHBOUR: 'it returns false'. Refute it at one input. -/
def catalogSetsWrong : ChangeSpec := { name := "catalogSets", fn := fun _ => fun
  | [d1, d2, d3] => { results := [.lit (.bool false)], args := [d1, d2, d3] }
  | _ => none }
def CatalogSetsWrongFalsely : Prop := catalogSetsRow.holds Tryd.pinned (OpenSpec.ofChange catalogSetsWrong)

/- THE SECOND FORM. 'bulk': how many values and letters a reading holds, each counted each time it is reached (what is shared counts as often as it is met; a slice's spare places count too). A statement '..UptoSaid' is the law's where the arguments, and the package variables that the reading takes, are together of bulk at most 1048576: NARROWER than '..Said'. Prove '..Said' where nothing that the law and all that it calls make is longer than what came in: it says more and counts as full. Else prove '..UptoSaid'. A law counts once. -/
mutual
def uptoBulk {H : Type} : DataW H → Nat
  | .lit (.string bytes) => bytes.length + 1
  | .lit _ => 1
  | .nil => 1
  | .ptr d => uptoBulk d + 1
  | .slice elems spare => uptoBulkAll elems + uptoBulkAll spare + 1
  | .agg parts => uptoBulkAll parts + 1
  | .iface _ d => uptoBulk d + 1
  | .map entries => uptoBulkEntries entries + 1
  | .held _ => 1
def uptoBulkAll {H : Type} : List (DataW H) → Nat
  | [] => 0
  | d :: r => uptoBulk d + uptoBulkAll r
def uptoBulkEntries {H : Type} : List (Lit × DataW H) → Nat
  | [] => 0
  | x :: r => uptoBulkEntry x + uptoBulkEntries r
def uptoBulkEntry {H : Type} : Lit × DataW H → Nat
  | (.string bytes, d) => bytes.length + uptoBulk d + 1
  | (_, d) => uptoBulk d + 1
 end
def uptoSmall : (H : Type) → List (DataW H) → Bool := fun _ ds => decide (uptoBulkAll ds ≤ 1048576)
def OpenSpec.upto (s : _root_.Go.ChangeSpec) : _root_.Go.OpenSpec := { _root_.Go.OpenSpec.ofChange s with cond := some uptoSmall }

/-- 'calquelaw36.CatalogNames', WHERE WHAT IT READS IS OF BULK AT MOST 1048576: true; the input reads as it did. -/
def catalogNamesUptoRow : OpenClaim := { program := "ytikbjaopcminaaadoor", sum := "6eb5e7058d81f98988ad8c0bbc9a3bdda7a63a748179a9f0cd42aa51a8665b48", func := "calque/calquelaw36.CatalogNames", spec := "catalogNames", inPlace := ["slices.overlaps[calque/api.Entry]"], unfollowed := true, recurses := true, named := ["unicode/utf8.first", "unicode/utf8.acceptRanges"], apart := false, laid := [("unicode/utf8.acceptRanges", laid_unicode_utf8_acceptRanges), ("unicode/utf8.first", laid_unicode_utf8_first)], narrowed := true }
def CatalogNamesUptoSaid : Prop := catalogNamesUptoRow.holds Tryd.pinned (OpenSpec.upto catalogNamesSpec)

/-- 'calquelaw36.CatalogValid', WHERE WHAT IT READS IS OF BULK AT MOST 1048576: true; the input reads as it did. -/
def catalogValidUptoRow : OpenClaim := { program := "ytikbjaopcminaaadoor", sum := "6eb5e7058d81f98988ad8c0bbc9a3bdda7a63a748179a9f0cd42aa51a8665b48", func := "calque/calquelaw36.CatalogValid", spec := "catalogValid", inPlace := ["slices.overlaps[calque/api.Entry]"], unfollowed := true, recurses := true, named := ["unicode/utf8.first", "unicode/utf8.acceptRanges"], apart := false, laid := [("unicode/utf8.acceptRanges", laid_unicode_utf8_acceptRanges), ("unicode/utf8.first", laid_unicode_utf8_first)], narrowed := true }
def CatalogValidUptoSaid : Prop := catalogValidUptoRow.holds Tryd.pinned (OpenSpec.upto catalogValidSpec)

/-- 'calquelaw36.CatalogRemove', WHERE WHAT IT READS IS OF BULK AT MOST 1048576: true; the input reads as it did. -/
def catalogRemoveUptoRow : OpenClaim := { program := "ytikbjaopcminaaadoor", sum := "6eb5e7058d81f98988ad8c0bbc9a3bdda7a63a748179a9f0cd42aa51a8665b48", func := "calque/calquelaw36.CatalogRemove", spec := "catalogRemove", inPlace := ["slices.overlaps[calque/api.Entry]"], unfollowed := true, recurses := true, named := ["unicode/utf8.first", "unicode/utf8.acceptRanges"], apart := false, laid := [("unicode/utf8.acceptRanges", laid_unicode_utf8_acceptRanges), ("unicode/utf8.first", laid_unicode_utf8_first)], narrowed := true }
def CatalogRemoveUptoSaid : Prop := catalogRemoveUptoRow.holds Tryd.pinned (OpenSpec.upto catalogRemoveSpec)

/-- 'calquelaw36.CatalogPut', WHERE WHAT IT READS IS OF BULK AT MOST 1048576: true; the input reads as it did. -/
def catalogPutUptoRow : OpenClaim := { program := "ytikbjaopcminaaadoor", sum := "6eb5e7058d81f98988ad8c0bbc9a3bdda7a63a748179a9f0cd42aa51a8665b48", func := "calque/calquelaw36.CatalogPut", spec := "catalogPut", inPlace := ["slices.overlaps[calque/api.Entry]"], unfollowed := true, recurses := true, named := ["unicode/utf8.first", "unicode/utf8.acceptRanges"], apart := false, laid := [("unicode/utf8.acceptRanges", laid_unicode_utf8_acceptRanges), ("unicode/utf8.first", laid_unicode_utf8_first)], narrowed := true }
def CatalogPutUptoSaid : Prop := catalogPutUptoRow.holds Tryd.pinned (OpenSpec.upto catalogPutSpec)

/-- 'calquelaw36.CatalogPuts', WHERE WHAT IT READS IS OF BULK AT MOST 1048576: true; the input reads as it did. -/
def catalogPutsUptoRow : OpenClaim := { program := "ytikbjaopcminaaadoor", sum := "6eb5e7058d81f98988ad8c0bbc9a3bdda7a63a748179a9f0cd42aa51a8665b48", func := "calque/calquelaw36.CatalogPuts", spec := "catalogPuts", inPlace := ["slices.overlaps[calque/api.Entry]"], unfollowed := true, recurses := true, named := ["unicode/utf8.first", "unicode/utf8.acceptRanges"], apart := false, laid := [("unicode/utf8.acceptRanges", laid_unicode_utf8_acceptRanges), ("unicode/utf8.first", laid_unicode_utf8_first)], narrowed := true }
def CatalogPutsUptoSaid : Prop := catalogPutsUptoRow.holds Tryd.pinned (OpenSpec.upto catalogPutsSpec)

/-- 'calquelaw36.CatalogMoves', WHERE WHAT IT READS IS OF BULK AT MOST 1048576: true; the input reads as it did. -/
def catalogMovesUptoRow : OpenClaim := { program := "ytikbjaopcminaaadoor", sum := "6eb5e7058d81f98988ad8c0bbc9a3bdda7a63a748179a9f0cd42aa51a8665b48", func := "calque/calquelaw36.CatalogMoves", spec := "catalogMoves", inPlace := ["slices.overlaps[calque/api.Entry]"], unfollowed := true, recurses := true, named := ["unicode/utf8.first", "unicode/utf8.acceptRanges"], apart := false, laid := [("unicode/utf8.acceptRanges", laid_unicode_utf8_acceptRanges), ("unicode/utf8.first", laid_unicode_utf8_first)], narrowed := true }
def CatalogMovesUptoSaid : Prop := catalogMovesUptoRow.holds Tryd.pinned (OpenSpec.upto catalogMovesSpec)

/-- 'calquelaw36.CatalogFind', WHERE WHAT IT READS IS OF BULK AT MOST 1048576: true; the input reads as it did. -/
def catalogFindUptoRow : OpenClaim := { program := "ytikbjaopcminaaadoor", sum := "6eb5e7058d81f98988ad8c0bbc9a3bdda7a63a748179a9f0cd42aa51a8665b48", func := "calque/calquelaw36.CatalogFind", spec := "catalogFind", inPlace := ["slices.overlaps[calque/api.Entry]"], unfollowed := true, recurses := true, named := ["unicode/utf8.first", "unicode/utf8.acceptRanges"], apart := false, laid := [("unicode/utf8.acceptRanges", laid_unicode_utf8_acceptRanges), ("unicode/utf8.first", laid_unicode_utf8_first)], narrowed := true }
def CatalogFindUptoSaid : Prop := catalogFindUptoRow.holds Tryd.pinned (OpenSpec.upto catalogFindSpec)

/-- 'calquelaw36.CatalogFields', WHERE WHAT IT READS IS OF BULK AT MOST 1048576: true; the input reads as it did. -/
def catalogFieldsUptoRow : OpenClaim := { program := "ytikbjaopcminaaadoor", sum := "6eb5e7058d81f98988ad8c0bbc9a3bdda7a63a748179a9f0cd42aa51a8665b48", func := "calque/calquelaw36.CatalogFields", spec := "catalogFields", inPlace := ["slices.overlaps[calque/api.Entry]", "slices.overlaps[calque/api.Field]"], unfollowed := true, recurses := true, named := ["unicode/utf8.first", "unicode/utf8.acceptRanges"], apart := false, laid := [("unicode/utf8.acceptRanges", laid_unicode_utf8_acceptRanges), ("unicode/utf8.first", laid_unicode_utf8_first)], narrowed := true }
def CatalogFieldsUptoSaid : Prop := catalogFieldsUptoRow.holds Tryd.pinned (OpenSpec.upto catalogFieldsSpec)

/-- 'calquelaw36.CatalogSets', WHERE WHAT IT READS IS OF BULK AT MOST 1048576: true; the input reads as it did. -/
def catalogSetsUptoRow : OpenClaim := { program := "ytikbjaopcminaaadoor", sum := "6eb5e7058d81f98988ad8c0bbc9a3bdda7a63a748179a9f0cd42aa51a8665b48", func := "calque/calquelaw36.CatalogSets", spec := "catalogSets", inPlace := ["slices.overlaps[calque/api.Entry]", "slices.overlaps[calque/api.Field]"], unfollowed := true, recurses := true, named := ["unicode/utf8.first", "unicode/utf8.acceptRanges"], apart := false, laid := [("unicode/utf8.acceptRanges", laid_unicode_utf8_acceptRanges), ("unicode/utf8.first", laid_unicode_utf8_first)], narrowed := true }
def CatalogSetsUptoSaid : Prop := catalogSetsUptoRow.holds Tryd.pinned (OpenSpec.upto catalogSetsSpec)

end Rows
end Go.Proofs.YtikbjaopcminaaaDoor
