/-
  NARROWER THAN 'FOR EVERY INPUT', by the rows' own cells (each row's printed sentence says how): BinaryEncode: laid · BinaryDirectory: laid · BinaryInverse: laid · BinaryLength: laid · BinaryEntries: laid.
  DERIVED. THE GIVEN ROWS OF THIS SEAT. 5 by the template 'for every input the law returns true; each argument reads behind the call as it read before'; 0 by the template 'total and deterministic' (their statements: YtngpajaghadhdaaDoorTotals.lean).
  GIVEN WITH THE SEED: the statements are not yours to turn. If you find one false, say at which input.
  Laid BY PROGRAM, IN A SANDBOX (cutbox-rows.mjs): the forced cells as the released guide's own fill.sh prints them over the translation 33a4b29d562dab28… (all of the seat's roots in one cut). By AI agents, Wed Nov 11 2026. No macro, syntax, notation, axiom, sorry.
-/
import Derived.Test.YtngpajaghadhdaaDoorChecked
import GoSem.PinnedTables
import GoSem.Claim
import GoSem.ClaimJoined
import GoSem.ClaimMapViews
import Derived.JoinedTies
import Derived.KernelRfl
namespace Go.Proofs.YtngpajaghadhdaaDoor
/- THE CELL 'sum', in the pinned program and in every row, IS THE sha256 OF THE DUMP (.gsa) THAT YtngpajaghadhdaaDoorProg.lean LOADS. Nothing in Lean hashes anything: it is a label: what it is worth is what the hold of that sum in a sandbox is worth. -/
noncomputable def Tryd.pinned : Pinned := { name := "ytngpajaghadhdaadoor", sum := "33a4b29d562dab28d51f15b6c14401c2621ce2cf36d0b1d596394873be8bae32", checked := Tryd.checked }
namespace Rows
def none {H : Type} : Left H := { results := [], args := [] }

/- WHAT THE LISTED PACKAGE-LEVEL VARIABLES READ AS WHEN THE CALL BEGINS. Each datum BY PROGRAM (the guide's laid-datum.mjs) off the statement by which the dump's own 'gosem.cut.vars' lays the variable. In a bare row this is a premise. The card (YtngpajaghadhdaaDoorCards.lean) ties it to the program's text. -/
def laid_unicode_utf8_acceptRanges {H : Type} : DataW H := .agg [.agg [.lit (.int .u8 128), .lit (.int .u8 191)], .agg [.lit (.int .u8 160), .lit (.int .u8 191)], .agg [.lit (.int .u8 128), .lit (.int .u8 159)], .agg [.lit (.int .u8 144), .lit (.int .u8 191)], .agg [.lit (.int .u8 128), .lit (.int .u8 143)], .agg [.lit (.int .u8 0), .lit (.int .u8 0)], .agg [.lit (.int .u8 0), .lit (.int .u8 0)], .agg [.lit (.int .u8 0), .lit (.int .u8 0)], .agg [.lit (.int .u8 0), .lit (.int .u8 0)], .agg [.lit (.int .u8 0), .lit (.int .u8 0)], .agg [.lit (.int .u8 0), .lit (.int .u8 0)], .agg [.lit (.int .u8 0), .lit (.int .u8 0)], .agg [.lit (.int .u8 0), .lit (.int .u8 0)], .agg [.lit (.int .u8 0), .lit (.int .u8 0)], .agg [.lit (.int .u8 0), .lit (.int .u8 0)], .agg [.lit (.int .u8 0), .lit (.int .u8 0)]]
/-- One of Go's own tables, pinned by name: the form's constant. -/
def laid_unicode_utf8_first : DataW Unit := Go.Pinned.utf8First

/-- 'calquelaw42.BinaryEncode': WHATEVER THE INPUT: true; the input reads as it did. -/
def binaryEncodeSpec : ChangeSpec := { name := "binaryEncode", fn := fun _ => fun
  | [d] => { results := [.lit (.bool true)], args := [d] }
  | _ => none }
def binaryEncodeRow : OpenClaim := { program := "ytngpajaghadhdaadoor", sum := "33a4b29d562dab28d51f15b6c14401c2621ce2cf36d0b1d596394873be8bae32", func := "calque/calquelaw42.BinaryEncode", spec := "binaryEncode", unfollowed := true, recurses := true, named := ["unicode/utf8.first", "unicode/utf8.acceptRanges"], apart := false, laid := [("unicode/utf8.acceptRanges", laid_unicode_utf8_acceptRanges), ("unicode/utf8.first", laid_unicode_utf8_first)] }
def BinaryEncodeSaid : Prop := binaryEncodeRow.holds Tryd.pinned (OpenSpec.ofChange binaryEncodeSpec)

/-- ITS FALSE NEIGHBOUR: 'it returns false'. Refute it at one input. -/
def binaryEncodeWrong : ChangeSpec := { name := "binaryEncode", fn := fun _ => fun
  | [d] => { results := [.lit (.bool false)], args := [d] }
  | _ => none }
def BinaryEncodeWrongFalsely : Prop := binaryEncodeRow.holds Tryd.pinned (OpenSpec.ofChange binaryEncodeWrong)

/-- 'calquelaw42.BinaryDirectory': WHATEVER THE INPUT: true; the input reads as it did. -/
def binaryDirectorySpec : ChangeSpec := { name := "binaryDirectory", fn := fun _ => fun
  | [d] => { results := [.lit (.bool true)], args := [d] }
  | _ => none }
def binaryDirectoryRow : OpenClaim := { program := "ytngpajaghadhdaadoor", sum := "33a4b29d562dab28d51f15b6c14401c2621ce2cf36d0b1d596394873be8bae32", func := "calque/calquelaw42.BinaryDirectory", spec := "binaryDirectory", unfollowed := true, recurses := true, named := ["unicode/utf8.first", "unicode/utf8.acceptRanges"], apart := false, laid := [("unicode/utf8.acceptRanges", laid_unicode_utf8_acceptRanges), ("unicode/utf8.first", laid_unicode_utf8_first)] }
def BinaryDirectorySaid : Prop := binaryDirectoryRow.holds Tryd.pinned (OpenSpec.ofChange binaryDirectorySpec)

/-- ITS FALSE NEIGHBOUR: 'it returns false'. Refute it at one input. -/
def binaryDirectoryWrong : ChangeSpec := { name := "binaryDirectory", fn := fun _ => fun
  | [d] => { results := [.lit (.bool false)], args := [d] }
  | _ => none }
def BinaryDirectoryWrongFalsely : Prop := binaryDirectoryRow.holds Tryd.pinned (OpenSpec.ofChange binaryDirectoryWrong)

/-- 'calquelaw42.BinaryInverse': WHATEVER THE INPUT: true; the input reads as it did. -/
def binaryInverseSpec : ChangeSpec := { name := "binaryInverse", fn := fun _ => fun
  | [d1, d2] => { results := [.lit (.bool true)], args := [d1, d2] }
  | _ => none }
def binaryInverseRow : OpenClaim := { program := "ytngpajaghadhdaadoor", sum := "33a4b29d562dab28d51f15b6c14401c2621ce2cf36d0b1d596394873be8bae32", func := "calque/calquelaw42.BinaryInverse", spec := "binaryInverse", unfollowed := true, recurses := true, named := ["unicode/utf8.first", "unicode/utf8.acceptRanges"], apart := false, laid := [("unicode/utf8.acceptRanges", laid_unicode_utf8_acceptRanges), ("unicode/utf8.first", laid_unicode_utf8_first)] }
def BinaryInverseSaid : Prop := binaryInverseRow.holds Tryd.pinned (OpenSpec.ofChange binaryInverseSpec)

/-- ITS FALSE NEIGHBOUR: 'it returns false'. Refute it at one input. -/
def binaryInverseWrong : ChangeSpec := { name := "binaryInverse", fn := fun _ => fun
  | [d1, d2] => { results := [.lit (.bool false)], args := [d1, d2] }
  | _ => none }
def BinaryInverseWrongFalsely : Prop := binaryInverseRow.holds Tryd.pinned (OpenSpec.ofChange binaryInverseWrong)

/-- 'calquelaw42.BinaryLength': WHATEVER THE INPUT: true; the input reads as it did. -/
def binaryLengthSpec : ChangeSpec := { name := "binaryLength", fn := fun _ => fun
  | [d1, d2, d3] => { results := [.lit (.bool true)], args := [d1, d2, d3] }
  | _ => none }
def binaryLengthRow : OpenClaim := { program := "ytngpajaghadhdaadoor", sum := "33a4b29d562dab28d51f15b6c14401c2621ce2cf36d0b1d596394873be8bae32", func := "calque/calquelaw42.BinaryLength", spec := "binaryLength", unfollowed := true, recurses := true, named := ["unicode/utf8.first", "unicode/utf8.acceptRanges"], apart := false, laid := [("unicode/utf8.acceptRanges", laid_unicode_utf8_acceptRanges), ("unicode/utf8.first", laid_unicode_utf8_first)] }
def BinaryLengthSaid : Prop := binaryLengthRow.holds Tryd.pinned (OpenSpec.ofChange binaryLengthSpec)

/-- ITS FALSE NEIGHBOUR: 'it returns false'. Refute it at one input. -/
def binaryLengthWrong : ChangeSpec := { name := "binaryLength", fn := fun _ => fun
  | [d1, d2, d3] => { results := [.lit (.bool false)], args := [d1, d2, d3] }
  | _ => none }
def BinaryLengthWrongFalsely : Prop := binaryLengthRow.holds Tryd.pinned (OpenSpec.ofChange binaryLengthWrong)

/-- 'calquelaw42.BinaryEntries': WHATEVER THE INPUT: true; the input reads as it did. -/
def binaryEntriesSpec : ChangeSpec := { name := "binaryEntries", fn := fun _ => fun
  | [d1, d2, d3] => { results := [.lit (.bool true)], args := [d1, d2, d3] }
  | _ => none }
def binaryEntriesRow : OpenClaim := { program := "ytngpajaghadhdaadoor", sum := "33a4b29d562dab28d51f15b6c14401c2621ce2cf36d0b1d596394873be8bae32", func := "calque/calquelaw42.BinaryEntries", spec := "binaryEntries", unfollowed := true, recurses := true, named := ["unicode/utf8.first", "unicode/utf8.acceptRanges"], apart := false, laid := [("unicode/utf8.acceptRanges", laid_unicode_utf8_acceptRanges), ("unicode/utf8.first", laid_unicode_utf8_first)] }
def BinaryEntriesSaid : Prop := binaryEntriesRow.holds Tryd.pinned (OpenSpec.ofChange binaryEntriesSpec)

/-- ITS FALSE NEIGHBOUR: 'it returns false'. Refute it at one input. -/
def binaryEntriesWrong : ChangeSpec := { name := "binaryEntries", fn := fun _ => fun
  | [d1, d2, d3] => { results := [.lit (.bool false)], args := [d1, d2, d3] }
  | _ => none }
def BinaryEntriesWrongFalsely : Prop := binaryEntriesRow.holds Tryd.pinned (OpenSpec.ofChange binaryEntriesWrong)

/- THE SECOND FORM. 'bulk': how many values and letters a reading holds, each counted each time it is reached (what is shared counts as often as it is met; a slice's spare places count too). A statement '..UptoSaid' is the law's where the arguments, and the package variables that the reading takes, are together of bulk at most 1048576: NARROWER than '..Said'. Prove '..Said' where nothing that the law and all that it calls make is longer than what came in: it says more and counts as full. Else prove '..UptoSaid'. A law counts once. -/
mutual
def uptoBulk {H : Type} : DataW H → Nat
  | .lit (.string bytes) => bytes.length + 1
  | .lit _ => 1
  | .nil => 1
  | .ptr d => uptoBulk d + 1
  | .slice elems spare => uptoBulkAll elems + uptoBulkAll spare + 1
  | .agg parts => uptoBulkAll parts + 1
  | .iface _ d => uptoBulk d + 1
  | .map entries => uptoBulkEntries entries + 1
  | .held _ => 1
def uptoBulkAll {H : Type} : List (DataW H) → Nat
  | [] => 0
  | d :: r => uptoBulk d + uptoBulkAll r
def uptoBulkEntries {H : Type} : List (Lit × DataW H) → Nat
  | [] => 0
  | x :: r => uptoBulkEntry x + uptoBulkEntries r
def uptoBulkEntry {H : Type} : Lit × DataW H → Nat
  | (.string bytes, d) => bytes.length + uptoBulk d + 1
  | (_, d) => uptoBulk d + 1
 end
def uptoSmall : (H : Type) → List (DataW H) → Bool := fun _ ds => decide (uptoBulkAll ds ≤ 1048576)
def OpenSpec.upto (s : _root_.Go.ChangeSpec) : _root_.Go.OpenSpec := { _root_.Go.OpenSpec.ofChange s with cond := some uptoSmall }

/-- 'calquelaw42.BinaryEncode', WHERE WHAT IT READS IS OF BULK AT MOST 1048576: true; the input reads as it did. -/
def binaryEncodeUptoRow : OpenClaim := { program := "ytngpajaghadhdaadoor", sum := "33a4b29d562dab28d51f15b6c14401c2621ce2cf36d0b1d596394873be8bae32", func := "calque/calquelaw42.BinaryEncode", spec := "binaryEncode", unfollowed := true, recurses := true, named := ["unicode/utf8.first", "unicode/utf8.acceptRanges"], apart := false, laid := [("unicode/utf8.acceptRanges", laid_unicode_utf8_acceptRanges), ("unicode/utf8.first", laid_unicode_utf8_first)], narrowed := true }
def BinaryEncodeUptoSaid : Prop := binaryEncodeUptoRow.holds Tryd.pinned (OpenSpec.upto binaryEncodeSpec)

/-- 'calquelaw42.BinaryDirectory', WHERE WHAT IT READS IS OF BULK AT MOST 1048576: true; the input reads as it did. -/
def binaryDirectoryUptoRow : OpenClaim := { program := "ytngpajaghadhdaadoor", sum := "33a4b29d562dab28d51f15b6c14401c2621ce2cf36d0b1d596394873be8bae32", func := "calque/calquelaw42.BinaryDirectory", spec := "binaryDirectory", unfollowed := true, recurses := true, named := ["unicode/utf8.first", "unicode/utf8.acceptRanges"], apart := false, laid := [("unicode/utf8.acceptRanges", laid_unicode_utf8_acceptRanges), ("unicode/utf8.first", laid_unicode_utf8_first)], narrowed := true }
def BinaryDirectoryUptoSaid : Prop := binaryDirectoryUptoRow.holds Tryd.pinned (OpenSpec.upto binaryDirectorySpec)

/-- 'calquelaw42.BinaryInverse', WHERE WHAT IT READS IS OF BULK AT MOST 1048576: true; the input reads as it did. -/
def binaryInverseUptoRow : OpenClaim := { program := "ytngpajaghadhdaadoor", sum := "33a4b29d562dab28d51f15b6c14401c2621ce2cf36d0b1d596394873be8bae32", func := "calque/calquelaw42.BinaryInverse", spec := "binaryInverse", unfollowed := true, recurses := true, named := ["unicode/utf8.first", "unicode/utf8.acceptRanges"], apart := false, laid := [("unicode/utf8.acceptRanges", laid_unicode_utf8_acceptRanges), ("unicode/utf8.first", laid_unicode_utf8_first)], narrowed := true }
def BinaryInverseUptoSaid : Prop := binaryInverseUptoRow.holds Tryd.pinned (OpenSpec.upto binaryInverseSpec)

/-- 'calquelaw42.BinaryLength', WHERE WHAT IT READS IS OF BULK AT MOST 1048576: true; the input reads as it did. -/
def binaryLengthUptoRow : OpenClaim := { program := "ytngpajaghadhdaadoor", sum := "33a4b29d562dab28d51f15b6c14401c2621ce2cf36d0b1d596394873be8bae32", func := "calque/calquelaw42.BinaryLength", spec := "binaryLength", unfollowed := true, recurses := true, named := ["unicode/utf8.first", "unicode/utf8.acceptRanges"], apart := false, laid := [("unicode/utf8.acceptRanges", laid_unicode_utf8_acceptRanges), ("unicode/utf8.first", laid_unicode_utf8_first)], narrowed := true }
def BinaryLengthUptoSaid : Prop := binaryLengthUptoRow.holds Tryd.pinned (OpenSpec.upto binaryLengthSpec)

/-- 'calquelaw42.BinaryEntries', WHERE WHAT IT READS IS OF BULK AT MOST 1048576: true; the input reads as it did. -/
def binaryEntriesUptoRow : OpenClaim := { program := "ytngpajaghadhdaadoor", sum := "33a4b29d562dab28d51f15b6c14401c2621ce2cf36d0b1d596394873be8bae32", func := "calque/calquelaw42.BinaryEntries", spec := "binaryEntries", unfollowed := true, recurses := true, named := ["unicode/utf8.first", "unicode/utf8.acceptRanges"], apart := false, laid := [("unicode/utf8.acceptRanges", laid_unicode_utf8_acceptRanges), ("unicode/utf8.first", laid_unicode_utf8_first)], narrowed := true }
def BinaryEntriesUptoSaid : Prop := binaryEntriesUptoRow.holds Tryd.pinned (OpenSpec.upto binaryEntriesSpec)

end Rows
end Go.Proofs.YtngpajaghadhdaaDoor
