/-
  NARROWER THAN 'FOR EVERY INPUT', by the rows' own cells (each row's printed sentence says how): LockHolds: laid · LockLimit: laid · LockOthers: laid · LockScript: laid · LockExpires: laid · LockNil: laid.
  DERIVED. THE GIVEN ROWS OF THIS SEAT. 6 by the template 'for every input the law returns true; each argument reads behind the call as it read before'; 0 by the template 'total and deterministic' (their statements: YthmeobjomidkoaaDoorTotals.lean).
  GIVEN WITH THE SEED: the statements are not yours to turn. If you find one false, say at which input.
  Laid BY PROGRAM, IN A SANDBOX (cutbox-rows.mjs): the forced cells as the released guide's own fill.sh prints them over the translation e9ea4d225c74e976… (all of the seat's roots in one cut). By AI agents, Wed Nov 11 2026. No macro, syntax, notation, axiom, sorry.
-/
import Derived.Test.YthmeobjomidkoaaDoorChecked
import GoSem.PinnedTables
import GoSem.Claim
import GoSem.ClaimJoined
import GoSem.ClaimMapViews
import Derived.JoinedTies
import Derived.KernelRfl
namespace Go.Proofs.YthmeobjomidkoaaDoor
/- THE CELL 'sum', in the pinned program and in every row, IS THE sha256 OF THE DUMP (.gsa) THAT YthmeobjomidkoaaDoorProg.lean LOADS. Nothing in Lean hashes anything: it is a label: what it is worth is what the hold of that sum in a sandbox is worth. -/
noncomputable def Tryd.pinned : Pinned := { name := "ythmeobjomidkoaadoor", sum := "e9ea4d225c74e976c92fc50c473a2858fa5b77992c9cef675a4f370686cdbe61", checked := Tryd.checked }
namespace Rows
def none {H : Type} : Left H := { results := [], args := [] }

/- WHAT THE LISTED PACKAGE-LEVEL VARIABLES READ AS WHEN THE CALL BEGINS. Each datum BY PROGRAM (the guide's laid-datum.mjs) off the statement by which the dump's own 'gosem.cut.vars' lays the variable. In a bare row this is a premise. The card (YthmeobjomidkoaaDoorCards.lean) ties it to the program's text. -/
def laid_unicode_utf8_acceptRanges {H : Type} : DataW H := .agg [.agg [.lit (.int .u8 128), .lit (.int .u8 191)], .agg [.lit (.int .u8 160), .lit (.int .u8 191)], .agg [.lit (.int .u8 128), .lit (.int .u8 159)], .agg [.lit (.int .u8 144), .lit (.int .u8 191)], .agg [.lit (.int .u8 128), .lit (.int .u8 143)], .agg [.lit (.int .u8 0), .lit (.int .u8 0)], .agg [.lit (.int .u8 0), .lit (.int .u8 0)], .agg [.lit (.int .u8 0), .lit (.int .u8 0)], .agg [.lit (.int .u8 0), .lit (.int .u8 0)], .agg [.lit (.int .u8 0), .lit (.int .u8 0)], .agg [.lit (.int .u8 0), .lit (.int .u8 0)], .agg [.lit (.int .u8 0), .lit (.int .u8 0)], .agg [.lit (.int .u8 0), .lit (.int .u8 0)], .agg [.lit (.int .u8 0), .lit (.int .u8 0)], .agg [.lit (.int .u8 0), .lit (.int .u8 0)], .agg [.lit (.int .u8 0), .lit (.int .u8 0)]]
/-- One of Go's own tables, pinned by name: the form's constant. -/
def laid_unicode_utf8_first : DataW Unit := Go.Pinned.utf8First

/-- 'calquelaw58.LockHolds': WHATEVER THE INPUT: true; the input reads as it did. -/
def lockHoldsSpec : ChangeSpec := { name := "lockHolds", fn := fun _ => fun
  | [d1, d2, d3] => { results := [.lit (.bool true)], args := [d1, d2, d3] }
  | _ => none }
def lockHoldsRow : OpenClaim := { program := "ythmeobjomidkoaadoor", sum := "e9ea4d225c74e976c92fc50c473a2858fa5b77992c9cef675a4f370686cdbe61", func := "calque/calquelaw58.LockHolds", spec := "lockHolds", unfollowed := true, recurses := true, named := ["unicode/utf8.first", "unicode/utf8.acceptRanges"], plainKeys := false, apart := false, laid := [("unicode/utf8.acceptRanges", laid_unicode_utf8_acceptRanges), ("unicode/utf8.first", laid_unicode_utf8_first)] }
def LockHoldsSaid : Prop := lockHoldsRow.holds Tryd.pinned (OpenSpec.ofChange lockHoldsSpec)

/-- ITS FALSE NEIGHBOUR: 'it returns false'. Refute it at one input. -/
def lockHoldsWrong : ChangeSpec := { name := "lockHolds", fn := fun _ => fun
  | [d1, d2, d3] => { results := [.lit (.bool false)], args := [d1, d2, d3] }
  | _ => none }
def LockHoldsWrongFalsely : Prop := lockHoldsRow.holds Tryd.pinned (OpenSpec.ofChange lockHoldsWrong)

/-- 'calquelaw58.LockLimit': WHATEVER THE INPUT: true; the input reads as it did. -/
def lockLimitSpec : ChangeSpec := { name := "lockLimit", fn := fun _ => fun
  | [d] => { results := [.lit (.bool true)], args := [d] }
  | _ => none }
def lockLimitRow : OpenClaim := { program := "ythmeobjomidkoaadoor", sum := "e9ea4d225c74e976c92fc50c473a2858fa5b77992c9cef675a4f370686cdbe61", func := "calque/calquelaw58.LockLimit", spec := "lockLimit", unfollowed := true, recurses := true, named := ["unicode/utf8.first", "unicode/utf8.acceptRanges"], plainKeys := false, apart := false, laid := [("unicode/utf8.acceptRanges", laid_unicode_utf8_acceptRanges), ("unicode/utf8.first", laid_unicode_utf8_first)] }
def LockLimitSaid : Prop := lockLimitRow.holds Tryd.pinned (OpenSpec.ofChange lockLimitSpec)

/-- ITS FALSE NEIGHBOUR: 'it returns false'. Refute it at one input. -/
def lockLimitWrong : ChangeSpec := { name := "lockLimit", fn := fun _ => fun
  | [d] => { results := [.lit (.bool false)], args := [d] }
  | _ => none }
def LockLimitWrongFalsely : Prop := lockLimitRow.holds Tryd.pinned (OpenSpec.ofChange lockLimitWrong)

/-- 'calquelaw58.LockOthers': WHATEVER THE INPUT: true; the input reads as it did. -/
def lockOthersSpec : ChangeSpec := { name := "lockOthers", fn := fun _ => fun
  | [d1, d2, d3] => { results := [.lit (.bool true)], args := [d1, d2, d3] }
  | _ => none }
def lockOthersRow : OpenClaim := { program := "ythmeobjomidkoaadoor", sum := "e9ea4d225c74e976c92fc50c473a2858fa5b77992c9cef675a4f370686cdbe61", func := "calque/calquelaw58.LockOthers", spec := "lockOthers", unfollowed := true, recurses := true, named := ["unicode/utf8.first", "unicode/utf8.acceptRanges"], plainKeys := false, apart := false, laid := [("unicode/utf8.acceptRanges", laid_unicode_utf8_acceptRanges), ("unicode/utf8.first", laid_unicode_utf8_first)] }
def LockOthersSaid : Prop := lockOthersRow.holds Tryd.pinned (OpenSpec.ofChange lockOthersSpec)

/-- ITS FALSE NEIGHBOUR: 'it returns false'. Refute it at one input. -/
def lockOthersWrong : ChangeSpec := { name := "lockOthers", fn := fun _ => fun
  | [d1, d2, d3] => { results := [.lit (.bool false)], args := [d1, d2, d3] }
  | _ => none }
def LockOthersWrongFalsely : Prop := lockOthersRow.holds Tryd.pinned (OpenSpec.ofChange lockOthersWrong)

/-- 'calquelaw58.LockScript': WHATEVER THE INPUT: true; the input reads as it did. -/
def lockScriptSpec : ChangeSpec := { name := "lockScript", fn := fun _ => fun
  | [d1, d2] => { results := [.lit (.bool true)], args := [d1, d2] }
  | _ => none }
def lockScriptRow : OpenClaim := { program := "ythmeobjomidkoaadoor", sum := "e9ea4d225c74e976c92fc50c473a2858fa5b77992c9cef675a4f370686cdbe61", func := "calque/calquelaw58.LockScript", spec := "lockScript", unfollowed := true, recurses := true, named := ["unicode/utf8.first", "unicode/utf8.acceptRanges"], plainKeys := false, apart := false, laid := [("unicode/utf8.acceptRanges", laid_unicode_utf8_acceptRanges), ("unicode/utf8.first", laid_unicode_utf8_first)] }
def LockScriptSaid : Prop := lockScriptRow.holds Tryd.pinned (OpenSpec.ofChange lockScriptSpec)

/-- ITS FALSE NEIGHBOUR: 'it returns false'. Refute it at one input. -/
def lockScriptWrong : ChangeSpec := { name := "lockScript", fn := fun _ => fun
  | [d1, d2] => { results := [.lit (.bool false)], args := [d1, d2] }
  | _ => none }
def LockScriptWrongFalsely : Prop := lockScriptRow.holds Tryd.pinned (OpenSpec.ofChange lockScriptWrong)

/-- 'calquelaw58.LockExpires': WHATEVER THE INPUT: true; the input reads as it did. -/
def lockExpiresSpec : ChangeSpec := { name := "lockExpires", fn := fun _ => fun
  | [d1, d2, d3] => { results := [.lit (.bool true)], args := [d1, d2, d3] }
  | _ => none }
def lockExpiresRow : OpenClaim := { program := "ythmeobjomidkoaadoor", sum := "e9ea4d225c74e976c92fc50c473a2858fa5b77992c9cef675a4f370686cdbe61", func := "calque/calquelaw58.LockExpires", spec := "lockExpires", inPlace := ["maps.clone"], unfollowed := true, recurses := true, named := ["unicode/utf8.first", "unicode/utf8.acceptRanges"], plainKeys := false, apart := false, laid := [("unicode/utf8.acceptRanges", laid_unicode_utf8_acceptRanges), ("unicode/utf8.first", laid_unicode_utf8_first)] }
def LockExpiresSaid : Prop := lockExpiresRow.holds Tryd.pinned (OpenSpec.ofChange lockExpiresSpec)

/-- ITS FALSE NEIGHBOUR: 'it returns false'. Refute it at one input. -/
def lockExpiresWrong : ChangeSpec := { name := "lockExpires", fn := fun _ => fun
  | [d1, d2, d3] => { results := [.lit (.bool false)], args := [d1, d2, d3] }
  | _ => none }
def LockExpiresWrongFalsely : Prop := lockExpiresRow.holds Tryd.pinned (OpenSpec.ofChange lockExpiresWrong)

/-- 'calquelaw58.LockNil': WHATEVER THE INPUT: true; the input reads as it did. -/
def lockNilSpec : ChangeSpec := { name := "lockNil", fn := fun _ => fun
  | [d] => { results := [.lit (.bool true)], args := [d] }
  | _ => none }
def lockNilRow : OpenClaim := { program := "ythmeobjomidkoaadoor", sum := "e9ea4d225c74e976c92fc50c473a2858fa5b77992c9cef675a4f370686cdbe61", func := "calque/calquelaw58.LockNil", spec := "lockNil", inPlace := ["maps.clone"], unfollowed := true, recurses := true, named := ["unicode/utf8.first", "unicode/utf8.acceptRanges"], plainKeys := false, apart := false, laid := [("unicode/utf8.acceptRanges", laid_unicode_utf8_acceptRanges), ("unicode/utf8.first", laid_unicode_utf8_first)] }
def LockNilSaid : Prop := lockNilRow.holds Tryd.pinned (OpenSpec.ofChange lockNilSpec)

/-- ITS FALSE NEIGHBOUR: 'it returns false'. Refute it at one input. -/
def lockNilWrong : ChangeSpec := { name := "lockNil", fn := fun _ => fun
  | [d] => { results := [.lit (.bool false)], args := [d] }
  | _ => none }
def LockNilWrongFalsely : Prop := lockNilRow.holds Tryd.pinned (OpenSpec.ofChange lockNilWrong)

/- THE SECOND FORM. 'bulk': how many values and letters a reading holds, each counted each time it is reached (what is shared counts as often as it is met; a slice's spare places count too). A statement '..UptoSaid' is the law's where the arguments, and the package variables that the reading takes, are together of bulk at most 1048576: NARROWER than '..Said'. Prove '..Said' where nothing that the law and all that it calls make is longer than what came in: it says more and counts as full. Else prove '..UptoSaid'. A law counts once. -/
mutual
def uptoBulk {H : Type} : DataW H → Nat
  | .lit (.string bytes) => bytes.length + 1
  | .lit _ => 1
  | .nil => 1
  | .ptr d => uptoBulk d + 1
  | .slice elems spare => uptoBulkAll elems + uptoBulkAll spare + 1
  | .agg parts => uptoBulkAll parts + 1
  | .iface _ d => uptoBulk d + 1
  | .map entries => uptoBulkEntries entries + 1
  | .held _ => 1
def uptoBulkAll {H : Type} : List (DataW H) → Nat
  | [] => 0
  | d :: r => uptoBulk d + uptoBulkAll r
def uptoBulkEntries {H : Type} : List (Lit × DataW H) → Nat
  | [] => 0
  | x :: r => uptoBulkEntry x + uptoBulkEntries r
def uptoBulkEntry {H : Type} : Lit × DataW H → Nat
  | (.string bytes, d) => bytes.length + uptoBulk d + 1
  | (_, d) => uptoBulk d + 1
 end
def uptoSmall : (H : Type) → List (DataW H) → Bool := fun _ ds => decide (uptoBulkAll ds ≤ 1048576)
def OpenSpec.upto (s : _root_.Go.ChangeSpec) : _root_.Go.OpenSpec := { _root_.Go.OpenSpec.ofChange s with cond := some uptoSmall }

/-- 'calquelaw58.LockHolds', WHERE WHAT IT READS IS OF BULK AT MOST 1048576: true; the input reads as it did. -/
def lockHoldsUptoRow : OpenClaim := { program := "ythmeobjomidkoaadoor", sum := "e9ea4d225c74e976c92fc50c473a2858fa5b77992c9cef675a4f370686cdbe61", func := "calque/calquelaw58.LockHolds", spec := "lockHolds", unfollowed := true, recurses := true, named := ["unicode/utf8.first", "unicode/utf8.acceptRanges"], plainKeys := false, apart := false, laid := [("unicode/utf8.acceptRanges", laid_unicode_utf8_acceptRanges), ("unicode/utf8.first", laid_unicode_utf8_first)], narrowed := true }
def LockHoldsUptoSaid : Prop := lockHoldsUptoRow.holds Tryd.pinned (OpenSpec.upto lockHoldsSpec)

/-- 'calquelaw58.LockLimit', WHERE WHAT IT READS IS OF BULK AT MOST 1048576: true; the input reads as it did. -/
def lockLimitUptoRow : OpenClaim := { program := "ythmeobjomidkoaadoor", sum := "e9ea4d225c74e976c92fc50c473a2858fa5b77992c9cef675a4f370686cdbe61", func := "calque/calquelaw58.LockLimit", spec := "lockLimit", unfollowed := true, recurses := true, named := ["unicode/utf8.first", "unicode/utf8.acceptRanges"], plainKeys := false, apart := false, laid := [("unicode/utf8.acceptRanges", laid_unicode_utf8_acceptRanges), ("unicode/utf8.first", laid_unicode_utf8_first)], narrowed := true }
def LockLimitUptoSaid : Prop := lockLimitUptoRow.holds Tryd.pinned (OpenSpec.upto lockLimitSpec)

/-- 'calquelaw58.LockOthers', WHERE WHAT IT READS IS OF BULK AT MOST 1048576: true; the input reads as it did. -/
def lockOthersUptoRow : OpenClaim := { program := "ythmeobjomidkoaadoor", sum := "e9ea4d225c74e976c92fc50c473a2858fa5b77992c9cef675a4f370686cdbe61", func := "calque/calquelaw58.LockOthers", spec := "lockOthers", unfollowed := true, recurses := true, named := ["unicode/utf8.first", "unicode/utf8.acceptRanges"], plainKeys := false, apart := false, laid := [("unicode/utf8.acceptRanges", laid_unicode_utf8_acceptRanges), ("unicode/utf8.first", laid_unicode_utf8_first)], narrowed := true }
def LockOthersUptoSaid : Prop := lockOthersUptoRow.holds Tryd.pinned (OpenSpec.upto lockOthersSpec)

/-- 'calquelaw58.LockScript', WHERE WHAT IT READS IS OF BULK AT MOST 1048576: true; the input reads as it did. -/
def lockScriptUptoRow : OpenClaim := { program := "ythmeobjomidkoaadoor", sum := "e9ea4d225c74e976c92fc50c473a2858fa5b77992c9cef675a4f370686cdbe61", func := "calque/calquelaw58.LockScript", spec := "lockScript", unfollowed := true, recurses := true, named := ["unicode/utf8.first", "unicode/utf8.acceptRanges"], plainKeys := false, apart := false, laid := [("unicode/utf8.acceptRanges", laid_unicode_utf8_acceptRanges), ("unicode/utf8.first", laid_unicode_utf8_first)], narrowed := true }
def LockScriptUptoSaid : Prop := lockScriptUptoRow.holds Tryd.pinned (OpenSpec.upto lockScriptSpec)

/-- 'calquelaw58.LockExpires', WHERE WHAT IT READS IS OF BULK AT MOST 1048576: true; the input reads as it did. -/
def lockExpiresUptoRow : OpenClaim := { program := "ythmeobjomidkoaadoor", sum := "e9ea4d225c74e976c92fc50c473a2858fa5b77992c9cef675a4f370686cdbe61", func := "calque/calquelaw58.LockExpires", spec := "lockExpires", inPlace := ["maps.clone"], unfollowed := true, recurses := true, named := ["unicode/utf8.first", "unicode/utf8.acceptRanges"], plainKeys := false, apart := false, laid := [("unicode/utf8.acceptRanges", laid_unicode_utf8_acceptRanges), ("unicode/utf8.first", laid_unicode_utf8_first)], narrowed := true }
def LockExpiresUptoSaid : Prop := lockExpiresUptoRow.holds Tryd.pinned (OpenSpec.upto lockExpiresSpec)

/-- 'calquelaw58.LockNil', WHERE WHAT IT READS IS OF BULK AT MOST 1048576: true; the input reads as it did. -/
def lockNilUptoRow : OpenClaim := { program := "ythmeobjomidkoaadoor", sum := "e9ea4d225c74e976c92fc50c473a2858fa5b77992c9cef675a4f370686cdbe61", func := "calque/calquelaw58.LockNil", spec := "lockNil", inPlace := ["maps.clone"], unfollowed := true, recurses := true, named := ["unicode/utf8.first", "unicode/utf8.acceptRanges"], plainKeys := false, apart := false, laid := [("unicode/utf8.acceptRanges", laid_unicode_utf8_acceptRanges), ("unicode/utf8.first", laid_unicode_utf8_first)], narrowed := true }
def LockNilUptoSaid : Prop := lockNilUptoRow.holds Tryd.pinned (OpenSpec.upto lockNilSpec)

end Rows
end Go.Proofs.YthmeobjomidkoaaDoor
