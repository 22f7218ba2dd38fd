/- Open, and the reference's; equality of bytes; pairs of numbers that came in. -/
import Derived.Test.YtoghaehcmbonnaaDoorDig2
import Derived.Test.YtoghaehcmbonnaaDoorRead
namespace Go.Proofs.YtoghaehcmbonnaaDoor
open Go.RowKit
set_option maxRecDepth 100000
theorem take_snoc3 {α : Type} (l : List α) (k : Nat) (h : k < l.length) : l.take (k + 1) = l.take k ++ [l[k]] := by
  rw [List.take_succ_eq_append_getElem h]
/-- What Open gives. -/
def openR (h : Nat) (s : List UInt8) : List UInt8 × Nat :=
  if s.length < 8 then ([], 4) else if s.drop (s.length - 8) = eightL (sealN h (s.take (s.length - 8))) then (s.take (s.length - 8), 0) else ([], 5)
section
variable {w : World} {A : Option Addr} {m : Nat} {s : List UInt8}
end
end Go.Proofs.YtoghaehcmbonnaaDoor
