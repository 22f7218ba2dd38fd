/- Code points and their encodings, plain: a string is the encoding of its elements just where it is valid. -/
import Derived.Lib.ValidLaws
import Derived.Test.YtgnchicipmomlaaGreatDoorPK01
import Derived.Deep.RegionLaw
import Derived.Test.YtgnchicipmomlaaGreatDoorPK02
namespace Go.Proofs.YtgnchicipmomlaaGreatDoor
open Go.Lib
set_option maxRecDepth 100000

/-- A code point. -/
def PointN (n : Nat) : Prop := n ≤ 1114111 ∧ (n < 55296 ∨ 57343 < n)
instance (n : Nat) : Decidable (PointN n) := by unfold PointN; infer_instance
/-! ### what Next does -/
end Go.Proofs.YtgnchicipmomlaaGreatDoor

/- The reference's Point, One, Next. -/
namespace Go.Proofs.YtgnchicipmomlaaGreatDoor
open Go.RowKit
set_option maxRecDepth 100000

section
variable {w : World}
end

end Go.Proofs.YtgnchicipmomlaaGreatDoor

/- The reference's Decode, Encode, Valid. -/
namespace Go.Proofs.YtgnchicipmomlaaGreatDoor
open Go.RowKit
set_option maxRecDepth 100000

section
variable {w : World}
end

end Go.Proofs.YtgnchicipmomlaaGreatDoor
