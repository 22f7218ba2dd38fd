/- What the rows' listed variables give: Go's two tables of package unicode/utf8. -/
import Derived.Test.YtgnchicipmomlaaGreatDoorPK11
import Derived.Test.YtgnchicipmomlaaGreatDoorPK01
import Derived.Test.YtgnchicipmomlaaGreatDoorTie
import Derived.Test.YtgnchicipmomlaaGreatDoorCards
import Derived.ProofKit
import Derived.OpenShut
import Derived.LaidMore
import Derived.Lay
import Derived.PinnedBridge
import Derived.Lib.LaidIn
import Derived.Lib.LaidU8T
import Derived.SevenTiedAt
import Derived.Stop.Joined
namespace Go.Proofs.YtgnchicipmomlaaGreatDoor
open Go.ChangeShapes Go.WideShapes Go.ChangeAt Go.RowKit
set_option maxRecDepth 100000

/-- What the rows list. -/
def laidL : List (String × DataW Unit) := [("unicode/utf8.acceptRanges", Rows.laid_unicode_utf8_acceptRanges), ("unicode/utf8.first", Rows.laid_unicode_utf8_first)]
theorem tabs_of_laid {W : World} (h : laidMetH Tryz.prog laidL W) : Tabs W := by
  rw [MakeChecks.laidMetH_plain _ _ _ (by kernel_rfl)] at h
  have e1 : Rows.laid_unicode_utf8_first = Lib.firstData := Pinned.utf8First_eq
  have e2 : (Rows.laid_unicode_utf8_acceptRanges : DataW Unit) = Lib.acceptData := by kernel_rfl
  have h1 := Lib.laidMet.reads h (.tail _ (.head _))
  have h2 := Lib.laidMet.reads h (.head _)
  rw [e1] at h1
  rw [e2] at h2
  exact utf8Tabs_of_readsT (U8Types.of196 Tryz.laysValid) ⟨by kernel_rfl, by kernel_rfl, by kernel_rfl, by kernel_rfl, by kernel_rfl, by kernel_rfl, by kernel_rfl⟩ h1 h2

end Go.Proofs.YtgnchicipmomlaaGreatDoor
