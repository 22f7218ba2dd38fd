/- What the rows of chapter 55 list. -/
import Derived.Test.YtghndnacmpckbaaGreatDoorDigTz
import Derived.Test.YtghndnacmpckbaaGreatDoorParseS
namespace Go.Proofs.YtghndnacmpckbaaGreatDoor
open Go.ChangeShapes Go.WideShapes Go.ChangeAt Go.RowKit
set_option maxRecDepth 100000

/-- What the rows list. -/
def laidL : List (String × DataW Unit) := [("math/bits.deBruijn32tab", Rows.laid_math_bits_deBruijn32tab), ("math/bits.deBruijn64tab", Rows.laid_math_bits_deBruijn64tab), ("internal/strconv.uint64pow10", Rows.laid_internal_strconv_uint64pow10), ("strconv.ErrRange", Rows.laid_strconv_ErrRange), ("strconv.ErrSyntax", Rows.laid_strconv_ErrSyntax)]
/-- What a walk needs of it. -/
structure Tb (w : World) : Prop where
  tz : TZ w
  ne : NE w
theorem Tb.ext {w w' : World} (h : Tb w) (hE : Ext w w') : Tb w' := ⟨h.tz.ext hE, h.ne.ext hE⟩
theorem tb_of_laid {W : World} (h : laidMetH Tryz.prog laidL W) : Tb W := by
  rw [MakeChecks.laidMetH_plain _ _ _ (by kernel_rfl)] at h
  exact ⟨tz_of h (.tail _ (.head _)) (by kernel_rfl) rfl, iface_of h (.tail _ (.tail _ (.tail _ (.tail _ (.head _))))) 0 (by kernel_rfl) (by kernel_rfl), iface_of h (.tail _ (.tail _ (.tail _ (.head _)))) 1 (by kernel_rfl) (by kernel_rfl)⟩
end Go.Proofs.YtghndnacmpckbaaGreatDoor
