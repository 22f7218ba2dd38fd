/- IDs; the law's example; the document's example. -/
import Derived.Test.YtcdpmgdocgddcaaDoorCatM
import Derived.Test.YtcdpmgdocgddcaaDoorSameS
namespace Go.Proofs.YtcdpmgdocgddcaaDoor
open Go.RowKit
set_option maxRecDepth 100000

section
variable {w : World}
/-- An entry with an ID alone. -/
def epOf (id : ByteArray) : Ep := ⟨id, ⟨#[]⟩, ⟨#[]⟩, [], [], 0, []⟩
def entOf (id : ByteArray) : Ent := ⟨epOf id, ⟨none, 0, 0⟩, ⟨none, 0, 0⟩, ⟨none, 0, 0⟩⟩
theorem entOf_W (w : World) (id : ByteArray) (h : GoodStr id) : EntW w (entOf id) := ⟨HW.nil_ strF_len, HW.nil_ strF_len, HW.nil_ fdC_len, h, by show (0 : Nat) ≤ _; omega, by show (0 : Nat) ≤ _; omega, by show (-9223372036854775808 : Int) ≤ 0; omega, by show (0 : Int) ≤ _; omega⟩
end
attribute [local go_sem] ext_refl_t ext_alloc_t ext_drew_t ext_drewN_t ext_alloc2_t ext_alloc3_t ext_alloc4_t ext_alloc5_t ext_alloc6_t ext_alloc7_t ext_alloc8_t ext_alloc1d_t ext_alloc2d_t ext_alloc3d_t ext_alloc4d_t
section
variable {w : World}
def sDe : ByteArray := ⟨#[100, 101]⟩
/-- The catalog of the example, moved. -/
theorem awk_valid : validC ⟨sDe, [], [], [⟨#[97]⟩, ⟨#[98]⟩, ⟨#[99]⟩].map epOf⟩ = true := by decide +kernel
end

end Go.Proofs.YtcdpmgdocgddcaaDoor
