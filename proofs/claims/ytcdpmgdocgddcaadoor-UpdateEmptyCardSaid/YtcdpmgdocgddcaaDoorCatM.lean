/- Move. -/
import Derived.Test.YtcdpmgdocgddcaaDoorCatR
import Derived.Test.YtcdpmgdocgddcaaDoorCatI
namespace Go.Proofs.YtcdpmgdocgddcaaDoor
open Go.RowKit
set_option maxRecDepth 100000

/-- What Move does. -/
def MovR (c : Cp) (id : ByteArray) (at_ : Int) (c' : Cp) (code : Int) : Prop :=
  ∃ c1 code1, RemR c id c1 code1 ∧ ((code1 ≠ 0 ∧ c' = c1 ∧ code = code1) ∨ (code1 = 0 ∧ (at_ < 0 ∨ (c.es.length : Int) ≤ at_) ∧ c' = cp0 ∧ code = 2) ∨
    (code1 = 0 ∧ ∃ a k : Nat, at_ = a ∧ a < c.es.length ∧ FindZ c.es id k ∧ ∃ h : k < c.es.length, code = 0 ∧ c' = ⟨c1.tag, c1.com, c1.fd, c1.es.take a ++ [c.es[k]] ++ c1.es.drop a⟩))
attribute [local go_sem] ext_refl_t ext_alloc_t ext_drew_t ext_drewN_t ext_alloc2_t ext_alloc3_t ext_alloc4_t ext_alloc5_t ext_alloc6_t ext_alloc7_t ext_alloc8_t ext_alloc1d_t ext_alloc2d_t ext_alloc3d_t ext_alloc4d_t
section
variable {w : World}
end

end Go.Proofs.YtcdpmgdocgddcaaDoor
