/- The reference's with, without. -/
import Derived.Test.YtcdpmgdocgddcaaDoorREq
import Derived.Test.YtcdpmgdocgddcaaDoorCatM
import Derived.Test.YtcdpmgdocgddcaaDoorCatAw
namespace Go.Proofs.YtcdpmgdocgddcaaDoor
open Go.RowKit
set_option maxRecDepth 100000
attribute [local go_sem] ext_refl_t ext_alloc_t ext_drew_t ext_drewN_t ext_alloc2_t ext_alloc3_t ext_alloc4_t ext_alloc5_t ext_alloc6_t ext_alloc7_t ext_alloc8_t ext_alloc1d_t ext_alloc2d_t ext_alloc3d_t ext_alloc4d_t
theorem Blk.new1 (w : World) (o : Obj) (t : TypeId) (cs : Array Value) : Blk ((w.alloc o).alloc (.cells cs t)) (w.heap.size + 1) t cs := by
  have h := Blk.new (w.alloc o) t cs
  simpa using h
section
variable {w : World}
end

end Go.Proofs.YtcdpmgdocgddcaaDoor

/- The reference's Remove. -/
namespace Go.Proofs.YtcdpmgdocgddcaaDoor
open Go.RowKit
set_option maxRecDepth 100000
attribute [local go_sem] ext_refl_t ext_alloc_t ext_drew_t ext_drewN_t ext_alloc2_t ext_alloc3_t ext_alloc4_t ext_alloc5_t ext_alloc6_t ext_alloc7_t ext_alloc8_t ext_alloc1d_t ext_alloc2d_t ext_alloc3d_t ext_alloc4d_t
theorem cat0_W (w : World) : CatW w cat0 := (CatO.zero w 0).w (by show (0 : Nat) ≤ _; omega)
theorem CatW.withE {w : World} {x : Cat} (hx : CatW w x) {base : Nat} {A : Option Addr} {m c : Nat} {es : List Ent} (ho : OsC entC 35 7 w base A m c es) (hm : m ≤ 1000000) (hg : ∀ z ∈ es, EntW w z) : CatW w (x.withE es ⟨A, m, c⟩) :=
  ⟨hx.tag, hx.c, hx.d, ⟨ho.sl, ho.cap, by show m * 128 ≤ _; omega, hg⟩⟩
theorem withE_p (x : Cat) (es : List Ent) (e : SlH) : (x.withE es e).p = ⟨x.tag, x.com, x.fd, es.map Ent.p⟩ := rfl
section
variable {w : World}
end

end Go.Proofs.YtcdpmgdocgddcaaDoor

/- The reference's Move. -/
namespace Go.Proofs.YtcdpmgdocgddcaaDoor
open Go.RowKit
set_option maxRecDepth 100000
attribute [local go_sem] ext_refl_t ext_alloc_t ext_drew_t ext_drewN_t ext_alloc2_t ext_alloc3_t ext_alloc4_t ext_alloc5_t ext_alloc6_t ext_alloc7_t ext_alloc8_t ext_alloc1d_t ext_alloc2d_t ext_alloc3d_t ext_alloc4d_t
section
variable {w : World}
end

end Go.Proofs.YtcdpmgdocgddcaaDoor
