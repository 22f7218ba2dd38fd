/- utf8.Valid by the shelf's contract for ValidString, under Go's two tables. -/
import Derived.Test.YtcdpmgdocgddcaaDoorBytes
import Derived.Test.YtcdpmgdocgddcaaDoorLayVal
import Derived.Laws.RangeString
import Derived.Laws.RangeAny
namespace Go.Proofs.YtcdpmgdocgddcaaDoor
open Go.RowKit
set_option maxRecDepth 100000

/-- Go's two tables of package unicode/utf8 lie as its text lays them. -/
def Tabs (w : World) : Prop := Lib.Utf8Tabs (Tryd.laysValid_ren.g 3) (Tryd.laysValid_ren.g 4) w
section
variable {w w' : World}
theorem Tabs.ext (h : Tabs w) (hE : Ext w w') : Tabs w' := by
  obtain ⟨h1, h2⟩ := h
  refine ⟨fun c hc => ?_, fun i hi => ?_⟩
  · exact (Below.cell hE (World.block_lt_of_cell? w _ (h1 c hc))).trans (h1 c hc)
  · exact ⟨(Below.cell hE (World.block_lt_of_cell? w _ (h2 i hi).1)).trans (h2 i hi).1, (Below.cell hE (World.block_lt_of_cell? w _ (h2 i hi).2)).trans (h2 i hi).2⟩
theorem Ext.iter (h : Ext w w') (s : ByteArray) (pos : Nat) : Ext w (w'.iter s pos) := h.alloc _
end

set_option maxHeartbeats 400000 in
theorem valid_any (s : ByteArray) {w : World} (hT : Tabs w) (hs : s.size ≤ 9223372036854775807) :
    Calls Tryd.prog 86 #[.string s] w fun e w' => e = .returned (.bool (Lib.validD (bys s))) ∧ Ext w w' := by
  have hV : Calls Tryd.prog 90 #[.string s] w fun e w' => e = .returned (.bool (Lib.validD (bys s))) ∧ Below w.heap.size w w' := Any.utf8_ValidString Tryd.laysValid s w hs hT
  go_enter Tryd.func86, Tryd.ntmps86
  go_wp2_with (first
    | (go_at_call 90; refine hV.mono ?_; rintro e w1 ⟨rfl, hE1⟩))
  go_ret
  exact ⟨rfl, hE1⟩

end Go.Proofs.YtcdpmgdocgddcaaDoor
