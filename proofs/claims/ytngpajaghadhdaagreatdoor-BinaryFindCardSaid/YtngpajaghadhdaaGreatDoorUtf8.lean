/- utf8.Valid by the shelf's contract for ValidString, under Go's two tables. -/
import Derived.Test.YtngpajaghadhdaaGreatDoorBytes
import Derived.Test.YtngpajaghadhdaaGreatDoorLayVal
import Derived.Laws.RangeString
import Derived.Laws.RangeAny
namespace Go.Proofs.YtngpajaghadhdaaGreatDoor
open Go.RowKit
set_option maxRecDepth 100000

/-- Go's two tables of package unicode/utf8 lie as its text lays them. -/
def Tabs (w : World) : Prop := Lib.Utf8Tabs (Tryz.laysValid_ren.g 3) (Tryz.laysValid_ren.g 4) w
section
variable {w w' : World}
theorem Tabs.ext (h : Tabs w) (hE : Ext w w') : Tabs w' := by
  obtain ⟨h1, h2⟩ := h
  refine ⟨fun c hc => ?_, fun i hi => ?_⟩
  · exact (Below.cell hE (World.block_lt_of_cell? w _ (h1 c hc))).trans (h1 c hc)
  · exact ⟨(Below.cell hE (World.block_lt_of_cell? w _ (h2 i hi).1)).trans (h2 i hi).1, (Below.cell hE (World.block_lt_of_cell? w _ (h2 i hi).2)).trans (h2 i hi).2⟩
theorem Ext.iter (h : Ext w w') (s : ByteArray) (pos : Nat) : Ext w (w'.iter s pos) := h.alloc _
end

set_option maxHeartbeats 400000 in
theorem valid_any (s : ByteArray) {w : World} (hT : Tabs w) (hs : s.size ≤ 9223372036854775807) :
    Calls Tryz.prog 101 #[.string s] w fun e w' => e = .returned (.bool (Lib.validD (bys s))) ∧ Ext w w' := by
  have hV : Calls Tryz.prog 111 #[.string s] w fun e w' => e = .returned (.bool (Lib.validD (bys s))) ∧ Below w.heap.size w w' := Any.utf8_ValidString Tryz.laysValid s w hs hT
  go_enter Tryz.func101, Tryz.ntmps101
  go_wp2_with (first
    | (go_at_call 111; refine hV.mono ?_; rintro e w1 ⟨rfl, hE1⟩))
  go_ret
  exact ⟨rfl, hE1⟩

end Go.Proofs.YtngpajaghadhdaaGreatDoor
