/- Events that came in. -/
import Derived.Test.YtoghaehcmbonnaaGreatDoorJrnP
import Derived.Test.YtoghaehcmbonnaaGreatDoorJrnJ
import Derived.Test.YtoghaehcmbonnaaGreatDoorJrnF
import Derived.Test.YtoghaehcmbonnaaGreatDoorRead
import Derived.Laws.OwnMore
namespace Go.Proofs.YtoghaehcmbonnaaGreatDoor
open Go.RowKit
set_option maxRecDepth 100000
theorem cells_sJ : Tryz.prog.cellsOf 9 = 1 := by kernel_rfl
theorem cells_iJ : Tryz.prog.cellsOf 3 = 1 := by kernel_rfl
theorem cells_eJ : Tryz.prog.cellsOf 46 = 8 := by kernel_rfl
theorem bytes_eJ : Tryz.prog.bytesOf 46 = 96 := by kernel_rfl
/-- What is known of an event that came in. -/
def GdE (x : Ev) : Prop := GoodE x ∧ StrE x
section
variable {H : Type} {enc : TypeId × Value → H} {W : World}
theorem opn_ev : Opn enc W 46 evC GdE := by
  intro n cs x h hw
  obtain ⟨hl, hp⟩ := opn_part Tryz.underlying46 h hw
  rw [cells_eJ] at hl
  match cs, hl with
  | [a, b, c, d, e, f, g, i], _ =>
    obtain ⟨y0, e0, g0⟩ := hp 0 _ rfl (opn_int Tryz.underlying3)
    obtain ⟨y1, e1, g1⟩ := hp 1 _ rfl (opn_string Tryz.underlying9)
    obtain ⟨y2, e2, g2⟩ := hp 2 _ rfl (opn_string Tryz.underlying9)
    obtain ⟨y3, e3, g3⟩ := hp 3 _ rfl (opn_string Tryz.underlying9)
    obtain ⟨y4, e4, g4⟩ := hp 4 _ rfl (opn_string Tryz.underlying9)
    obtain ⟨y5, e5, g5⟩ := hp 5 _ rfl (opn_int Tryz.underlying3)
    obtain ⟨y6, e6, g6⟩ := hp 6 _ rfl (opn_int Tryz.underlying3)
    obtain ⟨y7, e7, g7⟩ := hp 7 _ rfl (opn_int Tryz.underlying3)
    simp [cells_sJ, cells_iJ, strF, intF] at e0 e1 e2 e3 e4 e5 e6 e7
    subst e0 e1 e2 e3 e4 e5 e6 e7
    exact ⟨⟨y0, y1, y2, y3, y4, y5, y6, y7⟩, rfl, ⟨bounds_i64 g0, bounds_i64 g5, bounds_i64 g6, bounds_i64 g7⟩, g1, g2, g3, g4⟩
theorem opn_evs : Opn enc W 28 slF (GoodSl W evC 8 96 GdE) :=
  opn_slice Tryz.underlying28 cells_eJ bytes_eJ (by omega) (by omega) evC_len opn_ev
end
end Go.Proofs.YtoghaehcmbonnaaGreatDoor
