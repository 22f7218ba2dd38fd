/- Locks, steps and pairs of times that came in. -/
import Derived.Test.YthmeobjomidkoaaDoorLockDo
import Derived.Test.YthmeobjomidkoaaDoorRead
namespace Go.Proofs.YthmeobjomidkoaaDoor
open Go.RowKit
set_option maxRecDepth 100000

theorem cells_str1 : Tryd.prog.cellsOf 9 = 1 := by kernel_rfl
theorem cells_int1 : Tryd.prog.cellsOf 3 = 1 := by kernel_rfl
theorem cells_rlock : Tryd.prog.cellsOf 24 = 4 := by kernel_rfl
theorem cells_step : Tryd.prog.cellsOf 29 = 6 := by kernel_rfl
theorem bytes_step : Tryd.prog.bytesOf 29 = 72 := by kernel_rfl
theorem cells_pair : Tryd.prog.cellsOf 25 = 2 := by kernel_rfl
def lkC (x : Lk) : List Value := [.string x.name, .string x.id, .string x.who, .int .i64 x.til]

section
variable {H : Type} {enc : TypeId × Value → H} {W : World}
theorem opn_rlock : Opn enc W 24 lkC GoodL := by
  intro n cs x h hw
  obtain ⟨hl, hp⟩ := opn_part Tryd.underlying24 h hw
  rw [cells_rlock] at hl
  match cs, hl with
  | [a, b, c, d], _ =>
    obtain ⟨y0, e0, g0⟩ := hp 0 _ rfl (opn_string Tryd.underlying9)
    obtain ⟨y1, e1, g1⟩ := hp 1 _ rfl (opn_string Tryd.underlying9)
    obtain ⟨y2, e2, g2⟩ := hp 2 _ rfl (opn_string Tryd.underlying9)
    obtain ⟨y3, e3, g3⟩ := hp 3 _ rfl (opn_int Tryd.underlying3)
    simp [cells_str1, cells_int1, strF, intF] at e0 e1 e2 e3
    subst e0 e1 e2 e3
    exact ⟨⟨y0, y1, y2, y3⟩, rfl, g0, g1, g2, bounds_i64 g3⟩
theorem opn_step : Opn enc W 29 lsC GoodS := by
  intro n cs x h hw
  obtain ⟨hl, hp⟩ := opn_part Tryd.underlying29 h hw
  rw [cells_step] at hl
  match cs, hl with
  | [a, b, c, d, e, f], _ =>
    obtain ⟨y0, e0, g0⟩ := hp 0 _ rfl (opn_int Tryd.underlying3)
    obtain ⟨⟨p0, p1, p2, p3⟩, e1, g1⟩ := hp 1 _ rfl opn_rlock
    obtain ⟨y2, e2, g2⟩ := hp 2 _ rfl (opn_int Tryd.underlying3)
    simp [cells_rlock, cells_int1, intF, lkC] at e0 e1 e2
    obtain ⟨q0, q1, q2, q3⟩ := e1
    subst e0 e2 q0 q1 q2 q3
    exact ⟨(y0, ⟨p0, p1, p2, p3⟩, y2), rfl, g1, bounds_i64 g2⟩
def pairC (x : Int × Int) : List Value := [.int .i64 x.1, .int .i64 x.2]
theorem opn_pair : Opn enc W 25 pairC (fun x => (-9223372036854775808 ≤ x.1 ∧ x.1 ≤ 9223372036854775807) ∧ (-9223372036854775808 ≤ x.2 ∧ x.2 ≤ 9223372036854775807)) := by
  intro n cs x h hw
  obtain ⟨hl, hp⟩ := opn_elem Tryd.underlying25 h hw
  rw [cells_pair] at hl
  match cs, hl with
  | [a, b], _ =>
    obtain ⟨y0, e0, g0⟩ := hp 0 (by omega) (opn_int Tryd.underlying3)
    obtain ⟨y1, e1, g1⟩ := hp 1 (by omega) (opn_int Tryd.underlying3)
    simp [cells_int1, intF] at e0 e1
    subst e0 e1
    exact ⟨(y0, y1), rfl, bounds_i64 g0, bounds_i64 g1⟩
theorem opn_steps : Opn enc W 22 slF (GoodSl W lsC 6 72 GoodS) :=
  opn_slice Tryd.underlying22 cells_step bytes_step (by omega) (by omega) lsC_len opn_step
end

end Go.Proofs.YthmeobjomidkoaaDoor
