/- The arguments of the laws of chapter 55. -/
import Derived.Test.YtghndnacmpckbaaDoorReadB
import Derived.Test.YtghndnacmpckbaaDoorReadP
namespace Go.Proofs.YtghndnacmpckbaaDoor
open Go.RowKit Go.WideShapes
set_option maxRecDepth 100000
theorem cells_chg : Tryd.prog.cellsOf 25 = 2 := by kernel_rfl
theorem cells_rpl : Tryd.prog.cellsOf 33 = 3 := by kernel_rfl
theorem cells_u16x : Tryd.prog.cellsOf 23 = 1 := by kernel_rfl
theorem cells_u8sx : Tryd.prog.cellsOf 22 = 1 := by kernel_rfl
def chgC (x : Nat × Nat) : List Value := [.int .u16 x.1, .int .u8 x.2]
section
variable {H : Type} {enc : TypeId × Value → H} {W : World}
theorem opn_chg : Opn enc W 25 chgC (fun x => x.1 < 65536 ∧ x.2 < 256) := by
  intro n cs x h hw
  obtain ⟨hl, hp⟩ := opn_part Tryd.underlying25 h hw
  rw [cells_chg] at hl
  match cs, hl with
  | [a, b], _ =>
    obtain ⟨y0, e0, g0⟩ := hp 0 _ rfl (opn_int Tryd.underlying23)
    obtain ⟨y1, e1, g1⟩ := hp 1 _ rfl (opn_int Tryd.underlying5)
    simp [cells_u16x, cells_u8b, intF] at e0 e1
    subst e0 e1
    have b0 := bounds_u16' g0
    have b1 := bounds_u8 g1
    refine ⟨(y0.toNat, y1.toNat), ?_, by show y0.toNat < _; omega, by show y1.toNat < _; omega⟩
    show [Value.int .u16 y0, Value.int .u8 y1] = [Value.int .u16 (y0.toNat : Int), Value.int .u8 (y1.toNat : Int)]
    rw [Int.toNat_of_nonneg b0.1, Int.toNat_of_nonneg b1.1]
theorem opn_u8s : Opn enc W 22 slF (GoodSl W (fun b : UInt8 => [bv b]) 1 1 (fun _ => True)) :=
  opn_slice Tryd.underlying22 cells_u8b bytes_u8b (by omega) (by omega) (fun _ => rfl) opn_byte
def rplC (x : Nat × Nat × SlH) : List Value := [.int .u16 x.1, .int .u16 x.2.1, .slice x.2.2.A x.2.2.m x.2.2.c]
theorem opn_rpl : Opn enc W 33 rplC (fun x => x.1 < 65536 ∧ x.2.1 < 65536 ∧ (∃ l, SlB W x.2.2.A x.2.2.m l) ∧ x.2.2.m ≤ x.2.2.c) := by
  intro n cs x h hw
  obtain ⟨hl, hp⟩ := opn_part Tryd.underlying33 h hw
  rw [cells_rpl] at hl
  match cs, hl with
  | [a, b, c], _ =>
    obtain ⟨y0, e0, g0⟩ := hp 0 _ rfl (opn_int Tryd.underlying23)
    obtain ⟨y1, e1, g1⟩ := hp 1 _ rfl (opn_int Tryd.underlying23)
    obtain ⟨y2, e2, g2⟩ := hp 2 _ rfl opn_u8s
    simp [cells_u16x, cells_u8sx, intF, slF] at e0 e1 e2
    subst e0 e1 e2
    have b0 := bounds_u16' g0
    have b1 := bounds_u16' g1
    obtain ⟨l, h1, _, h3, _⟩ := g2
    refine ⟨(y0.toNat, y1.toNat, y2), ?_, by show y0.toNat < _; omega, by show y1.toNat < _; omega, ⟨l, SlB.of_slc h1⟩, h3⟩
    show [Value.int .u16 y0, Value.int .u16 y1, _] = [Value.int .u16 (y0.toNat : Int), Value.int .u16 (y1.toNat : Int), _]
    rw [Int.toNat_of_nonneg b0.1, Int.toNat_of_nonneg b1.1]
end
end Go.Proofs.YtghndnacmpckbaaDoor
