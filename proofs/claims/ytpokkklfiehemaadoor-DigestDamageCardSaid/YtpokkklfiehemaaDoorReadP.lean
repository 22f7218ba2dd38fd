/- Pairs of numbers that came in. -/
import Derived.Test.YtpokkklfiehemaaDoorRead
namespace Go.Proofs.YtpokkklfiehemaaDoor
open Go.RowKit Go.WideShapes
set_option maxRecDepth 100000
theorem bounds_u16' {n : Int} (h : (Lit.int .u16 n).wf = true) : 0 ≤ n ∧ n ≤ 65535 := by
  simp [Lit.wf, IntKind.min, IntKind.max, IntKind.signed, IntKind.bits] at h
  omega
theorem cells_p64 : Tryd.prog.cellsOf 30 = 2 := by kernel_rfl
theorem cells1_p64 : Tryd.prog.cellsOf 22 = 1 := by kernel_rfl
def p64 (x : Nat × Nat) : List Value := [.int .u64 x.1, .int .u64 x.2]
theorem opn_p64 {H : Type} {enc : TypeId × Value → H} {W : World} : Opn enc W 30 p64 (fun x => x.1 < 18446744073709551616 ∧ x.2 < 18446744073709551616) := by
  intro n cs x h hw
  obtain ⟨hl, hp⟩ := opn_elem Tryd.underlying30 h hw
  rw [cells_p64] at hl
  match cs, hl with
  | [a, b], _ =>
    obtain ⟨y0, e0, g0⟩ := hp 0 (by omega) (opn_int Tryd.underlying22)
    obtain ⟨y1, e1, g1⟩ := hp 1 (by omega) (opn_int Tryd.underlying22)
    simp [cells1_p64, intF] at e0 e1
    subst e0 e1
    have b0 := bounds_u64 g0
    have b1 := bounds_u64 g1
    refine ⟨(y0.toNat, y1.toNat), ?_, by show y0.toNat < _; omega, by show y1.toNat < _; omega⟩
    show [Value.int .u64 y0, Value.int .u64 y1] = [Value.int .u64 (y0.toNat : Int), Value.int .u64 (y1.toNat : Int)]
    rw [Int.toNat_of_nonneg b0.1, Int.toNat_of_nonneg b1.1]
theorem cells_p8 : Tryd.prog.cellsOf 31 = 2 := by kernel_rfl
theorem cells1_p8 : Tryd.prog.cellsOf 5 = 1 := by kernel_rfl
def p8 (x : Nat × Nat) : List Value := [.int .u8 x.1, .int .u8 x.2]
theorem opn_p8 {H : Type} {enc : TypeId × Value → H} {W : World} : Opn enc W 31 p8 (fun x => x.1 < 256 ∧ x.2 < 256) := by
  intro n cs x h hw
  obtain ⟨hl, hp⟩ := opn_elem Tryd.underlying31 h hw
  rw [cells_p8] at hl
  match cs, hl with
  | [a, b], _ =>
    obtain ⟨y0, e0, g0⟩ := hp 0 (by omega) (opn_int Tryd.underlying5)
    obtain ⟨y1, e1, g1⟩ := hp 1 (by omega) (opn_int Tryd.underlying5)
    simp [cells1_p8, intF] at e0 e1
    subst e0 e1
    have b0 := bounds_u8 g0
    have b1 := bounds_u8 g1
    refine ⟨(y0.toNat, y1.toNat), ?_, by show y0.toNat < _; omega, by show y1.toNat < _; omega⟩
    show [Value.int .u8 y0, Value.int .u8 y1] = [Value.int .u8 (y0.toNat : Int), Value.int .u8 (y1.toNat : Int)]
    rw [Int.toNat_of_nonneg b0.1, Int.toNat_of_nonneg b1.1]
theorem cells_p16 : Tryd.prog.cellsOf 40 = 2 := by kernel_rfl
theorem cells1_p16 : Tryd.prog.cellsOf 39 = 1 := by kernel_rfl
def p16 (x : Nat × Nat) : List Value := [.int .u16 x.1, .int .u16 x.2]
theorem opn_p16 {H : Type} {enc : TypeId × Value → H} {W : World} : Opn enc W 40 p16 (fun x => x.1 < 65536 ∧ x.2 < 65536) := by
  intro n cs x h hw
  obtain ⟨hl, hp⟩ := opn_elem Tryd.underlying40 h hw
  rw [cells_p16] at hl
  match cs, hl with
  | [a, b], _ =>
    obtain ⟨y0, e0, g0⟩ := hp 0 (by omega) (opn_int Tryd.underlying39)
    obtain ⟨y1, e1, g1⟩ := hp 1 (by omega) (opn_int Tryd.underlying39)
    simp [cells1_p16, intF] at e0 e1
    subst e0 e1
    have b0 := bounds_u16' g0
    have b1 := bounds_u16' g1
    refine ⟨(y0.toNat, y1.toNat), ?_, by show y0.toNat < _; omega, by show y1.toNat < _; omega⟩
    show [Value.int .u16 y0, Value.int .u16 y1] = [Value.int .u16 (y0.toNat : Int), Value.int .u16 (y1.toNat : Int)]
    rw [Int.toNat_of_nonneg b0.1, Int.toNat_of_nonneg b1.1]
end Go.Proofs.YtpokkklfiehemaaDoor
