/- Pairs of numbers that came in. -/
import Derived.Test.YtghndnacmpckbaaDoorRead
namespace Go.Proofs.YtghndnacmpckbaaDoor
open Go.RowKit Go.WideShapes
set_option maxRecDepth 100000
theorem bounds_u16' {n : Int} (h : (Lit.int .u16 n).wf = true) : 0 ≤ n ∧ n ≤ 65535 := by
  simp [Lit.wf, IntKind.min, IntKind.max, IntKind.signed, IntKind.bits] at h
  omega
theorem cells1_p64 : Tryd.prog.cellsOf 45 = 1 := by kernel_rfl
def p64 (x : Nat × Nat) : List Value := [.int .u64 x.1, .int .u64 x.2]
theorem cells1_p8 : Tryd.prog.cellsOf 5 = 1 := by kernel_rfl
def p8 (x : Nat × Nat) : List Value := [.int .u8 x.1, .int .u8 x.2]
theorem cells1_p16 : Tryd.prog.cellsOf 23 = 1 := by kernel_rfl
def p16 (x : Nat × Nat) : List Value := [.int .u16 x.1, .int .u16 x.2]
end Go.Proofs.YtghndnacmpckbaaDoor
