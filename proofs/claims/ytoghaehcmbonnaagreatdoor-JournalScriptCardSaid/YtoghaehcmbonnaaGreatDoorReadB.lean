/- Byte slices and numbers that came in. -/
import Derived.Test.YtoghaehcmbonnaaGreatDoorRead
namespace Go.Proofs.YtoghaehcmbonnaaGreatDoor
open Go.RowKit Go.WideShapes
set_option maxRecDepth 100000

theorem cells_u8b : Tryz.prog.cellsOf 5 = 1 := by kernel_rfl
theorem bytes_u8b : Tryz.prog.bytesOf 5 = 1 := by kernel_rfl
section
variable {H : Type} {enc : TypeId × Value → H} {W : World}
theorem opn_byte : Opn enc W 5 (fun b : UInt8 => [bv b]) (fun _ => True) := by
  intro n cs x h hw
  obtain ⟨z, rfl, hz⟩ := opn_int Tryz.underlying5 n cs x h hw
  have hb := bounds_u8 hz
  refine ⟨UInt8.ofNat z.toNat, ?_, trivial⟩
  simp only [intF, bv, UInt8.toNat_ofNat', List.cons.injEq, Value.int.injEq, true_and, and_true]
  omega
theorem SlB.of_slc {w : World} {A : Option Addr} {m : Nat} {l : List UInt8} (h : SlC (fun b : UInt8 => [bv b]) 1 w A m l) : SlB w A m l := by
  have e : ∀ l : List UInt8, l.flatMap (fun b : UInt8 => [bv b]) = l.map bv := by
    intro l
    induction l with
    | nil => rfl
    | cons x t ih => rw [List.flatMap_cons, ih]; rfl
  refine ⟨?_, h.len, h.le⟩
  rw [← e]
  exact h.rd
theorem opn_top_bytes {v : Value} {d : DataW H} {p : List MemPlace} {base : Nat} (hv : Value.okWide Tryz.prog W .any base 22 v) (h : DataW.Trod enc Tryz.prog W 0 (fun _ => true) true 22 v d p) (hw : WOk 22 d) :
    ∃ A m c l, v = .slice A m c ∧ SlB W A m l ∧ m ≤ c ∧ c ≤ 140737488351232 := by
  obtain ⟨A, m, c, l, rfl, hs, _, hc, hb⟩ := opn_top_slice Tryz.underlying22 (opn_slice Tryz.underlying22 cells_u8b bytes_u8b (by omega) (by omega) (fun _ => rfl) opn_byte) hv h hw
  exact ⟨A, m, c, l, rfl, SlB.of_slc hs, hc, by omega⟩
end
end Go.Proofs.YtoghaehcmbonnaaGreatDoor
