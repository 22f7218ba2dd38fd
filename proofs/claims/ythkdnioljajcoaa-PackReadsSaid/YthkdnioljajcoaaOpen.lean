/- Arguments that came in: byte slices and slices of strings as lists. -/
import Derived.Test.YthkdnioljajcoaaStrs
import Derived.ProofKit
import Derived.OpenShut
import Derived.SliceStrings
import Derived.SizedLaws
namespace Go.Proofs.Ythkdnioljajcoaa
open Go.ChangeShapes Go.WideShapes Go.ChangeAt Go.RowKit

theorem ownK : ownKnob Try.prog.godebug = none := by kernel_rfl
theorem laidK : laidOutB Try.prog = true := by kernel_rfl
theorem cells_u8 : Try.prog.cellsOf 5 = 1 := by kernel_rfl
theorem cells_str : Try.prog.cellsOf 9 = 1 := by kernel_rfl
theorem bytes_u8 : Try.prog.bytesOf 5 = 1 := by kernel_rfl
theorem bytes_str : Try.prog.bytesOf 9 = 16 := by kernel_rfl

section
variable {H : Type} {enc : TypeId × Value → H} {W : World} {base : Nat} {v : Value} {d : DataW H} {p : List MemPlace}
theorem open_bytesK (hv : Value.okWide Try.prog W .any base 22 v) (h : DataW.Trod enc Try.prog W 0 (fun _ => true) true 22 v d p)
    (hz : ∀ elems spare, d = .slice elems spare → (elems.length + spare.length) * Try.prog.bytesOf 5 ≤ reachBytes) (hlt : ∀ x ∈ p, x.block < W.heap.size) :
    ∃ A m c l, v = .slice A m c ∧ SlB W A m l ∧ m ≤ c ∧ c ≤ 140737488351232 := by
  obtain ⟨A, m, c, rfl⟩ := okWide_slice Try.underlying22 hv
  obtain ⟨fuel, hf⟩ := h
  rcases open_ints Try.underlying22 Try.underlying5 cells_u8 hf with ⟨hcs, _⟩ | ⟨a, len, cap, zs, hcs, _, hl, hm, hzl, hx, hcell, hwz⟩
  · simp [Value.cells] at hcs
    obtain ⟨rfl, rfl, rfl⟩ := hcs
    exact ⟨none, 0, 0, [], rfl, SlB.nil_, Nat.le_refl _, by omega⟩
  · simp [Value.cells] at hcs
    obtain ⟨rfl, rfl, rfl⟩ := hcs
    simp only [Prod.mk.injEq] at hx
    obtain ⟨rfl, rfl⟩ := hx
    have h1 := hz _ _ rfl
    rw [bytes_u8] at h1
    simp only [lits, List.length_map, List.length_take, List.length_drop, reachBytes, if_true] at h1 hzl
    refine ⟨some a, m, c, (zs.take m).map fun n => UInt8.ofNat n.toNat, rfl, ⟨⟨by simp; omega, fun hn => ⟨a, rfl, ?_, fun j u hu => ?_⟩⟩, by simp; omega, by omega⟩, hl, by omega⟩
    · have := hcell 0 (by omega)
      have h2 := World.block_lt_of_cell? W _ this
      rw [block_of_add] at h2
      exact h2
    · simp only [List.getElem?_map, List.map_map] at hu
      rcases hj : (zs.take m)[j]? with _ | z
      · rw [hj] at hu; cases hu
      · rw [hj] at hu
        rw [List.getElem?_take] at hj
        split at hj
        · have hjl : j < zs.length := by omega
          rw [hcell j hjl]
          have hz2 := bounds_u8 (hwz z (List.mem_of_getElem? hj))
          simp only [Option.map_some, Option.some.injEq, Function.comp] at hu
          subst hu
          rw [List.getD_eq_getElem?_getD, hj]
          simp only [Option.getD_some, bv, UInt8.toNat_ofNat', Option.some.injEq, Value.int.injEq, true_and]
          omega
        · cases hj
theorem open_strsK (hv : Value.okWide Try.prog W .any base 23 v) (h : DataW.Trod enc Try.prog W 0 (fun _ => true) true 23 v d p)
    (hz : ∀ elems spare, d = .slice elems spare → (elems.length + spare.length) * Try.prog.bytesOf 9 ≤ reachBytes) :
    ∃ A m c l, v = .slice A m c ∧ SlS W A m l ∧ m ≤ c := by
  obtain ⟨A, m, c, rfl⟩ := okWide_slice Try.underlying23 hv
  obtain ⟨fuel, hf⟩ := h
  rcases open_strings Try.underlying23 Try.underlying9 cells_str hf with ⟨hcs, _⟩ | ⟨a, len, cap, zs, hcs, _, hl, hm, hzl, hx, hcell, hwz⟩
  · simp [Value.cells] at hcs
    obtain ⟨rfl, rfl, rfl⟩ := hcs
    exact ⟨none, 0, 0, [], rfl, SlS.nil_, Nat.le_refl _⟩
  · simp [Value.cells] at hcs
    obtain ⟨rfl, rfl, rfl⟩ := hcs
    simp only [Prod.mk.injEq] at hx
    obtain ⟨rfl, rfl⟩ := hx
    have h1 := hz _ _ rfl
    rw [bytes_str] at h1
    simp only [strs, List.length_map, List.length_take, List.length_drop, reachBytes, if_true] at h1 hzl
    refine ⟨some a, m, c, zs.take m, rfl, ⟨⟨by simp; omega, fun hn => ⟨a, rfl, ?_, fun j u hu => ?_⟩⟩, by simp; omega, by omega⟩, hl⟩
    · have := hcell 0 (by omega)
      have h2 := World.block_lt_of_cell? W _ this
      rw [block_of_add] at h2
      exact h2
    · simp only [List.getElem?_map] at hu
      rcases hj : (zs.take m)[j]? with _ | z
      · rw [hj] at hu; cases hu
      · rw [hj] at hu
        rw [List.getElem?_take] at hj
        split at hj
        · have hjl : j < zs.length := by omega
          rw [hcell j hjl]
          simp only [Option.map_some, Option.some.injEq] at hu
          subst hu
          rw [List.getD_eq_getElem?_getD, hj]
          rfl
        · cases hj
end

end Go.Proofs.Ythkdnioljajcoaa
