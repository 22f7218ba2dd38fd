/- A struct stored cell by cell into an element of a row; lists of strings. -/
import Derived.Test.YtdgppdiickmofaaGreatDoorPQ04
import Derived.Test.YtdgppdiickmofaaGreatDoorPQ08
import Derived.Laws.IdiomCopy
namespace Go.Proofs.YtdgppdiickmofaaGreatDoor
open Go.RowKit
set_option maxRecDepth 100000
theorem zok_of {e : TypeId} {z0 : Value} (h : (Tryz.prog.info? e).map (·.zero) = some (some z0)) (h1 : z0.cells.toList.all (·.oneCell') = true) : ∀ i z, Tryz.prog.info? e = some i → i.zero = some z → ∀ u ∈ z.cells.toList, u.oneCell' = true := fun i z hi hz u hu => by
  rw [hi] at h
  simp only [Option.map_some, Option.some.injEq] at h
  rw [h] at hz
  injection hz with hz
  subst hz
  exact List.all_eq_true.1 h1 u hu
theorem einfo_ss : EInfo 27 9 1 16 := EInfo.mk_ (z := .string ⟨#[]⟩) Tryz.underlying27 (by kernel_rfl) rfl (by omega) (by omega)
theorem zok_ss : ∀ i z, Tryz.prog.info? 9 = some i → i.zero = some z → ∀ u ∈ z.cells.toList, u.oneCell' = true := zok_of (z0 := .string ⟨#[]⟩) (by kernel_rfl) (by decide)
theorem strF_len (x : ByteArray) : (strF x).length = 1 := rfl
theorem strF_cell : ∀ x : ByteArray, ∀ u ∈ strF x, u.oneCell' = true := by
  intro x u hu
  simp only [strF, List.mem_cons, List.not_mem_nil, or_false] at hu
  rcases hu with rfl
  rfl
section
variable {α : Type} {cs : α → List Value} {t e : TypeId} {k by_ : Nat} {w w' : World} {base : Nat} {A : Option Addr} {m c : Nat} {l : List α}
/-- The cells of element i, ready to be written; and what the row holds afterwards. -/
theorem OsC.setE (hown : OsC cs e k w base A m c l) {i : Nat} (hi : i < m) {g : Nat} (hA : A = some ⟨g, 0, none⟩) (y : α) :
    (∀ j, j < k → (∃ u, w.cell? ⟨g, i * k + j, none⟩ = some u) ∧ w.frozen? ⟨g, i * k + j, none⟩ = false) ∧
    OsC cs e k (w.setCells g (i * k) (cs y)) base A m c (l.set i y) ∧ w.grownBy (w.setCells g (i * k) (cs y)) (ob A) ∧ (w.setCells g (i * k) (cs y)).heap.size = w.heap.size := by
  obtain ⟨g', cur, hA', hg, hh, hmc, hc, hsz, htk⟩ := hown.row (by omega)
  rw [hA] at hA'
  simp only [Option.some.injEq, Addr.mk.injEq, and_true] at hA'
  subst hA'
  have hyl : (cs y).length = k := hown.one y
  have hik : (i + 1) * k ≤ m * k := Nat.mul_le_mul_right _ hi
  have hmk : m * k ≤ c * k := Nat.mul_le_mul_right _ hmc
  have e1 : (i + 1) * k = i * k + k := Nat.succ_mul _ _
  have hb : Blk w g e cur := hh
  have hcell : ∀ j, j < k → (∃ u, w.cell? ⟨g, i * k + j, none⟩ = some u) ∧ w.frozen? ⟨g, i * k + j, none⟩ = false := fun j hj => by
    refine ⟨⟨cur[i * k + j]'(by omega), ?_⟩, hb.frozen _⟩
    rw [hb.cell]
    exact Array.getElem?_eq_getElem _
  have hst := run_storeCells_at Tryz.prog g (i * k) e (cs y) 0 cur w hh (by rw [hyl]; omega) (hown.cell y)
  have hst2 := run_storeCells_cells (P := Tryz.prog) g (i * k) (cs y) 0 w (fun j hj => by
    obtain ⟨⟨u, hu⟩, _⟩ := hcell j (by omega)
    rw [show i * k + 0 + j = i * k + j by omega, hu]; rfl) (fun j hj => by
    rw [show i * k + 0 + j = i * k + j by omega]; exact (hcell j (by omega)).2) (hown.cell y)
  rw [hst] at hst2
  injection hst2 with _ hw
  rw [Nat.add_zero] at hw
  rw [hyl] at hw
  refine ⟨hcell, ?_⟩
  rw [← hw]
  refine ⟨OsC.of_row hA hg (setRow_heap' hh _) hmc hc ?_ ?_ hown.one hown.cell (by rw [List.length_set]; exact hown.len) hown.le, by rw [hA]; exact grown_setRow w g _, setRow_size _ _ _⟩
  · have := splice_size (cur := cur) (o := i * k) (n := k) hyl (by omega)
    exact this.trans hsz
  · have hlt : i < l.length := by rw [← hown.len]; exact hi
    have h3 : cur.toList.take (i * k) = (l.take i).flatMap cs := by
      rw [← flat_take hown.one, ← htk, List.take_take, Nat.min_eq_left (by omega)]
    have h4 : (cur.toList.drop (i * k + k)).take (m * k - (i * k + k)) = (l.drop (i + 1)).flatMap cs := by
      rw [← flat_drop hown.one, ← htk, e1, List.drop_take]
    rw [List.set_eq_take_append_cons_drop, if_pos hlt, List.flatMap_append, List.flatMap_cons, h3, ← h4]
    have h5 : ((l.take i).flatMap cs).length = i * k := by rw [flat_len hown.one, List.length_take, Nat.min_eq_left (by omega)]
    have h6 := take_three ((l.take i).flatMap cs) (cs y) (cur.toList.drop (i * k + k)) (m * k) (by rw [h5, hyl]; omega)
    rw [h5, hyl] at h6
    exact h6
end
end Go.Proofs.YtdgppdiickmofaaGreatDoor
