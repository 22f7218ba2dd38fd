/- A store into a byte slice of the call's own; pairs of numbers that came in. -/
import Derived.Test.YtoghaehcmbonnaaGreatDoorBytes
import Derived.Laws.OwnMore
namespace Go.Proofs.YtoghaehcmbonnaaGreatDoor
open Go.RowKit
set_option maxRecDepth 100000
theorem OsB.set_ {w : World} {base : Nat} {A : Option Addr} {m c q : Nat} {l : List UInt8} (h : OsB w base A m c l) (hq : q < m) :
    ∃ g, A = some ⟨g, 0, none⟩ ∧ base ≤ g ∧ g < w.heap.size ∧ w.frozen? ⟨g, q, none⟩ = false ∧ (∃ x, w.cell? ⟨g, q, none⟩ = some x) ∧
      ∀ v : UInt8, OsB (w.setCell ⟨g, q, none⟩ (.int .u8 (v.toNat : Int))) base A m c (l.set q v) := by
  have hl := h.len
  obtain ⟨g, cap, hv, hb, hlt⟩ := World.ownsRow.form h.own (by omega)
  injection hv with hA hm hc
  subst hA hc
  have ho := h.own
  refine ⟨g, rfl, hb, hlt, World.ownsRow.frozenAt ho q, ⟨bv l[q], ?_⟩, fun v => ⟨?_, by rw [List.length_set]; exact hl, h.le⟩⟩
  · rw [World.ownsRow.cellAt ho q (by omega), List.getElem?_map, List.getElem?_eq_getElem (by omega)]
    rfl
  · have h1 := World.ownsRow.stored ho q (.int .u8 (v.toNat : Int))
    rw [List.map_set]
    exact h1.1
theorem OsB.set2 {w : World} {base g m c q : Nat} {l : List UInt8} (h : OsB w base (some ⟨g, 0, none⟩) m c l) (hq : q < m) (v : UInt8) {n : Int} (hn : n = v.toNat) :
    OsB (w.setCell ⟨g, q, none⟩ (.int .u8 n)) base (some ⟨g, 0, none⟩) m c (l.set q v) := by
  obtain ⟨g', hA, _, _, _, _, hs⟩ := h.set_ hq
  injection hA with hA
  injection hA with hA
  subst hA hn
  exact hs v
end Go.Proofs.YtoghaehcmbonnaaGreatDoor
