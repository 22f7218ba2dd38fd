/- slices.Insert of one element. -/
import Derived.Test.YtgnchicipmomlaaGreatDoorPK21
import Derived.Lib.Overlaps
import Derived.Test.YtgnchicipmomlaaGreatDoorPK03
import Derived.Test.YtgnchicipmomlaaGreatDoorPK20
namespace Go.Proofs.YtgnchicipmomlaaGreatDoor
open Go.RowKit
set_option maxRecDepth 100000

theorem ins_take {α : Type} {cs : α → List Value} {k : Nat} (h1 : ∀ x, (cs x).length = k) {cur : List Value} {l : List α} {i m : Nat} (hi : i < m) (hl : m = l.length) (htk : cur.take (m * k) = l.flatMap cs) (hsz : (m + 1) * k ≤ cur.length) (x : α) {cur1 cur2 : List Value}
    (e1 : cur1 = cur.take ((i + 1) * k) ++ (l.drop i).flatMap cs ++ cur.drop ((i + 1 + (m - i)) * k)) (e2 : cur2 = cur1.take (i * k) ++ [x].flatMap cs ++ cur1.drop ((i + 1) * k)) :
    cur2.take ((m + 1) * k) = (l.take i ++ [x] ++ l.drop i).flatMap cs ∧ cur2.length = cur.length := by
  have a1 : (i + 1) * k = i * k + k := Nat.succ_mul _ _
  have a2 : (m + 1) * k = m * k + k := Nat.succ_mul _ _
  have a3 : (i + 1 + (m - i)) * k = m * k + k := by rw [show i + 1 + (m - i) = m + 1 by omega, a2]
  have a4 : (m - i) * k = m * k - i * k := Nat.sub_mul _ _ _
  have a5 : i * k + k ≤ m * k := by rw [← a1]; exact Nat.mul_le_mul_right _ hi
  have b1 : ((l.drop i).flatMap cs).length = m * k - i * k := by rw [flat_len h1, List.length_drop, ← hl, a4]
  have b2 : ([x].flatMap cs).length = k := by rw [flat_len h1]; simp
  have b3 : (cur.take ((i + 1) * k)).length = i * k + k := by rw [List.length_take, a1]; omega
  have b4 : ((l.take i).flatMap cs).length = i * k := by rw [flat_len h1, List.length_take, Nat.min_eq_left (by omega)]
  have c1 : cur1.take (i * k) = (l.take i).flatMap cs := by
    rw [e1, List.append_assoc, List.take_append_of_le_length (by rw [b3]; omega), List.take_take, Nat.min_eq_left (by omega), ← flat_take h1, ← htk, List.take_take, Nat.min_eq_left (by omega)]
  have c2 : cur1.drop ((i + 1) * k) = (l.drop i).flatMap cs ++ cur.drop ((i + 1 + (m - i)) * k) := by
    rw [e1, List.append_assoc, List.drop_left' (by rw [b3, a1])]
  subst e2
  rw [c1, c2]
  constructor
  · rw [List.flatMap_append, List.flatMap_append, ← List.append_assoc, List.take_append_of_le_length (by simp only [List.length_append, b1, b2, b4]; omega), List.take_of_length_le (by simp only [List.length_append, b1, b2, b4]; omega)]
  · simp only [List.length_append, List.length_drop, b1, b2, b4, a3]
    omega
theorem grow_take {α : Type} {cs : α → List Value} {k : Nat} (h1 : ∀ x, (cs x).length = k) {l : List α} {i m : Nat} (hi : i < m) (hl : m = l.length) (x : α) {row cur1 cur2 zs : List Value} (e0 : row = (l.take i).flatMap cs ++ zs) (hz : (m + 1 - i) * k ≤ zs.length)
    (e1 : cur1 = row.take (i * k) ++ [x].flatMap cs ++ row.drop ((i + 1) * k)) (e2 : cur2 = cur1.take ((i + 1) * k) ++ (l.drop i).flatMap cs ++ cur1.drop ((i + 1 + (m - i)) * k)) :
    cur2.take ((m + 1) * k) = (l.take i ++ [x] ++ l.drop i).flatMap cs ∧ cur2.length = row.length ∧ cur1.length = row.length := by
  have a1 : (i + 1) * k = i * k + k := Nat.succ_mul _ _
  have a2 : (m + 1) * k = m * k + k := Nat.succ_mul _ _
  have a3 : (i + 1 + (m - i)) * k = m * k + k := by rw [show i + 1 + (m - i) = m + 1 by omega, a2]
  have a4 : (m - i) * k = m * k - i * k := Nat.sub_mul _ _ _
  have a6 : (m + 1 - i) * k = m * k + k - i * k := by rw [Nat.sub_mul, a2]
  have a5 : i * k + k ≤ m * k := by rw [← a1]; exact Nat.mul_le_mul_right _ hi
  have b1 : ((l.drop i).flatMap cs).length = m * k - i * k := by rw [flat_len h1, List.length_drop, ← hl, a4]
  have b2 : ([x].flatMap cs).length = k := by rw [flat_len h1]; simp
  have b4 : ((l.take i).flatMap cs).length = i * k := by rw [flat_len h1, List.length_take, Nat.min_eq_left (by omega)]
  have r1 : row.length = i * k + zs.length := by rw [e0, List.length_append, b4]
  have c1 : row.take (i * k) = (l.take i).flatMap cs := by rw [e0, List.take_left' b4]
  have hc1 : cur1 = (l.take i).flatMap cs ++ [x].flatMap cs ++ row.drop ((i + 1) * k) := by rw [e1, c1]
  have c2 : cur1.take ((i + 1) * k) = (l.take i).flatMap cs ++ [x].flatMap cs := by rw [hc1, List.take_left' (by rw [List.length_append, b4, b2, a1])]
  have hl1 : cur1.length = row.length := by
    rw [hc1]
    simp only [List.length_append, List.length_drop, b4, b2, a1]
    omega
  subst e2
  rw [c2]
  refine ⟨?_, ?_, hl1⟩
  · rw [List.flatMap_append, List.flatMap_append, List.take_append_of_le_length (by simp only [List.length_append, b1, b2, b4]; omega), List.take_of_length_le (by simp only [List.length_append, b1, b2, b4]; omega)]
  · simp only [List.length_append, List.length_drop, b1, b2, b4, a3, hl1]
    omega
theorem Blk.slc {α : Type} {cs : α → List Value} {k : Nat} {w : World} {vb : Nat} {E : TypeId} {x : α} (h1 : ∀ x, (cs x).length = k) (h : Blk w vb E (cs x).toArray) : SlC cs k w (some ⟨vb, 0, none⟩) 1 [x] := by
  refine ⟨⟨by simp [h1 x], fun _ => ⟨_, rfl, h.lt, fun j u hu => ?_⟩⟩, h1, rfl, by omega⟩
  rw [Addr.add_lit, Nat.zero_add, h.cell j]
  simpa using hu
section
variable {w : World}
end

end Go.Proofs.YtgnchicipmomlaaGreatDoor

/- The reference's with, without. -/
namespace Go.Proofs.YtgnchicipmomlaaGreatDoor
open Go.RowKit
set_option maxRecDepth 100000
attribute [local go_sem] ext_refl_t ext_alloc_t ext_drew_t ext_drewN_t ext_alloc2_t ext_alloc3_t ext_alloc4_t ext_alloc5_t ext_alloc6_t ext_alloc7_t ext_alloc8_t ext_alloc1d_t ext_alloc2d_t ext_alloc3d_t ext_alloc4d_t
theorem Blk.new1 (w : World) (o : Obj) (t : TypeId) (cs : Array Value) : Blk ((w.alloc o).alloc (.cells cs t)) (w.heap.size + 1) t cs := by
  have h := Blk.new (w.alloc o) t cs
  simpa using h
section
variable {w : World}
end

end Go.Proofs.YtgnchicipmomlaaGreatDoor

/- The reference's Remove. -/
namespace Go.Proofs.YtgnchicipmomlaaGreatDoor
open Go.RowKit
set_option maxRecDepth 100000
attribute [local go_sem] ext_refl_t ext_alloc_t ext_drew_t ext_drewN_t ext_alloc2_t ext_alloc3_t ext_alloc4_t ext_alloc5_t ext_alloc6_t ext_alloc7_t ext_alloc8_t ext_alloc1d_t ext_alloc2d_t ext_alloc3d_t ext_alloc4d_t
section
variable {w : World}
end

end Go.Proofs.YtgnchicipmomlaaGreatDoor

/- The reference's Move. -/
namespace Go.Proofs.YtgnchicipmomlaaGreatDoor
open Go.RowKit
set_option maxRecDepth 100000
attribute [local go_sem] ext_refl_t ext_alloc_t ext_drew_t ext_drewN_t ext_alloc2_t ext_alloc3_t ext_alloc4_t ext_alloc5_t ext_alloc6_t ext_alloc7_t ext_alloc8_t ext_alloc1d_t ext_alloc2d_t ext_alloc3d_t ext_alloc4d_t
section
variable {w : World}
end

end Go.Proofs.YtgnchicipmomlaaGreatDoor
