/- A struct stored cell by cell into an element of a row. -/
import Derived.Test.YtcdpmgdocgddcaaDoorSlc
import Derived.Laws.IdiomCopy
import Derived.Test.YtcdpmgdocgddcaaDoorRMov
import Derived.Test.YtcdpmgdocgddcaaDoorRFew
import Derived.Test.YtcdpmgdocgddcaaDoorCatCard
namespace Go.Proofs.YtcdpmgdocgddcaaDoor
open Go.RowKit
set_option maxRecDepth 100000
section
variable {α : Type} {cs : α → List Value} {t e : TypeId} {k by_ : Nat} {w w' : World} {base : Nat} {A : Option Addr} {m c : Nat} {l : List α}
/-- The cells of element i, ready to be written; and what the row holds afterwards. -/
theorem OsC.setE (hown : OsC cs e k w base A m c l) {i : Nat} (hi : i < m) {g : Nat} (hA : A = some ⟨g, 0, none⟩) (y : α) :
    (∀ j, j < k → (∃ u, w.cell? ⟨g, i * k + j, none⟩ = some u) ∧ w.frozen? ⟨g, i * k + j, none⟩ = false) ∧
    OsC cs e k (w.setCells g (i * k) (cs y)) base A m c (l.set i y) ∧ w.grownBy (w.setCells g (i * k) (cs y)) (ob A) ∧ (w.setCells g (i * k) (cs y)).heap.size = w.heap.size := by
  obtain ⟨g', cur, hA', hg, hh, hmc, hc, hsz, htk⟩ := hown.row (by omega)
  rw [hA] at hA'
  simp only [Option.some.injEq, Addr.mk.injEq, and_true] at hA'
  subst hA'
  have hyl : (cs y).length = k := hown.one y
  have hik : (i + 1) * k ≤ m * k := Nat.mul_le_mul_right _ hi
  have hmk : m * k ≤ c * k := Nat.mul_le_mul_right _ hmc
  have e1 : (i + 1) * k = i * k + k := Nat.succ_mul _ _
  have hb : Blk w g e cur := hh
  have hcell : ∀ j, j < k → (∃ u, w.cell? ⟨g, i * k + j, none⟩ = some u) ∧ w.frozen? ⟨g, i * k + j, none⟩ = false := fun j hj => by
    refine ⟨⟨cur[i * k + j]'(by omega), ?_⟩, hb.frozen _⟩
    rw [hb.cell]
    exact Array.getElem?_eq_getElem _
  have hst := run_storeCells_at Tryd.prog g (i * k) e (cs y) 0 cur w hh (by rw [hyl]; omega) (hown.cell y)
  have hst2 := run_storeCells_cells (P := Tryd.prog) g (i * k) (cs y) 0 w (fun j hj => by
    obtain ⟨⟨u, hu⟩, _⟩ := hcell j (by omega)
    rw [show i * k + 0 + j = i * k + j by omega, hu]; rfl) (fun j hj => by
    rw [show i * k + 0 + j = i * k + j by omega]; exact (hcell j (by omega)).2) (hown.cell y)
  rw [hst] at hst2
  injection hst2 with _ hw
  rw [Nat.add_zero] at hw
  rw [hyl] at hw
  refine ⟨hcell, ?_⟩
  rw [← hw]
  refine ⟨OsC.of_row hA hg (setRow_heap' hh _) hmc hc ?_ ?_ hown.one hown.cell (by rw [List.length_set]; exact hown.len) hown.le, by rw [hA]; exact grown_setRow w g _, setRow_size _ _ _⟩
  · have := splice_size (cur := cur) (o := i * k) (n := k) hyl (by omega)
    exact this.trans hsz
  · have hlt : i < l.length := by rw [← hown.len]; exact hi
    have h3 : cur.toList.take (i * k) = (l.take i).flatMap cs := by
      rw [← flat_take hown.one, ← htk, List.take_take, Nat.min_eq_left (by omega)]
    have h4 : (cur.toList.drop (i * k + k)).take (m * k - (i * k + k)) = (l.drop (i + 1)).flatMap cs := by
      rw [← flat_drop hown.one, ← htk, e1, List.drop_take]
    rw [List.set_eq_take_append_cons_drop, if_pos hlt, List.flatMap_append, List.flatMap_cons, h3, ← h4]
    have h5 : ((l.take i).flatMap cs).length = i * k := by rw [flat_len hown.one, List.length_take, Nat.min_eq_left (by omega)]
    have h6 := take_three ((l.take i).flatMap cs) (cs y) (cur.toList.drop (i * k + k)) (m * k) (by rw [h5, hyl]; omega)
    rw [h5, hyl] at h6
    exact h6
end
end Go.Proofs.YtcdpmgdocgddcaaDoor

/- Put. -/
namespace Go.Proofs.YtcdpmgdocgddcaaDoor
open Go.RowKit
set_option maxRecDepth 100000
attribute [local go_sem] ext_refl_t ext_alloc_t ext_drew_t ext_drewN_t ext_alloc2_t ext_alloc3_t ext_alloc4_t ext_alloc5_t ext_alloc6_t ext_alloc7_t ext_alloc8_t ext_alloc1d_t ext_alloc2d_t ext_alloc3d_t ext_alloc4d_t
/-- What Put does. -/
def PutR (c : Cp) (x : Ep) (at_ : Int) (c' : Cp) (code : Int) : Prop :=
  ((validC c = false ∨ validE x = false) ∧ code = 1 ∧ c' = cp0) ∨
  (validC c = true ∧ validE x = true ∧
    ((∃ k : Nat, FindZ c.es x.id k ∧ k < c.es.length ∧ code = 0 ∧ c' = ⟨c.tag, c.com, c.fd, c.es.set k x⟩) ∨
     (FindZ c.es x.id (-1) ∧ (((at_ < 0 ∨ (c.es.length : Int) < at_) ∧ code = 2 ∧ c' = cp0) ∨
       ∃ a : Nat, at_ = a ∧ a ≤ c.es.length ∧ ((1000 ≤ c.es.length ∧ code = 6 ∧ c' = cp0) ∨
         (c.es.length < 1000 ∧ code = 0 ∧ c' = ⟨c.tag, c.com, c.fd, c.es.take a ++ [x] ++ c.es.drop a⟩))))))
section
variable {w : World}
end

end Go.Proofs.YtcdpmgdocgddcaaDoor

/- The reference's Put. -/
namespace Go.Proofs.YtcdpmgdocgddcaaDoor
open Go.RowKit
set_option maxRecDepth 100000
attribute [local go_sem] ext_refl_t ext_alloc_t ext_drew_t ext_drewN_t ext_alloc2_t ext_alloc3_t ext_alloc4_t ext_alloc5_t ext_alloc6_t ext_alloc7_t ext_alloc8_t ext_alloc1d_t ext_alloc2d_t ext_alloc3d_t ext_alloc4d_t
theorem set_parts {α : Type} (l : List α) (k : Nat) (h : k < l.length) (x : α) : (l.take k ++ l.drop (k + 1)).take k ++ [x] ++ (l.take k ++ l.drop (k + 1)).drop k = l.set k x := by
  have h1 : (l.take k).length = k := by rw [List.length_take]; omega
  have h2 : (l.take k ++ l.drop (k + 1)).take k = l.take k := List.take_left' h1
  have h3 : (l.take k ++ l.drop (k + 1)).drop k = l.drop (k + 1) := List.drop_left' h1
  rw [h2, h3, List.set_eq_take_append_cons_drop, if_pos h, List.append_assoc]
  rfl
section
variable {w : World}
end

end Go.Proofs.YtcdpmgdocgddcaaDoor

/- The results of Remove, Move are the only ones; what the laws of catalogs share. -/
namespace Go.Proofs.YtcdpmgdocgddcaaDoor
open Go.ChangeShapes Go.WideShapes Go.ChangeAt Go.RowKit
set_option maxRecDepth 100000
attribute [local go_sem] ext_refl_t ext_alloc_t ext_drew_t ext_drewN_t ext_alloc2_t ext_alloc3_t ext_alloc4_t ext_alloc5_t ext_alloc6_t ext_alloc7_t ext_alloc8_t ext_alloc1d_t ext_alloc2d_t ext_alloc3d_t ext_alloc4d_t
theorem RemR.uniq {c : Cp} {id : ByteArray} {a b : Cp} {m n : Int} (h : RemR c id a m) (h' : RemR c id b n) : a = b ∧ m = n := by
  rcases h with ⟨h1, h2, h3⟩ | ⟨h1, h2, h3, h4⟩ | ⟨h1, k, h2, _, h3, h4⟩ <;> rcases h' with ⟨i1, i2, i3⟩ | ⟨i1, i2, i3, i4⟩ | ⟨i1, j, i2, _, i3, i4⟩
  · exact ⟨h3.trans i3.symm, h2.trans i2.symm⟩
  · rw [h1] at i1; cases i1
  · rw [h1] at i1; cases i1
  · rw [h1] at i1; cases i1
  · exact ⟨h4.trans i4.symm, h3.trans i3.symm⟩
  · have := h2.uniq i2; omega
  · rw [h1] at i1; cases i1
  · have := h2.uniq i2; omega
  · have e : k = j := by have := h2.uniq i2; omega
    subst e
    exact ⟨h4.trans i4.symm, h3.trans i3.symm⟩
theorem MovR.uniq {c : Cp} {id : ByteArray} {at_ : Int} {a b : Cp} {m n : Int} (h : MovR c id at_ a m) (h' : MovR c id at_ b n) : a = b ∧ m = n := by
  obtain ⟨c1, k1, hr, h⟩ := h
  obtain ⟨c2, k2, hr', h'⟩ := h'
  obtain ⟨rfl, rfl⟩ := hr.uniq hr'
  rcases h with ⟨h1, h2, h3⟩ | ⟨h1, h2, h3, h4⟩ | ⟨h1, a1, k, h2, h3, h4, h5, h6, h7⟩ <;> rcases h' with ⟨i1, i2, i3⟩ | ⟨i1, i2, i3, i4⟩ | ⟨i1, a2, j, i2, i3, i4, i5, i6, i7⟩
  · exact ⟨h2.trans i2.symm, h3.trans i3.symm⟩
  · exact absurd i1 h1
  · exact absurd i1 h1
  · exact absurd h1 i1
  · exact ⟨h3.trans i3.symm, h4.trans i4.symm⟩
  · omega
  · exact absurd h1 i1
  · omega
  · have e1 : a1 = a2 := by omega
    have e2 : k = j := by have := h4.uniq i4; omega
    subst e1 e2
    exact ⟨h7.trans i7.symm, h6.trans i6.symm⟩
theorem CatO.w' {w : World} {base : Nat} {y : Cat} (h : CatO w base y) (hn : y.p.es.length ≤ 1000) : CatW w y := h.w (by rw [h.own.len, ← show y.p.es.length = y.es.length from List.length_map _]; omega)
theorem RemR.len {c : Cp} {id : ByteArray} {a : Cp} {m : Int} (h : RemR c id a m) : a.es.length ≤ 1000 := by
  rcases h with ⟨h1, h2, rfl⟩ | ⟨h1, h2, h3, rfl⟩ | ⟨h1, k, h2, _, h3, rfl⟩
  · exact Nat.zero_le _
  · exact Nat.zero_le _
  · have := validC_len h1
    show (c.es.take k ++ c.es.drop (k + 1)).length ≤ 1000
    rw [List.length_append, List.length_take, List.length_drop]
    omega
theorem MovR.len {c : Cp} {id : ByteArray} {at_ : Int} {a : Cp} {m : Int} (h : MovR c id at_ a m) : a.es.length ≤ 1000 := by
  obtain ⟨c1, k1, hr, ⟨_, rfl, _⟩ | ⟨_, _, rfl, _⟩ | ⟨h0, a1, k, _, h1, h2, h3, _, rfl⟩⟩ := h
  · exact hr.len
  · exact Nat.zero_le _
  · rcases hr with ⟨_, h, _⟩ | ⟨_, _, h, _⟩ | ⟨hv, k2, _, hk2, _, rfl⟩
    · omega
    · omega
    · have := validC_len hv
      show ((c.es.take k2 ++ c.es.drop (k2 + 1)).take a1 ++ [c.es[k]] ++ (c.es.take k2 ++ c.es.drop (k2 + 1)).drop a1).length ≤ 1000
      simp only [List.length_append, List.length_take, List.length_drop, List.length_cons, List.length_nil]
      omega
theorem in_p (x : Cat) (e : SlH) : (x.withE x.es e).p = x.p := rfl
theorem reqC_true {w : World} {x y : Cat} (hx : CatW w x) (hy : CatW w y) (h : x.p = y.p) :
    Calls Tryd.prog 20 #[catV x, catV y] w fun e w' => e = .returned (.bool true) ∧ Ext w w' := by
  have h1 := reqC_any hx hy
  rwa [eqC_iff.2 h] at h1
end Go.Proofs.YtcdpmgdocgddcaaDoor
