/- The results of Remove, Move are the only ones; what the laws of catalogs share. -/
import Derived.Test.YtikbjaopcminaaaDoorRMov
import Derived.Test.YtikbjaopcminaaaDoorRFew
import Derived.Test.YtikbjaopcminaaaDoorCatCard
namespace Go.Proofs.YtikbjaopcminaaaDoor
open Go.ChangeShapes Go.WideShapes Go.ChangeAt Go.RowKit
set_option maxRecDepth 100000
attribute [local go_sem] ext_refl_t ext_alloc_t ext_drew_t ext_drewN_t ext_alloc2_t ext_alloc3_t ext_alloc4_t ext_alloc5_t ext_alloc6_t ext_alloc7_t ext_alloc8_t ext_alloc1d_t ext_alloc2d_t ext_alloc3d_t ext_alloc4d_t
theorem RemR.uniq {c : Cp} {id : ByteArray} {a b : Cp} {m n : Int} (h : RemR c id a m) (h' : RemR c id b n) : a = b ∧ m = n := by
  rcases h with ⟨h1, h2, h3⟩ | ⟨h1, h2, h3, h4⟩ | ⟨h1, k, h2, _, h3, h4⟩ <;> rcases h' with ⟨i1, i2, i3⟩ | ⟨i1, i2, i3, i4⟩ | ⟨i1, j, i2, _, i3, i4⟩
  · exact ⟨h3.trans i3.symm, h2.trans i2.symm⟩
  · rw [h1] at i1; cases i1
  · rw [h1] at i1; cases i1
  · rw [h1] at i1; cases i1
  · exact ⟨h4.trans i4.symm, h3.trans i3.symm⟩
  · have := h2.uniq i2; omega
  · rw [h1] at i1; cases i1
  · have := h2.uniq i2; omega
  · have e : k = j := by have := h2.uniq i2; omega
    subst e
    exact ⟨h4.trans i4.symm, h3.trans i3.symm⟩
theorem MovR.uniq {c : Cp} {id : ByteArray} {at_ : Int} {a b : Cp} {m n : Int} (h : MovR c id at_ a m) (h' : MovR c id at_ b n) : a = b ∧ m = n := by
  obtain ⟨c1, k1, hr, h⟩ := h
  obtain ⟨c2, k2, hr', h'⟩ := h'
  obtain ⟨rfl, rfl⟩ := hr.uniq hr'
  rcases h with ⟨h1, h2, h3⟩ | ⟨h1, h2, h3, h4⟩ | ⟨h1, a1, k, h2, h3, h4, h5, h6, h7⟩ <;> rcases h' with ⟨i1, i2, i3⟩ | ⟨i1, i2, i3, i4⟩ | ⟨i1, a2, j, i2, i3, i4, i5, i6, i7⟩
  · exact ⟨h2.trans i2.symm, h3.trans i3.symm⟩
  · exact absurd i1 h1
  · exact absurd i1 h1
  · exact absurd h1 i1
  · exact ⟨h3.trans i3.symm, h4.trans i4.symm⟩
  · omega
  · exact absurd h1 i1
  · omega
  · have e1 : a1 = a2 := by omega
    have e2 : k = j := by have := h4.uniq i4; omega
    subst e1 e2
    exact ⟨h7.trans i7.symm, h6.trans i6.symm⟩
theorem CatO.w' {w : World} {base : Nat} {y : Cat} (h : CatO w base y) (hn : y.p.es.length ≤ 1000) : CatW w y := h.w (by rw [h.own.len, ← show y.p.es.length = y.es.length from List.length_map _]; omega)
theorem RemR.len {c : Cp} {id : ByteArray} {a : Cp} {m : Int} (h : RemR c id a m) : a.es.length ≤ 1000 := by
  rcases h with ⟨h1, h2, rfl⟩ | ⟨h1, h2, h3, rfl⟩ | ⟨h1, k, h2, _, h3, rfl⟩
  · exact Nat.zero_le _
  · exact Nat.zero_le _
  · have := validC_len h1
    show (c.es.take k ++ c.es.drop (k + 1)).length ≤ 1000
    rw [List.length_append, List.length_take, List.length_drop]
    omega
theorem MovR.len {c : Cp} {id : ByteArray} {at_ : Int} {a : Cp} {m : Int} (h : MovR c id at_ a m) : a.es.length ≤ 1000 := by
  obtain ⟨c1, k1, hr, ⟨_, rfl, _⟩ | ⟨_, _, rfl, _⟩ | ⟨h0, a1, k, _, h1, h2, h3, _, rfl⟩⟩ := h
  · exact hr.len
  · exact Nat.zero_le _
  · rcases hr with ⟨_, h, _⟩ | ⟨_, _, h, _⟩ | ⟨hv, k2, _, hk2, _, rfl⟩
    · omega
    · omega
    · have := validC_len hv
      show ((c.es.take k2 ++ c.es.drop (k2 + 1)).take a1 ++ [c.es[k]] ++ (c.es.take k2 ++ c.es.drop (k2 + 1)).drop a1).length ≤ 1000
      simp only [List.length_append, List.length_take, List.length_drop, List.length_cons, List.length_nil]
      omega
theorem in_p (x : Cat) (e : SlH) : (x.withE x.es e).p = x.p := rfl
theorem reqC_true {w : World} {x y : Cat} (hx : CatW w x) (hy : CatW w y) (h : x.p = y.p) :
    Calls Tryd.prog 29 #[catV x, catV y] w fun e w' => e = .returned (.bool true) ∧ Ext w w' := by
  have h1 := reqC_any hx hy
  rwa [eqC_iff.2 h] at h1
end Go.Proofs.YtikbjaopcminaaaDoor
