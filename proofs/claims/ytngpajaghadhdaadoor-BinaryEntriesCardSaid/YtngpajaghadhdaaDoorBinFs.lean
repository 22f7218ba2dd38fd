/- sort.Search over the order of the entries. -/
import Derived.Test.YtngpajaghadhdaaDoorBinDk
namespace Go.Proofs.YtngpajaghadhdaaDoor
open Go.RowKit
set_option maxRecDepth 100000
attribute [local go_sem] ext_refl_t ext_alloc_t ext_drew_t ext_drewN_t ext_alloc2_t ext_alloc3_t ext_alloc4_t ext_alloc5_t ext_alloc6_t ext_alloc7_t ext_alloc8_t ext_alloc1d_t ext_alloc2d_t ext_alloc3d_t ext_alloc4d_t
/-- Is the j-th ID in order before id? -/
def bef (l : List Ep) (id : ByteArray) (j : Nat) : Bool := bO (idAt l ((sortE l).getD j 0)) id
theorem bef_at {l : List Ep} {id : ByteArray} {j : Nat} (h : j < (sortE l).length) : bef l id j = bO (idAt l (sortE l)[j]) id := by
  unfold bef
  rw [List.getD_eq_getElem?_getD, List.getElem?_eq_getElem h]
  rfl
/-- The border of the search. -/
def Border (l : List Ep) (id : ByteArray) (k : Nat) : Prop := k ≤ (sortE l).length ∧ (0 < k → bef l id (k - 1) = true) ∧ (k < (sortE l).length → bef l id k = false)
theorem Border.find {l : List Ep} (hd : (l.map Ep.id).Nodup) {id : ByteArray} {k : Nat} (h : Border l id k) :
    (∃ h : k < (sortE l).length, idAt l (sortE l)[k] = id) ∨ (∀ x ∈ l, x.id ≠ id) ∧ ∀ h : k < (sortE l).length, idAt l (sortE l)[k] ≠ id := by
  obtain ⟨hk, h1, h2⟩ := h
  refine sort_find hd (fun j hj hjl => ?_) (fun hkl => by rw [← bef_at hkl]; exact h2 hkl) hk
  have hkl : k - 1 < (sortE l).length := by omega
  have h3 := h1 (by omega)
  rw [bef_at hkl] at h3
  rcases Nat.lt_or_ge j (k - 1) with hlt | hge
  · have hs := sortE_strict hd
    rw [List.pairwise_iff_getElem] at hs
    exact bO_trans (hs j (k - 1) hjl hkl hlt) h3
  · have e : j = k - 1 := by omega
    subst e
    exact h3
section
variable {w : World}
set_option maxHeartbeats 3200000 in
theorem fclo_any {A B : Option Addr} {m c n d : Nat} {es : List Ent} (hs : SlC entC 7 w A m es) (ho : SlC natF 1 w B n (sortE (es.map Ent.p))) {gx gl gi : Nat} {id : ByteArray} (hb : w.cell? ⟨gx, 3, none⟩ = some (.slice A m c)) (hl : w.cell? ⟨gl, 0, none⟩ = some (.slice B n d)) (hi : w.cell? ⟨gi, 0, none⟩ = some (.string id)) {j : Nat} (hj : j < n) :
    Calls Tryd.prog 57 #[.int .i64 (j : Int), .pointer (some ⟨gx, 0, none⟩), .pointer (some ⟨gl, 0, none⟩), .pointer (some ⟨gi, 0, none⟩)] w fun e w' => e = .returned (.bool (!bef (es.map Ent.p) id j)) ∧ Ext w w' := by
  have hml : m = es.length := hs.len
  have hnl := ho.len
  have hjn : j < (sortE (es.map Ent.p)).length := by omega
  obtain ⟨b, off, e0, hbl, hcs⟩ := ho.at_ hj (by omega)
  subst e0
  obtain ⟨p, hp⟩ : ∃ p, p = (sortE (es.map Ent.p))[j] := ⟨_, rfl⟩
  have y0 := hcs j hjn 0 (by omega)
  simp only [← hp, natF, List.getElem_cons_zero, Nat.mul_one, Nat.add_zero] at y0
  have hpl : p < (es.map Ent.p).length := by rw [hp]; exact sortE_lt (List.getElem_mem _)
  have hpe : p < es.length := by rw [List.length_map] at hpl; exact hpl
  have hpm : p < m := by omega
  obtain ⟨b2, off2, e0, hbl2, hcs2⟩ := hs.at_ hpm (by omega)
  subst e0
  obtain ⟨x, hx⟩ : ∃ x, x = es[p] := ⟨_, rfl⟩
  have x0 := hcs2 p hpe 0 (by omega)
  simp only [← hx, entC, List.getElem_cons_zero, Nat.add_zero] at x0
  have HB : Hid (bef (es.map Ent.p) id j = bO x.p.id id) := by
    show _ = _
    rw [bef_at hjn, ← hp, idAt_lt hpl]
    simp [hx]
  have i1 : (j : Int) < (n : Int) := by omega
  have i2 : (p : Int) < (m : Int) := by omega
  obtain ⟨s, hss⟩ : ∃ s, s = x.p.id := ⟨_, rfl⟩
  rw [← hss] at x0 HB
  rw [HB.out]
  clear hcs hcs2 hx hp hml hnl hjn hpl hpe hss hs ho
  cases hbo : bO s id with
  | true =>
    have b1 : Op.bytesLess s.toList id.toList = true := hbo
    have b2 : Op.bytesLess id.toList s.toList = false := bO_asym hbo
    have b3 : (id.toList == s.toList) = false := by
      rw [beq_eq_false_iff_ne]
      intro e
      rw [e] at b1 b2
      rw [b1] at b2
      cases b2
    have b4 : (s.toList == id.toList) = false := by rw [beq_eq_false_iff_ne] at b3 ⊢; exact fun e => b3 e.symm
    clear hbo
    go_enter Tryd.func57, Tryd.ntmps57
    go_wp2
    go_quiet (fail)
    go_wp2
    go_ret
    exact ⟨rfl, (Ext.refl w).drewN nq⟩
  | false =>
    have b1 : Op.bytesLess s.toList id.toList = false := hbo
    have b3 : Op.bytesLess id.toList s.toList = true ∨ (id.toList == s.toList) = true := by
      cases hc : bO id s with
      | true => exact .inl hc
      | false => exact .inr (by rw [bO_tri hbo hc]; simp)
    clear hbo
    go_enter Tryd.func57, Tryd.ntmps57
    go_wp2
    go_quiet (fail)
    go_wp2
    go_ret
    exact ⟨rfl, (Ext.refl w).drewN nq⟩
end
end Go.Proofs.YtngpajaghadhdaaDoor
