/- sort.Search over the order of the entries. -/
import Derived.Test.YtngpajaghadhdaaGreatDoorBinDk
namespace Go.Proofs.YtngpajaghadhdaaGreatDoor
open Go.RowKit
set_option maxRecDepth 100000
attribute [local go_sem] ext_refl_t ext_alloc_t ext_drew_t ext_drewN_t ext_alloc2_t ext_alloc3_t ext_alloc4_t ext_alloc5_t ext_alloc6_t ext_alloc7_t ext_alloc8_t ext_alloc1d_t ext_alloc2d_t ext_alloc3d_t ext_alloc4d_t
/-- Is the j-th ID in order before id? -/
def bef (l : List Ep) (id : ByteArray) (j : Nat) : Bool := bO (idAt l ((sortE l).getD j 0)) id
theorem bef_at {l : List Ep} {id : ByteArray} {j : Nat} (h : j < (sortE l).length) : bef l id j = bO (idAt l (sortE l)[j]) id := by
  unfold bef
  rw [List.getD_eq_getElem?_getD, List.getElem?_eq_getElem h]
  rfl
/-- The border of the search. -/
def Border (l : List Ep) (id : ByteArray) (k : Nat) : Prop := k ≤ (sortE l).length ∧ (0 < k → bef l id (k - 1) = true) ∧ (k < (sortE l).length → bef l id k = false)
theorem Border.find {l : List Ep} (hd : (l.map Ep.id).Nodup) {id : ByteArray} {k : Nat} (h : Border l id k) :
    (∃ h : k < (sortE l).length, idAt l (sortE l)[k] = id) ∨ (∀ x ∈ l, x.id ≠ id) ∧ ∀ h : k < (sortE l).length, idAt l (sortE l)[k] ≠ id := by
  obtain ⟨hk, h1, h2⟩ := h
  refine sort_find hd (fun j hj hjl => ?_) (fun hkl => by rw [← bef_at hkl]; exact h2 hkl) hk
  have hkl : k - 1 < (sortE l).length := by omega
  have h3 := h1 (by omega)
  rw [bef_at hkl] at h3
  rcases Nat.lt_or_ge j (k - 1) with hlt | hge
  · have hs := sortE_strict hd
    rw [List.pairwise_iff_getElem] at hs
    exact bO_trans (hs j (k - 1) hjl hkl hlt) h3
  · have e : j = k - 1 := by omega
    subst e
    exact h3
section
variable {w : World}
set_option maxHeartbeats 3200000 in
theorem fclo_any {A B : Option Addr} {m c n d : Nat} {es : List Ent} (hs : SlC entC 7 w A m es) (ho : SlC natF 1 w B n (sortE (es.map Ent.p))) {gx gl gi : Nat} {id : ByteArray} (hb : w.cell? ⟨gx, 3, none⟩ = some (.slice A m c)) (hl : w.cell? ⟨gl, 0, none⟩ = some (.slice B n d)) (hi : w.cell? ⟨gi, 0, none⟩ = some (.string id)) {j : Nat} (hj : j < n) :
    Calls Tryz.prog 40 #[.int .i64 (j : Int), .pointer (some ⟨gx, 0, none⟩), .pointer (some ⟨gl, 0, none⟩), .pointer (some ⟨gi, 0, none⟩)] w fun e w' => e = .returned (.bool (!bef (es.map Ent.p) id j)) ∧ Ext w w' := by
  have hml : m = es.length := hs.len
  have hnl := ho.len
  have hjn : j < (sortE (es.map Ent.p)).length := by omega
  obtain ⟨b, off, e0, hbl, hcs⟩ := ho.at_ hj (by omega)
  subst e0
  obtain ⟨p, hp⟩ : ∃ p, p = (sortE (es.map Ent.p))[j] := ⟨_, rfl⟩
  have y0 := hcs j hjn 0 (by omega)
  simp only [← hp, natF, List.getElem_cons_zero, Nat.mul_one, Nat.add_zero] at y0
  have hpl : p < (es.map Ent.p).length := by rw [hp]; exact sortE_lt (List.getElem_mem _)
  have hpe : p < es.length := by rw [List.length_map] at hpl; exact hpl
  have hpm : p < m := by omega
  obtain ⟨b2, off2, e0, hbl2, hcs2⟩ := hs.at_ hpm (by omega)
  subst e0
  obtain ⟨x, hx⟩ : ∃ x, x = es[p] := ⟨_, rfl⟩
  have x0 := hcs2 p hpe 0 (by omega)
  simp only [← hx, entC, List.getElem_cons_zero, Nat.add_zero] at x0
  have HB : Hid (bef (es.map Ent.p) id j = bO x.p.id id) := by
    show _ = _
    rw [bef_at hjn, ← hp, idAt_lt hpl]
    simp [hx]
  have i1 : (j : Int) < (n : Int) := by omega
  have i2 : (p : Int) < (m : Int) := by omega
  obtain ⟨s, hss⟩ : ∃ s, s = x.p.id := ⟨_, rfl⟩
  rw [← hss] at x0 HB
  rw [HB.out]
  clear hcs hcs2 hx hp hml hnl hjn hpl hpe hss hs ho
  cases hbo : bO s id with
  | true =>
    have b1 : Op.bytesLess s.toList id.toList = true := hbo
    have b2 : Op.bytesLess id.toList s.toList = false := bO_asym hbo
    have b3 : (id.toList == s.toList) = false := by
      rw [beq_eq_false_iff_ne]
      intro e
      rw [e] at b1 b2
      rw [b1] at b2
      cases b2
    have b4 : (s.toList == id.toList) = false := by rw [beq_eq_false_iff_ne] at b3 ⊢; exact fun e => b3 e.symm
    clear hbo
    go_enter Tryz.func40, Tryz.ntmps40
    go_wp2
    go_quiet (fail)
    go_wp2
    go_ret
    exact ⟨rfl, (Ext.refl w).drewN nq⟩
  | false =>
    have b1 : Op.bytesLess s.toList id.toList = false := hbo
    have b3 : Op.bytesLess id.toList s.toList = true ∨ (id.toList == s.toList) = true := by
      cases hc : bO id s with
      | true => exact .inl hc
      | false => exact .inr (by rw [bO_tri hbo hc]; simp)
    clear hbo
    go_enter Tryz.func40, Tryz.ntmps40
    go_wp2
    go_quiet (fail)
    go_wp2
    go_ret
    exact ⟨rfl, (Ext.refl w).drewN nq⟩
end
end Go.Proofs.YtngpajaghadhdaaGreatDoor

/- sort.Search at Find's closure. -/
namespace Go.Proofs.YtngpajaghadhdaaGreatDoor
open Go.RowKit
set_option maxRecDepth 100000
attribute [local go_sem] ext_refl_t ext_alloc_t ext_drew_t ext_drewN_t ext_alloc2_t ext_alloc3_t ext_alloc4_t ext_alloc5_t ext_alloc6_t ext_alloc7_t ext_alloc8_t ext_alloc1d_t ext_alloc2d_t ext_alloc3d_t ext_alloc4d_t
section
variable {w : World}
set_option maxHeartbeats 6400000 in
theorem search_any {A B : Option Addr} {m c n d : Nat} {es : List Ent} (hs : SlC entC 7 w A m es) (ho : SlC natF 1 w B n (sortE (es.map Ent.p))) (hn : n ≤ 1000) {gx gl gi : Nat} {id : ByteArray} (hb : w.cell? ⟨gx, 3, none⟩ = some (.slice A m c)) (hl : w.cell? ⟨gl, 0, none⟩ = some (.slice B n d)) (hi : w.cell? ⟨gi, 0, none⟩ = some (.string id)) (clo : Value) (hclo : clo = .func (.func 40) #[] #[.pointer (some ⟨gx, 0, none⟩), .pointer (some ⟨gl, 0, none⟩), .pointer (some ⟨gi, 0, none⟩)]) :
    Calls Tryz.prog 39 #[.int .i64 (n : Int), clo] w fun e w' => (∃ k : Nat, e = .returned (.int .i64 k) ∧ Border (es.map Ent.p) id k) ∧ Ext w w' := by
  subst hclo
  have HN : Hid (n = (sortE (es.map Ent.p)).length) := ho.len
  go_enter Tryz.func39, Tryz.ntmps39
  go_wp2
  go_loopw [5, 6, 7] (fun i j _ wr => ∃ (p q : Nat), p ≤ q ∧ q ≤ n ∧ i = .int .i64 p ∧ j = .int .i64 q ∧ Hid (0 < p → bef (es.map Ent.p) id (p - 1) = true) ∧ Hid (q < n → bef (es.map Ent.p) id q = false) ∧ Ext w wr) (fun i j _ _ => (intOf j).toNat - (intOf i).toNat)
  case atStart => exact ⟨0, n, Nat.zero_le _, Nat.le_refl _, rfl, rfl, fun h => absurd h (by omega), fun h => absurd h (by omega), Ext.refl _⟩
  case round =>
    obtain ⟨p, q, hpq, hqn, rfl, rfl, HP, HQ, hE⟩ := hrel
    by_cases hlt : p < q
    · have hi1 : (p : Int) < (q : Int) := by omega
      obtain ⟨k, hk⟩ : ∃ k, k = (p + q) / 2 := ⟨_, rfl⟩
      have hk1 : p ≤ k := by omega
      have hk2 : k < q := by omega
      have hkI : ((p : Int) + (q : Int)) / 2 = (k : Int) := by omega
      have hkn : k < n := by omega
      have hclo := fclo_any (c := c) (d := d) (hs.ext hE) (ho.ext hE) (later hE hb) (later hE hl) (later hE hi) hkn
      clear hk
      go_wp2_with (first
        | (go_at_call 40; refine Hid.out ?_))
      refine Hid.mk_ (hclo.mono ?_)
      rintro e w2 ⟨rfl, hE2⟩
      have hE02 := hE.trans hE2
      clear hclo hkI
      cases hbf : bef (es.map Ent.p) id k with
      | true =>
        have HP2 : Hid (0 < k + 1 → bef (es.map Ent.p) id (k + 1 - 1) = true) := fun _ => hbf
        clear hbf
        go_wp2
        go_roundw
        case rel => exact ⟨k + 1, q, by omega, hqn, by go_num, rfl, HP2, HQ, hE02⟩
        case measure => simp [intOf]; omega
      | false =>
        have HQ2 : Hid (k < n → bef (es.map Ent.p) id k = false) := fun _ => hbf
        clear hbf
        go_wp2
        go_roundw
        case rel => exact ⟨p, k, by omega, by omega, rfl, rfl, HP, HQ2, hE02⟩
        case measure => simp [intOf]; omega
    · have hi1 : ¬ (p : Int) < (q : Int) := by omega
      have hpe : p = q := by omega
      have HBO : Hid (Border (es.map Ent.p) id p) := ⟨by rw [← HN.out, hpe]; exact hqn, HP.out, fun h => by rw [hpe]; exact HQ.out (by rw [HN.out, ← hpe]; exact h)⟩
      clear hpe
      go_wp2
      go_ret
      exact ⟨⟨p, rfl, HBO.out⟩, hE⟩
end
end Go.Proofs.YtngpajaghadhdaaGreatDoor
