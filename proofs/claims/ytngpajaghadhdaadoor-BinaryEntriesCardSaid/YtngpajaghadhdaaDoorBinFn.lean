/- sort.Search at Find's closure. -/
import Derived.Test.YtngpajaghadhdaaDoorBinFs
namespace Go.Proofs.YtngpajaghadhdaaDoor
open Go.RowKit
set_option maxRecDepth 100000
attribute [local go_sem] ext_refl_t ext_alloc_t ext_drew_t ext_drewN_t ext_alloc2_t ext_alloc3_t ext_alloc4_t ext_alloc5_t ext_alloc6_t ext_alloc7_t ext_alloc8_t ext_alloc1d_t ext_alloc2d_t ext_alloc3d_t ext_alloc4d_t
section
variable {w : World}
set_option maxHeartbeats 6400000 in
theorem search_any {A B : Option Addr} {m c n d : Nat} {es : List Ent} (hs : SlC entC 7 w A m es) (ho : SlC natF 1 w B n (sortE (es.map Ent.p))) (hn : n ≤ 1000) {gx gl gi : Nat} {id : ByteArray} (hb : w.cell? ⟨gx, 3, none⟩ = some (.slice A m c)) (hl : w.cell? ⟨gl, 0, none⟩ = some (.slice B n d)) (hi : w.cell? ⟨gi, 0, none⟩ = some (.string id)) (clo : Value) (hclo : clo = .func (.func 57) #[] #[.pointer (some ⟨gx, 0, none⟩), .pointer (some ⟨gl, 0, none⟩), .pointer (some ⟨gi, 0, none⟩)]) :
    Calls Tryd.prog 56 #[.int .i64 (n : Int), clo] w fun e w' => (∃ k : Nat, e = .returned (.int .i64 k) ∧ Border (es.map Ent.p) id k) ∧ Ext w w' := by
  subst hclo
  have HN : Hid (n = (sortE (es.map Ent.p)).length) := ho.len
  go_enter Tryd.func56, Tryd.ntmps56
  go_wp2
  go_loopw [5, 6, 7] (fun i j _ wr => ∃ (p q : Nat), p ≤ q ∧ q ≤ n ∧ i = .int .i64 p ∧ j = .int .i64 q ∧ Hid (0 < p → bef (es.map Ent.p) id (p - 1) = true) ∧ Hid (q < n → bef (es.map Ent.p) id q = false) ∧ Ext w wr) (fun i j _ _ => (intOf j).toNat - (intOf i).toNat)
  case atStart => exact ⟨0, n, Nat.zero_le _, Nat.le_refl _, rfl, rfl, fun h => absurd h (by omega), fun h => absurd h (by omega), Ext.refl _⟩
  case round =>
    obtain ⟨p, q, hpq, hqn, rfl, rfl, HP, HQ, hE⟩ := hrel
    by_cases hlt : p < q
    · have hi1 : (p : Int) < (q : Int) := by omega
      obtain ⟨k, hk⟩ : ∃ k, k = (p + q) / 2 := ⟨_, rfl⟩
      have hk1 : p ≤ k := by omega
      have hk2 : k < q := by omega
      have hkI : ((p : Int) + (q : Int)) / 2 = (k : Int) := by omega
      have hkn : k < n := by omega
      have hclo := fclo_any (c := c) (d := d) (hs.ext hE) (ho.ext hE) (later hE hb) (later hE hl) (later hE hi) hkn
      clear hk
      go_wp2_with (first
        | (go_at_call 57; refine Hid.out ?_))
      refine Hid.mk_ (hclo.mono ?_)
      rintro e w2 ⟨rfl, hE2⟩
      have hE02 := hE.trans hE2
      clear hclo hkI
      cases hbf : bef (es.map Ent.p) id k with
      | true =>
        have HP2 : Hid (0 < k + 1 → bef (es.map Ent.p) id (k + 1 - 1) = true) := fun _ => hbf
        clear hbf
        go_wp2
        go_roundw
        case rel => exact ⟨k + 1, q, by omega, hqn, by go_num, rfl, HP2, HQ, hE02⟩
        case measure => simp [intOf]; omega
      | false =>
        have HQ2 : Hid (k < n → bef (es.map Ent.p) id k = false) := fun _ => hbf
        clear hbf
        go_wp2
        go_roundw
        case rel => exact ⟨p, k, by omega, by omega, rfl, rfl, HP, HQ2, hE02⟩
        case measure => simp [intOf]; omega
    · have hi1 : ¬ (p : Int) < (q : Int) := by omega
      have hpe : p = q := by omega
      have HBO : Hid (Border (es.map Ent.p) id p) := ⟨by rw [← HN.out, hpe]; exact hqn, HP.out, fun h => by rw [hpe]; exact HQ.out (by rw [HN.out, ← hpe]; exact h)⟩
      clear hpe
      go_wp2
      go_ret
      exact ⟨⟨p, rfl, HBO.out⟩, hE⟩
end
end Go.Proofs.YtngpajaghadhdaaDoor
