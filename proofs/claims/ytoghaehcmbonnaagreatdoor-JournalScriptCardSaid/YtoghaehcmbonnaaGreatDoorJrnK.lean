/- The reference's Same of events. -/
import Derived.Test.YtoghaehcmbonnaaGreatDoorJrnJ
namespace Go.Proofs.YtoghaehcmbonnaaGreatDoor
open Go.RowKit
set_option maxRecDepth 100000
attribute [local go_sem] ext_refl_t ext_alloc_t ext_drew_t ext_drewN_t ext_alloc2_t ext_alloc3_t ext_alloc4_t ext_alloc5_t ext_alloc6_t ext_alloc7_t ext_alloc8_t ext_alloc1d_t ext_alloc2d_t ext_alloc3d_t ext_alloc4d_t
section
variable {w : World}
set_option maxHeartbeats 3200000 in
/- For lists that are equal. -/
theorem jsame_eq {A B : Option Addr} {m n : Nat} (c d : Nat) {l : List Ev} (ha : SlC evC 8 w A m l) (hb : SlC evC 8 w B n l) :
    Calls Tryz.prog 10 #[.slice A m c, .slice B n d] w fun e w' => e = .returned (.bool true) ∧ Ext w w' := by
  have HL := Lib.hid ha.len
  obtain rfl : n = m := by rw [ha.len, hb.len]
  have hml6 := ha.le
  go_enter Tryz.func10, Tryz.ntmps10
  go_wp2
  go_loopw [5] (fun i wr => ∃ q : Nat, q ≤ n ∧ i = .int .i64 q ∧ Hid (Ext w wr)) (fun i _ => n - (intOf i).toNat)
  case atStart => exact ⟨0, Nat.zero_le _, rfl, Ext.refl _⟩
  case round =>
    obtain ⟨q, hq, rfl, HE⟩ := hrel
    by_cases hlt : q < n
    · obtain ⟨bq, off, eA, _, hcs⟩ := (ha.ext HE.out).at_ hlt (by omega)
      obtain ⟨br, ofr, eB, _, hct⟩ := (hb.ext HE.out).at_ hlt (by omega)
      subst eA eB
      have hlt1 : q < l.length := by rw [← HL.out]; exact hlt
      obtain ⟨x, hx⟩ : ∃ x, x = l[q] := ⟨_, rfl⟩
      have x0 := hcs q hlt1 0 (by omega)
      have x1 := hcs q hlt1 1 (by omega)
      have x2 := hcs q hlt1 2 (by omega)
      have x3 := hcs q hlt1 3 (by omega)
      have x4 := hcs q hlt1 4 (by omega)
      have x5 := hcs q hlt1 5 (by omega)
      have x6 := hcs q hlt1 6 (by omega)
      have x7 := hcs q hlt1 7 (by omega)
      have y0 := hct q hlt1 0 (by omega)
      have y1 := hct q hlt1 1 (by omega)
      have y2 := hct q hlt1 2 (by omega)
      have y3 := hct q hlt1 3 (by omega)
      have y4 := hct q hlt1 4 (by omega)
      have y5 := hct q hlt1 5 (by omega)
      have y6 := hct q hlt1 6 (by omega)
      have y7 := hct q hlt1 7 (by omega)
      simp only [← hx, evC, List.getElem_cons_zero, List.getElem_cons_succ, Nat.add_zero, ← Nat.add_assoc] at x0 x1 x2 x3 x4 x5 x6 x7 y0 y1 y2 y3 y4 y5 y6 y7
      have hi1 : (q : Int) < (n : Int) := by omega
      clear hcs hct hx
      have HE2 : Hid (∀ k, Ext w (wr.drewN k)) := fun k => HE.out.drewN k
      go_upto_region 6 with fail
      go_quiet (fail)
      go_wp2
      go_roundw
      case rel =>
        first
        | exact ⟨q + 1, by omega, by go_num, HE2.out _⟩
        | (repeat apply Exists.intro
           refine ⟨?rl, ?fr⟩
           case fr => exact rfl
           case rl => exact ⟨q + 1, by omega, by go_num, HE2.out _⟩)
      case measure => simp [intOf]; omega
    · have hi1 : ¬ (q : Int) < (n : Int) := by omega
      go_wp2
      go_ret
      exact ⟨rfl, HE.out⟩
end
end Go.Proofs.YtoghaehcmbonnaaGreatDoor
