/- The reference's Few at events. -/
import Derived.Test.YtoghaehcmbonnaaGreatDoorJrnJ
import Derived.Test.YtoghaehcmbonnaaGreatDoorRead
namespace Go.Proofs.YtoghaehcmbonnaaGreatDoor
open Go.RowKit
set_option maxRecDepth 100000
attribute [local go_sem] ext_refl_t ext_alloc_t ext_drew_t ext_drewN_t ext_alloc2_t ext_alloc3_t ext_alloc4_t ext_alloc5_t ext_alloc6_t ext_alloc7_t ext_alloc8_t ext_alloc1d_t ext_alloc2d_t ext_alloc3d_t ext_alloc4d_t
def sumE (x : Ev) : Nat := x.who.size + x.name.size + x.id.size + x.text.size
def fewJ (l : List Ev) : Bool := decide (∀ x ∈ l, sumE x ≤ 2000) && decide (l.length ≤ 20)
def StrE (x : Ev) : Prop := x.who.size ≤ 140737488351232 ∧ x.name.size ≤ 140737488351232 ∧ x.id.size ≤ 140737488351232 ∧ x.text.size ≤ 140737488351232
section
variable {w : World}
set_option maxHeartbeats 3200000 in
theorem jfew_any {A : Option Addr} {m : Nat} (c : Nat) {l : List Ev} (hs : SlC evC 8 w A m l) (hg : ∀ x ∈ l, StrE x) :
    Calls Tryz.prog 13 #[.slice A m c] w fun e w' => e = .returned (.bool (fewJ l)) ∧ Ext w w' := by
  have HL := Lib.hid hs.len
  have hml6 := hs.le
  go_enter Tryz.func13, Tryz.ntmps13
  go_wp2
  go_loopw [3] (fun i wr => ∃ q : Nat, q ≤ m ∧ i = .int .i64 q ∧ Hid (∀ x ∈ l.take q, sumE x ≤ 2000) ∧ Hid (Ext w wr)) (fun i _ => m - (intOf i).toNat)
  case atStart => exact ⟨0, Nat.zero_le _, rfl, (fun x hx => by simp at hx), Ext.refl _⟩
  case round =>
    obtain ⟨q, hq, rfl, HALL, HE⟩ := hrel
    by_cases hlt : q < m
    · obtain ⟨bq, off, eA, hbl, hcs⟩ := (hs.ext HE.out).at_ hlt (by omega)
      subst eA
      have hlt1 : q < l.length := by rw [← HL.out]; exact hlt
      obtain ⟨x, hx⟩ : ∃ x, x = l[q] := ⟨_, rfl⟩
      have hgx : StrE x := by rw [hx]; exact hg _ (List.getElem_mem hlt1)
      have HMT : Hid (l.take (q + 1) = l.take q ++ [x]) := by show _ = _; rw [hx, List.take_succ_eq_append_getElem hlt1]
      have HNO : Hid (2000 < sumE x → fewJ l = false) := fun h => by
        unfold fewJ
        rw [decide_eq_false (fun hall => by have := hall l[q] (List.getElem_mem hlt1); rw [← hx] at this; omega), Bool.false_and]
      have x1 := hcs q hlt1 1 (by omega)
      have x2 := hcs q hlt1 2 (by omega)
      have x3 := hcs q hlt1 3 (by omega)
      have x4 := hcs q hlt1 4 (by omega)
      simp only [← hx, evC, List.getElem_cons_zero, List.getElem_cons_succ, ← Nat.add_assoc] at x1 x2 x3 x4
      have hi1 : (q : Int) < (m : Int) := by omega
      clear hcs hx
      obtain ⟨kd, who, nam, id, txt, xa, xb, xt⟩ := x
      obtain ⟨g1, g2, g3, g4⟩ := hgx
      dsimp only at x1 x2 x3 x4 g1 g2 g3 g4
      have hd : sumE ⟨kd, who, nam, id, txt, xa, xb, xt⟩ = who.size + nam.size + id.size + txt.size := rfl
      by_cases h1 : (2000 : Int) < (who.size : Int) + (nam.size : Int) + (id.size : Int) + (txt.size : Int)
      · have h1b : decide ((2000 : Int) < (who.size : Int) + (nam.size : Int) + (id.size : Int) + (txt.size : Int)) = true := decide_eq_true h1
        have HF : Hid (fewJ l = false) := HNO.out (by rw [hd]; omega)
        clear hd HNO HMT
        go_upto_region 4 with fail
        go_quiet (fail)
        go_wp2
        go_ret
        exact ⟨by rw [HF.out]; rfl, HE.out.drewN _⟩
      · have h1b : decide ((2000 : Int) < (who.size : Int) + (nam.size : Int) + (id.size : Int) + (txt.size : Int)) = false := decide_eq_false h1
        have HALL2 : Hid (∀ y ∈ l.take (q + 1), sumE y ≤ 2000) := by
          show ∀ y ∈ _, _
          rw [HMT.out]
          intro y hy
          rcases List.mem_append.1 hy with hy | hy
          · exact HALL.out y hy
          · rw [List.mem_singleton.1 hy, hd]; omega
        have HE2 : Hid (∀ k, Ext w (wr.drewN k)) := fun k => HE.out.drewN k
        clear hd HNO HMT HALL
        go_upto_region 4 with fail
        go_quiet (fail)
        go_wp2
        go_roundw
        case rel =>
          first
          | exact ⟨q + 1, by omega, by go_num, HALL2, HE2.out _⟩
          | (repeat apply Exists.intro
             refine ⟨?rl, ?fr⟩
             case fr => exact rfl
             case rl => exact ⟨q + 1, by omega, by go_num, HALL2, HE2.out _⟩)
        case measure => simp [intOf]; omega
    · have hi1 : ¬ (q : Int) < (m : Int) := by omega
      have hqe : l.take q = l := List.take_of_length_le (by rw [← HL.out]; omega)
      rw [hqe] at HALL
      by_cases h20 : m ≤ 20
      · have h20' : (m : Int) ≤ 20 := by omega
        have HF : Hid (fewJ l = true) := by
          show _ = _
          unfold fewJ
          rw [decide_eq_true HALL.out, decide_eq_true (by rw [← HL.out]; exact h20)]
          rfl
        clear hqe
        go_wp2
        go_ret
        exact ⟨by rw [HF.out]; rfl, HE.out⟩
      · have h20' : ¬ (m : Int) ≤ 20 := by omega
        have HF : Hid (fewJ l = false) := by
          show _ = _
          unfold fewJ
          rw [decide_eq_false (p := l.length ≤ 20) (by rw [← HL.out]; exact h20), Bool.and_false]
        clear hqe
        go_wp2
        go_ret
        exact ⟨by rw [HF.out]; rfl, HE.out⟩
end
end Go.Proofs.YtoghaehcmbonnaaGreatDoor
