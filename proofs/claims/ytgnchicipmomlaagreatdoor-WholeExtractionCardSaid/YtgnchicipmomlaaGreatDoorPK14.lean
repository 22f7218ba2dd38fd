/- catalog.ValidTag. -/
import Derived.Test.YtgnchicipmomlaaGreatDoorPK11
namespace Go.Proofs.YtgnchicipmomlaaGreatDoor
open Go.RowKit
set_option maxRecDepth 100000

set_option maxHeartbeats 1600000 in
theorem validTag_any (s : ByteArray) {w : World} (hs : s.size ≤ 140737488355328) :
    Calls Tryz.prog 35 #[.string s] w fun e w' => e = .returned (.bool (tagL (bys s))) ∧ Ext w w' := by
  have hbl := bys_len s
  go_enter Tryz.func35, Tryz.ntmps35
  go_wp2
  go_loopw [] (fun w' => ∃ pos : Nat, w' = w.iter s pos ∧ pos ≤ s.size ∧ ((bys s).all fun b => okT b.toNat) = ((bys s).drop pos).all fun b => okT b.toNat) (fun w' => s.size - w'.iterPos w.heap.size)
  case atStart => exact ⟨0, rfl, by omega, by rw [List.drop_zero]⟩
  case round =>
    obtain ⟨pos, rfl, hle, hc⟩ := hrel
    by_cases hp : pos < s.size
    · have hnx : ∀ ty, (Instr.next (.pointer (some ⟨w.heap.size, 0, none⟩)) true ty).run Tryz.prog (w.iter s pos) = _ := fun ty => run_next_any w s pos ty hp
      by_cases ha : (s[pos]'hp).toNat < 128
      · rw [decode_ascii s pos hp ha] at hnx
        obtain ⟨b, hb⟩ : ∃ b, b = (s[pos]'hp).toNat := ⟨_, rfl⟩
        rw [← hb] at hnx ha
        have hlp : pos < (bys s).length := by omega
        have hbb : b = ((bys s)[pos]).toNat := hb
        have HB := Lib.hid hbb
        have HC := Lib.hid hc
        clear hb hbb hc hbl
        go_wp2
        all_goals first
          | (go_roundw
             case rel =>
               refine ⟨pos + 1, rfl, by omega, ?_⟩
               rw [HC.out]
               refine okT_step hlp ?_
               rw [← HB.out]
               unfold okT
               apply decide_eq_true
               first | omega | (simp only [bne_eq_false_iff_eq] at *; omega) | (simp only [bne_iff_ne] at *; omega)
             case measure => simp; omega)
          | (go_ret
             refine ⟨?_, (Ext.refl w).iter s _⟩
             have hf : ((bys s).drop pos).all (fun b => okT b.toNat) = false := by
               refine okT_stop hlp ?_
               rw [← HB.out]
               unfold okT
               apply decide_eq_false
               first | omega | (simp only [bne_eq_false_iff_eq] at *; omega) | (simp only [bne_iff_ne] at *; omega)
             unfold tagL
             rw [HC.out, hf, Bool.and_false]
             first | done | rfl)
      · obtain ⟨hr1, hr2⟩ := decode_high s pos hp (by omega)
        have hbb : okT ((bys s)[pos]'(by omega)).toNat = false := by
          rw [bys_at s pos hp]
          unfold okT
          apply decide_eq_false
          omega
        have hf := okT_stop (by omega) hbb
        rw [← hc] at hf
        have HF := Lib.hid hf
        obtain ⟨r, hr⟩ : ∃ r, r = (Utf8.decode s pos).1 := ⟨_, rfl⟩
        rw [← hr] at hnx hr1
        clear hr hbb hc hf hbl ha
        have t1 : ((r : Int) == 45) = false := by rw [beq_eq_false_iff_ne]; omega
        have t2 : ((r : Int) != 45) = true := by simp only [bne_iff_ne, ne_eq]; omega
        have t3 : (122 : Int) < (r : Int) := by omega
        have t4 : (90 : Int) < (r : Int) := by omega
        have t5 : (57 : Int) < (r : Int) := by omega
        have t6 : ¬ ((r : Int) < 97) := by omega
        have t7 : ¬ ((r : Int) < 65) := by omega
        have t8 : ¬ ((r : Int) < 48) := by omega
        go_wp2
        all_goals
          go_ret
          refine ⟨?_, (Ext.refl w).iter s _⟩
          unfold tagL
          rw [HF.out, Bool.and_false]
          first | done | rfl
    · have hnx : ∀ ty, (Instr.next (.pointer (some ⟨w.heap.size, 0, none⟩)) true ty).run Tryz.prog (w.iter s pos) = _ := fun ty => run_next_end w s pos ty hp
      have hpe : pos = (bys s).length := by omega
      have hf : tagL (bys s) = (decide (1 ≤ s.size) && decide (s.size ≤ 40)) := by
        unfold tagL
        rw [hc, hpe, List.drop_length, List.all_nil, Bool.and_true, hbl]
      have HF := Lib.hid hf
      clear hf hc hpe hbl hp
      by_cases h1 : 1 ≤ s.size
      · have h1' : (1 : Int) ≤ (s.size : Int) := by omega
        by_cases h2 : s.size ≤ 40
        · have h2' : (s.size : Int) ≤ 40 := by omega
          go_wp2
          go_ret
          refine ⟨?_, (Ext.refl w).iter s _⟩
          rw [HF.out, decide_eq_true h1, decide_eq_true h2]
          first | done | rfl
        · have h2' : ¬ (s.size : Int) ≤ 40 := by omega
          go_wp2
          go_ret
          refine ⟨?_, (Ext.refl w).iter s _⟩
          rw [HF.out, decide_eq_true h1, decide_eq_false h2]
          first | done | rfl
      · have h1' : ¬ (1 : Int) ≤ (s.size : Int) := by omega
        go_wp2
        go_ret
        refine ⟨?_, (Ext.refl w).iter s _⟩
        rw [HF.out, decide_eq_false h1]
        first | done | rfl

end Go.Proofs.YtgnchicipmomlaaGreatDoor
