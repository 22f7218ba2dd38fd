/- The reference's ValidTag. -/
import Derived.Test.YtikbjaopcminaaaDoorRNames
import Derived.Test.YtikbjaopcminaaaDoorTag
namespace Go.Proofs.YtikbjaopcminaaaDoor
open Go.RowKit
set_option maxRecDepth 100000

section
variable {w : World}
set_option maxHeartbeats 3200000 in
theorem refTag_any (s : ByteArray) (hs : s.size ≤ 140737488355328) :
    Calls Tryd.prog 16 #[.string s] w fun e w' => e = .returned (.bool (tagL (bys s))) ∧ Ext w w' := by
  have hbl := bys_len s
  go_enter Tryd.func16, Tryd.ntmps16
  go_wp2
  go_loopw [3] (fun i wr => ∃ q : Nat, q ≤ s.size ∧ i = .int .i64 q ∧ Ext w wr ∧ Hid ((bys s).all (fun b => okT b.toNat) = ((bys s).drop q).all fun b => okT b.toNat)) (fun i _ => s.size - (intOf i).toNat)
  case atStart => exact ⟨0, by omega, rfl, Ext.refl _, Lib.hid (by rw [List.drop_zero])⟩
  case round =>
    obtain ⟨q, hq, rfl, hE, HC⟩ := hrel
    by_cases hqs : q < s.size
    · have hqi : (q : Int) < (s.size : Int) := by omega
      obtain ⟨t, ht⟩ : ∃ t, (s[q]'hqs).toNat = t := ⟨_, rfl⟩
      have HB : Hid (((bys s)[q]'(by rw [bys_len]; exact hqs)).toNat = t) := ht
      by_cases c1 : 97 ≤ t ∧ t ≤ 122
      · have H1 := Lib.hid (decide_eq_true c1)
        have HG := Lib.hid (okT_step (l := bys s) (k := q) (by rw [bys_len]; exact hqs) (by rw [HB.out]; unfold okT; apply decide_eq_true; omega))
        clear c1 hbl
        go_wp2_with (first
          | (go_at_call 52; refine Hid.out ?_))
        refine Hid.mk_ ((small_any t).mono ?_)
        rintro e w3 ⟨rfl, rfl⟩
        rw [H1.out]
        go_wp2
        go_roundw
        case rel => exact ⟨q + 1, by omega, by go_num, hE, by show (bys s).all _ = _; rw [HC.out, HG.out]⟩
        case measure => simp [intOf]; omega
      have H1 := Lib.hid (decide_eq_false c1)
      by_cases c2 : 48 ≤ t ∧ t ≤ 57
      · have H2 := Lib.hid (decide_eq_true c2)
        have HG := Lib.hid (okT_step (l := bys s) (k := q) (by rw [bys_len]; exact hqs) (by rw [HB.out]; unfold okT; apply decide_eq_true; omega))
        clear c1 c2 hbl
        go_wp2_with (first
          | (go_at_call 52; refine Hid.out ?_))
        refine Hid.mk_ ((small_any t).mono ?_)
        rintro e w3 ⟨rfl, rfl⟩
        rw [H1.out]
        go_wp2_with (first
          | (go_at_call 53; refine Hid.out ?_))
        refine Hid.mk_ ((digit_any t).mono ?_)
        rintro e w4 ⟨rfl, rfl⟩
        rw [H2.out]
        go_wp2
        go_roundw
        case rel => exact ⟨q + 1, by omega, by go_num, hE, by show (bys s).all _ = _; rw [HC.out, HG.out]⟩
        case measure => simp [intOf]; omega
      have H2 := Lib.hid (decide_eq_false c2)
      by_cases c3 : t = 45
      · have e1 : ((t : Int) != 45) = false := by rw [c3]; rfl
        have e2 : ((t : Int) == 45) = true := by rw [c3]; rfl
        have HG := Lib.hid (okT_step (l := bys s) (k := q) (by rw [bys_len]; exact hqs) (by rw [HB.out]; unfold okT; apply decide_eq_true; omega))
        clear c1 c2 c3 hbl
        go_wp2_with (first
          | (go_at_call 52; refine Hid.out ?_))
        refine Hid.mk_ ((small_any t).mono ?_)
        rintro e w3 ⟨rfl, rfl⟩
        rw [H1.out]
        go_wp2_with (first
          | (go_at_call 53; refine Hid.out ?_))
        refine Hid.mk_ ((digit_any t).mono ?_)
        rintro e w4 ⟨rfl, rfl⟩
        rw [H2.out]
        go_wp2
        go_roundw
        case rel => exact ⟨q + 1, by omega, by go_num, hE, by show (bys s).all _ = _; rw [HC.out, HG.out]⟩
        case measure => simp [intOf]; omega
      have e1 : ((t : Int) != 45) = true := by simp only [bne_iff_ne, ne_eq]; omega
      have e2 : ((t : Int) == 45) = false := by rw [beq_eq_false_iff_ne]; omega
      by_cases c4 : t < 65
      · have d1 : (t : Int) < 65 := by omega
        have HF : Hid (tagL (bys s) = false) := by
          show _ = _
          unfold tagL
          rw [HC.out, okT_stop (by rw [bys_len]; exact hqs) (by rw [HB.out]; unfold okT; apply decide_eq_false; omega), Bool.and_false]
        clear c1 c2 c3 c4 hbl
        go_wp2_with (first
          | (go_at_call 52; refine Hid.out ?_))
        refine Hid.mk_ ((small_any t).mono ?_)
        rintro e w3 ⟨rfl, rfl⟩
        rw [H1.out]
        go_wp2_with (first
          | (go_at_call 53; refine Hid.out ?_))
        refine Hid.mk_ ((digit_any t).mono ?_)
        rintro e w4 ⟨rfl, rfl⟩
        rw [H2.out]
        go_wp2
        go_ret
        exact ⟨by rw [HF.out]; rfl, hE⟩
      have d1 : ¬ (t : Int) < 65 := by omega
      by_cases c5 : t ≤ 90
      · have d2 : ¬ (90 : Int) < (t : Int) := by omega
        have HG := Lib.hid (okT_step (l := bys s) (k := q) (by rw [bys_len]; exact hqs) (by rw [HB.out]; unfold okT; apply decide_eq_true; omega))
        clear c1 c2 c3 c4 c5 hbl
        go_wp2_with (first
          | (go_at_call 52; refine Hid.out ?_))
        refine Hid.mk_ ((small_any t).mono ?_)
        rintro e w3 ⟨rfl, rfl⟩
        rw [H1.out]
        go_wp2_with (first
          | (go_at_call 53; refine Hid.out ?_))
        refine Hid.mk_ ((digit_any t).mono ?_)
        rintro e w4 ⟨rfl, rfl⟩
        rw [H2.out]
        go_wp2
        go_roundw
        case rel => exact ⟨q + 1, by omega, by go_num, hE, by show (bys s).all _ = _; rw [HC.out, HG.out]⟩
        case measure => simp [intOf]; omega
      have d2 : (90 : Int) < (t : Int) := by omega
      have HF : Hid (tagL (bys s) = false) := by
        show _ = _
        unfold tagL
        rw [HC.out, okT_stop (by rw [bys_len]; exact hqs) (by rw [HB.out]; unfold okT; apply decide_eq_false; omega), Bool.and_false]
      clear c1 c2 c3 c4 c5 hbl
      go_wp2_with (first
        | (go_at_call 52; refine Hid.out ?_))
      refine Hid.mk_ ((small_any t).mono ?_)
      rintro e w3 ⟨rfl, rfl⟩
      rw [H1.out]
      go_wp2_with (first
        | (go_at_call 53; refine Hid.out ?_))
      refine Hid.mk_ ((digit_any t).mono ?_)
      rintro e w4 ⟨rfl, rfl⟩
      rw [H2.out]
      go_wp2
      go_ret
      exact ⟨by rw [HF.out]; rfl, hE⟩
    · have hqi : ¬ (q : Int) < (s.size : Int) := by omega
      have HF : Hid (tagL (bys s) = (decide (1 ≤ s.size) && decide (s.size ≤ 40))) := by
        show _ = _
        unfold tagL
        rw [HC.out, List.drop_eq_nil_of_le (by rw [bys_len]; omega), List.all_nil, Bool.and_true, hbl]
      clear hbl
      by_cases h1 : 1 ≤ s.size
      · have h1' : (1 : Int) ≤ (s.size : Int) := by omega
        by_cases h2 : s.size ≤ 40
        · have h2' : (s.size : Int) ≤ 40 := by omega
          go_wp2
          go_ret
          exact ⟨by rw [HF.out, decide_eq_true h1, decide_eq_true h2]; rfl, hE⟩
        · have h2' : ¬ (s.size : Int) ≤ 40 := by omega
          go_wp2
          go_ret
          exact ⟨by rw [HF.out, decide_eq_true h1, decide_eq_false h2]; rfl, hE⟩
      · have h1' : ¬ (1 : Int) ≤ (s.size : Int) := by omega
        go_wp2
        go_ret
        exact ⟨by rw [HF.out, decide_eq_false h1]; rfl, hE⟩
end

end Go.Proofs.YtikbjaopcminaaaDoor
