/- The reference's ValidName, ValidText. -/
import Derived.Test.YtcdpmgdocgddcaaDoorU8V
import Derived.Test.YtcdpmgdocgddcaaDoorNames
import Derived.Test.YtcdpmgdocgddcaaDoorTag
namespace Go.Proofs.YtcdpmgdocgddcaaDoor
open Go.RowKit
set_option maxRecDepth 100000

section
variable {w : World}
set_option maxHeartbeats 400000 in
theorem small_any (b : Nat) : Calls Tryd.prog 75 #[.int .u8 b] w fun e w' => e = .returned (.bool (decide (97 ≤ b ∧ b ≤ 122))) ∧ w' = w := by
  by_cases h1 : 97 ≤ b
  · have i1 : (97 : Int) ≤ (b : Int) := by omega
    by_cases h2 : b ≤ 122
    · have i2 : (b : Int) ≤ 122 := by omega
      rw [decide_eq_true (show 97 ≤ b ∧ b ≤ 122 from ⟨h1, h2⟩)]
      go_enter Tryd.func75, Tryd.ntmps75
      go_wp2
      go_ret
      exact ⟨rfl, rfl⟩
    · have i2 : ¬ (b : Int) ≤ 122 := by omega
      rw [decide_eq_false (show ¬ (97 ≤ b ∧ b ≤ 122) from fun h => h2 h.2)]
      go_enter Tryd.func75, Tryd.ntmps75
      go_wp2
      go_ret
      exact ⟨rfl, rfl⟩
  · have i1 : ¬ (97 : Int) ≤ (b : Int) := by omega
    rw [decide_eq_false (show ¬ (97 ≤ b ∧ b ≤ 122) from fun h => h1 h.1)]
    go_enter Tryd.func75, Tryd.ntmps75
    go_wp2
    go_ret
    exact ⟨rfl, rfl⟩
set_option maxHeartbeats 400000 in
theorem digit_any (b : Nat) : Calls Tryd.prog 76 #[.int .u8 b] w fun e w' => e = .returned (.bool (decide (48 ≤ b ∧ b ≤ 57))) ∧ w' = w := by
  by_cases h1 : 48 ≤ b
  · have i1 : (48 : Int) ≤ (b : Int) := by omega
    by_cases h2 : b ≤ 57
    · have i2 : (b : Int) ≤ 57 := by omega
      rw [decide_eq_true (show 48 ≤ b ∧ b ≤ 57 from ⟨h1, h2⟩)]
      go_enter Tryd.func76, Tryd.ntmps76
      go_wp2
      go_ret
      exact ⟨rfl, rfl⟩
    · have i2 : ¬ (b : Int) ≤ 57 := by omega
      rw [decide_eq_false (show ¬ (48 ≤ b ∧ b ≤ 57) from fun h => h2 h.2)]
      go_enter Tryd.func76, Tryd.ntmps76
      go_wp2
      go_ret
      exact ⟨rfl, rfl⟩
  · have i1 : ¬ (48 : Int) ≤ (b : Int) := by omega
    rw [decide_eq_false (show ¬ (48 ≤ b ∧ b ≤ 57) from fun h => h1 h.1)]
    go_enter Tryd.func76, Tryd.ntmps76
    go_wp2
    go_ret
    exact ⟨rfl, rfl⟩

set_option maxHeartbeats 3200000 in
theorem refName_any (s : ByteArray) (hs : s.size ≤ 140737488355328) :
    Calls Tryd.prog 77 #[.string s] w fun e w' => e = .returned (.bool (nameL (bys s))) ∧ Ext w w' := by
  have hbl := bys_len s
  by_cases h1 : s.size < 1
  · have i1 : (s.size : Int) < 1 := by omega
    have HF := Lib.hid (show nameL (bys s) = false by unfold nameL; rw [decide_eq_false (by omega), Bool.false_and, Bool.false_and])
    go_enter Tryd.func77, Tryd.ntmps77
    go_wp2
    go_ret
    exact ⟨by rw [HF.out]; rfl, Ext.refl _⟩
  have i1 : ¬ (s.size : Int) < 1 := by omega
  by_cases h2 : 40 < s.size
  · have i2 : (40 : Int) < (s.size : Int) := by omega
    have HF := Lib.hid (show nameL (bys s) = false by unfold nameL; rw [decide_eq_false (show ¬ (bys s).length ≤ 40 by omega), Bool.and_false, Bool.false_and])
    go_enter Tryd.func77, Tryd.ntmps77
    go_wp2
    go_ret
    exact ⟨by rw [HF.out]; rfl, Ext.refl _⟩
  have i2 : ¬ (40 : Int) < (s.size : Int) := by omega
  have h0 : 0 < s.size := by omega
  have h0i : (0 : Int) < (s.size : Int) := by omega
  obtain ⟨b, hb⟩ : ∃ b, (s[0]'h0).toNat = b := ⟨_, rfl⟩
  have HN : Hid (nameL (bys s) = okAll 0 (bys s)) := by
    show _ = _
    unfold nameL
    rw [decide_eq_true (by omega), decide_eq_true (by omega), Bool.true_and, Bool.true_and]
  have hb2 : ((bys s)[0]'(by omega)).toNat = b := hb
  by_cases h3 : 97 ≤ b ∧ b ≤ 122
  · have H3 := Lib.hid (decide_eq_true h3)
    have HC0 := Lib.hid (okAll_step (l := bys s) (k := 0) (by omega) (by rw [hb2]; unfold okN; exact decide_eq_true (.inl h3)))
    clear h3 hb2 hbl
    go_enter Tryd.func77, Tryd.ntmps77
    go_wp2_with (first
      | (go_at_call 75; refine Hid.out ?_))
    refine Hid.mk_ ((small_any b).mono ?_)
    rintro e w2 ⟨rfl, rfl⟩
    rw [H3.out]
    go_wp2
    go_loopw [3] (fun i wr => ∃ q : Nat, 1 ≤ q ∧ q ≤ s.size ∧ i = .int .i64 q ∧ Ext w2 wr ∧ Hid (okAll 0 (bys s) = okAll q ((bys s).drop q))) (fun i _ => s.size - (intOf i).toNat)
    case atStart => exact ⟨1, Nat.le_refl _, by omega, rfl, Ext.refl _, Lib.hid (by have := HC0.out; rw [List.drop_zero] at this; exact this)⟩
    case round =>
      obtain ⟨q, hq1, hq, rfl, hE, HC⟩ := hrel
      by_cases hqs : q < s.size
      · have hqi : (q : Int) < (s.size : Int) := by omega
        obtain ⟨t, ht⟩ : ∃ t, (s[q]'hqs).toNat = t := ⟨_, rfl⟩
        have HB : Hid (((bys s)[q]'(by rw [bys_len]; exact hqs)).toNat = t) := ht
        by_cases c1 : 97 ≤ t ∧ t ≤ 122
        · have H1 := Lib.hid (decide_eq_true c1)
          have HG := Lib.hid (okAll_step (l := bys s) (k := q) (by rw [bys_len]; exact hqs) (by rw [HB.out]; unfold okN; apply decide_eq_true; omega))
          clear c1
          go_wp2_with (first
            | (go_at_call 75; refine Hid.out ?_))
          refine Hid.mk_ ((small_any t).mono ?_)
          rintro e w3 ⟨rfl, rfl⟩
          rw [H1.out]
          go_wp2
          go_roundw
          case rel => exact ⟨q + 1, by omega, by omega, by go_num, hE, by show okAll 0 _ = _; rw [HC.out, HG.out]⟩
          case measure => simp [intOf]; omega
        have H1 := Lib.hid (decide_eq_false c1)
        by_cases c2 : 48 ≤ t ∧ t ≤ 57
        · have H2 := Lib.hid (decide_eq_true c2)
          have HG := Lib.hid (okAll_step (l := bys s) (k := q) (by rw [bys_len]; exact hqs) (by rw [HB.out]; unfold okN; apply decide_eq_true; omega))
          clear c1 c2
          go_wp2_with (first
            | (go_at_call 75; refine Hid.out ?_))
          refine Hid.mk_ ((small_any t).mono ?_)
          rintro e w3 ⟨rfl, rfl⟩
          rw [H1.out]
          go_wp2_with (first
            | (go_at_call 76; refine Hid.out ?_))
          refine Hid.mk_ ((digit_any t).mono ?_)
          rintro e w4 ⟨rfl, rfl⟩
          rw [H2.out]
          go_wp2
          go_roundw
          case rel => exact ⟨q + 1, by omega, by omega, by go_num, hE, by show okAll 0 _ = _; rw [HC.out, HG.out]⟩
          case measure => simp [intOf]; omega
        have H2 := Lib.hid (decide_eq_false c2)
        by_cases c3 : t = 45
        · have e1 : ((t : Int) != 45) = false := by rw [c3]; rfl
          have e2 : ((t : Int) == 45) = true := by rw [c3]; rfl
          have HG := Lib.hid (okAll_step (l := bys s) (k := q) (by rw [bys_len]; exact hqs) (by rw [HB.out]; unfold okN; apply decide_eq_true; omega))
          clear c1 c2 c3
          go_wp2_with (first
            | (go_at_call 75; refine Hid.out ?_))
          refine Hid.mk_ ((small_any t).mono ?_)
          rintro e w3 ⟨rfl, rfl⟩
          rw [H1.out]
          go_wp2_with (first
            | (go_at_call 76; refine Hid.out ?_))
          refine Hid.mk_ ((digit_any t).mono ?_)
          rintro e w4 ⟨rfl, rfl⟩
          rw [H2.out]
          go_wp2
          go_roundw
          case rel => exact ⟨q + 1, by omega, by omega, by go_num, hE, by show okAll 0 _ = _; rw [HC.out, HG.out]⟩
          case measure => simp [intOf]; omega
        have e1 : ((t : Int) != 45) = true := by simp only [bne_iff_ne, ne_eq]; omega
        have e2 : ((t : Int) == 45) = false := by rw [beq_eq_false_iff_ne]; omega
        by_cases c4 : t = 95
        · have e3 : ((t : Int) != 95) = false := by rw [c4]; rfl
          have e4 : ((t : Int) == 95) = true := by rw [c4]; rfl
          have HG := Lib.hid (okAll_step (l := bys s) (k := q) (by rw [bys_len]; exact hqs) (by rw [HB.out]; unfold okN; apply decide_eq_true; omega))
          clear c1 c2 c3 c4
          go_wp2_with (first
            | (go_at_call 75; refine Hid.out ?_))
          refine Hid.mk_ ((small_any t).mono ?_)
          rintro e w3 ⟨rfl, rfl⟩
          rw [H1.out]
          go_wp2_with (first
            | (go_at_call 76; refine Hid.out ?_))
          refine Hid.mk_ ((digit_any t).mono ?_)
          rintro e w4 ⟨rfl, rfl⟩
          rw [H2.out]
          go_wp2
          go_roundw
          case rel => exact ⟨q + 1, by omega, by omega, by go_num, hE, by show okAll 0 _ = _; rw [HC.out, HG.out]⟩
          case measure => simp [intOf]; omega
        have e3 : ((t : Int) != 95) = true := by simp only [bne_iff_ne, ne_eq]; omega
        have e4 : ((t : Int) == 95) = false := by rw [beq_eq_false_iff_ne]; omega
        by_cases c5 : t = 46
        · have e5 : ((t : Int) != 46) = false := by rw [c5]; rfl
          have e6 : ((t : Int) == 46) = true := by rw [c5]; rfl
          have HG := Lib.hid (okAll_step (l := bys s) (k := q) (by rw [bys_len]; exact hqs) (by rw [HB.out]; unfold okN; apply decide_eq_true; omega))
          clear c1 c2 c3 c4 c5
          go_wp2_with (first
            | (go_at_call 75; refine Hid.out ?_))
          refine Hid.mk_ ((small_any t).mono ?_)
          rintro e w3 ⟨rfl, rfl⟩
          rw [H1.out]
          go_wp2_with (first
            | (go_at_call 76; refine Hid.out ?_))
          refine Hid.mk_ ((digit_any t).mono ?_)
          rintro e w4 ⟨rfl, rfl⟩
          rw [H2.out]
          go_wp2
          go_roundw
          case rel => exact ⟨q + 1, by omega, by omega, by go_num, hE, by show okAll 0 _ = _; rw [HC.out, HG.out]⟩
          case measure => simp [intOf]; omega
        have e5 : ((t : Int) != 46) = true := by simp only [bne_iff_ne, ne_eq]; omega
        have e6 : ((t : Int) == 46) = false := by rw [beq_eq_false_iff_ne]; omega
        have HF := Lib.hid (show nameL (bys s) = false by
          unfold nameL
          rw [HC.out, okAll_stop (by rw [bys_len]; exact hqs) (by rw [HB.out]; unfold okN; apply decide_eq_false; omega), Bool.and_false])
        clear c1 c2 c3 c4 c5
        go_wp2_with (first
          | (go_at_call 75; refine Hid.out ?_))
        refine Hid.mk_ ((small_any t).mono ?_)
        rintro e w3 ⟨rfl, rfl⟩
        rw [H1.out]
        go_wp2_with (first
          | (go_at_call 76; refine Hid.out ?_))
        refine Hid.mk_ ((digit_any t).mono ?_)
        rintro e w4 ⟨rfl, rfl⟩
        rw [H2.out]
        go_wp2
        go_ret
        exact ⟨by rw [HF.out]; rfl, hE⟩
      · have hqi : ¬ (q : Int) < (s.size : Int) := by omega
        have HF : Hid (nameL (bys s) = true) := by
          show _ = _
          rw [HN.out, HC.out, List.drop_eq_nil_of_le (by rw [bys_len]; omega)]
          rfl
        go_wp2
        go_ret
        exact ⟨by rw [HF.out]; rfl, hE⟩
  · have H3 := Lib.hid (decide_eq_false h3)
    have HC0 := Lib.hid (okAll_stop (l := bys s) (k := 0) (by omega) (by rw [hb2]; unfold okN; apply decide_eq_false; omega))
    have HF : Hid (nameL (bys s) = false) := by
      show _ = _
      have := HC0.out
      rw [List.drop_zero] at this
      rw [HN.out, this]
    clear h3 hb2 hbl
    go_enter Tryd.func77, Tryd.ntmps77
    go_wp2_with (first
      | (go_at_call 75; refine Hid.out ?_))
    refine Hid.mk_ ((small_any b).mono ?_)
    rintro e w2 ⟨rfl, rfl⟩
    rw [H3.out]
    go_wp2
    go_ret
    exact ⟨by rw [HF.out]; rfl, Ext.refl _⟩

set_option maxHeartbeats 400000 in
theorem refText_any (s : ByteArray) :
    Calls Tryd.prog 57 #[.string s] w fun e w' => e = .returned (.bool (textL (bys s))) ∧ Ext w w' := by
  by_cases h1 : s.size ≤ 4000
  · have h1' : (s.size : Int) ≤ 4000 := by omega
    have hf : textL (bys s) = Lib.validD (bys s) := by unfold textL; rw [bys_len, decide_eq_true h1, Bool.true_and]
    rw [hf]
    clear hf
    go_enter Tryd.func57, Tryd.ntmps57
    go_wp2_with (first
      | (go_at_call 78; refine Hid.out ?_))
    refine Hid.mk_ ((refValid_any s (by omega)).mono ?_)
    rintro e w1 ⟨rfl, hE1⟩
    go_wp2
    go_ret
    exact ⟨rfl, hE1⟩
  · have h1' : ¬ (s.size : Int) ≤ 4000 := by omega
    have hf : textL (bys s) = false := by unfold textL; rw [bys_len, decide_eq_false h1, Bool.false_and]
    rw [hf]
    clear hf
    go_enter Tryd.func57, Tryd.ntmps57
    go_wp2
    go_ret
    exact ⟨rfl, Ext.refl w⟩
end

end Go.Proofs.YtcdpmgdocgddcaaDoor

/- The reference's ValidTag. -/
namespace Go.Proofs.YtcdpmgdocgddcaaDoor
open Go.RowKit
set_option maxRecDepth 100000

section
variable {w : World}
set_option maxHeartbeats 3200000 in
theorem refTag_any (s : ByteArray) (hs : s.size ≤ 140737488355328) :
    Calls Tryd.prog 54 #[.string s] w fun e w' => e = .returned (.bool (tagL (bys s))) ∧ Ext w w' := by
  have hbl := bys_len s
  go_enter Tryd.func54, Tryd.ntmps54
  go_wp2
  go_loopw [3] (fun i wr => ∃ q : Nat, q ≤ s.size ∧ i = .int .i64 q ∧ Ext w wr ∧ Hid ((bys s).all (fun b => okT b.toNat) = ((bys s).drop q).all fun b => okT b.toNat)) (fun i _ => s.size - (intOf i).toNat)
  case atStart => exact ⟨0, by omega, rfl, Ext.refl _, Lib.hid (by rw [List.drop_zero])⟩
  case round =>
    obtain ⟨q, hq, rfl, hE, HC⟩ := hrel
    by_cases hqs : q < s.size
    · have hqi : (q : Int) < (s.size : Int) := by omega
      obtain ⟨t, ht⟩ : ∃ t, (s[q]'hqs).toNat = t := ⟨_, rfl⟩
      have HB : Hid (((bys s)[q]'(by rw [bys_len]; exact hqs)).toNat = t) := ht
      by_cases c1 : 97 ≤ t ∧ t ≤ 122
      · have H1 := Lib.hid (decide_eq_true c1)
        have HG := Lib.hid (okT_step (l := bys s) (k := q) (by rw [bys_len]; exact hqs) (by rw [HB.out]; unfold okT; apply decide_eq_true; omega))
        clear c1 hbl
        go_wp2_with (first
          | (go_at_call 75; refine Hid.out ?_))
        refine Hid.mk_ ((small_any t).mono ?_)
        rintro e w3 ⟨rfl, rfl⟩
        rw [H1.out]
        go_wp2
        go_roundw
        case rel => exact ⟨q + 1, by omega, by go_num, hE, by show (bys s).all _ = _; rw [HC.out, HG.out]⟩
        case measure => simp [intOf]; omega
      have H1 := Lib.hid (decide_eq_false c1)
      by_cases c2 : 48 ≤ t ∧ t ≤ 57
      · have H2 := Lib.hid (decide_eq_true c2)
        have HG := Lib.hid (okT_step (l := bys s) (k := q) (by rw [bys_len]; exact hqs) (by rw [HB.out]; unfold okT; apply decide_eq_true; omega))
        clear c1 c2 hbl
        go_wp2_with (first
          | (go_at_call 75; refine Hid.out ?_))
        refine Hid.mk_ ((small_any t).mono ?_)
        rintro e w3 ⟨rfl, rfl⟩
        rw [H1.out]
        go_wp2_with (first
          | (go_at_call 76; refine Hid.out ?_))
        refine Hid.mk_ ((digit_any t).mono ?_)
        rintro e w4 ⟨rfl, rfl⟩
        rw [H2.out]
        go_wp2
        go_roundw
        case rel => exact ⟨q + 1, by omega, by go_num, hE, by show (bys s).all _ = _; rw [HC.out, HG.out]⟩
        case measure => simp [intOf]; omega
      have H2 := Lib.hid (decide_eq_false c2)
      by_cases c3 : t = 45
      · have e1 : ((t : Int) != 45) = false := by rw [c3]; rfl
        have e2 : ((t : Int) == 45) = true := by rw [c3]; rfl
        have HG := Lib.hid (okT_step (l := bys s) (k := q) (by rw [bys_len]; exact hqs) (by rw [HB.out]; unfold okT; apply decide_eq_true; omega))
        clear c1 c2 c3 hbl
        go_wp2_with (first
          | (go_at_call 75; refine Hid.out ?_))
        refine Hid.mk_ ((small_any t).mono ?_)
        rintro e w3 ⟨rfl, rfl⟩
        rw [H1.out]
        go_wp2_with (first
          | (go_at_call 76; refine Hid.out ?_))
        refine Hid.mk_ ((digit_any t).mono ?_)
        rintro e w4 ⟨rfl, rfl⟩
        rw [H2.out]
        go_wp2
        go_roundw
        case rel => exact ⟨q + 1, by omega, by go_num, hE, by show (bys s).all _ = _; rw [HC.out, HG.out]⟩
        case measure => simp [intOf]; omega
      have e1 : ((t : Int) != 45) = true := by simp only [bne_iff_ne, ne_eq]; omega
      have e2 : ((t : Int) == 45) = false := by rw [beq_eq_false_iff_ne]; omega
      by_cases c4 : t < 65
      · have d1 : (t : Int) < 65 := by omega
        have HF : Hid (tagL (bys s) = false) := by
          show _ = _
          unfold tagL
          rw [HC.out, okT_stop (by rw [bys_len]; exact hqs) (by rw [HB.out]; unfold okT; apply decide_eq_false; omega), Bool.and_false]
        clear c1 c2 c3 c4 hbl
        go_wp2_with (first
          | (go_at_call 75; refine Hid.out ?_))
        refine Hid.mk_ ((small_any t).mono ?_)
        rintro e w3 ⟨rfl, rfl⟩
        rw [H1.out]
        go_wp2_with (first
          | (go_at_call 76; refine Hid.out ?_))
        refine Hid.mk_ ((digit_any t).mono ?_)
        rintro e w4 ⟨rfl, rfl⟩
        rw [H2.out]
        go_wp2
        go_ret
        exact ⟨by rw [HF.out]; rfl, hE⟩
      have d1 : ¬ (t : Int) < 65 := by omega
      by_cases c5 : t ≤ 90
      · have d2 : ¬ (90 : Int) < (t : Int) := by omega
        have HG := Lib.hid (okT_step (l := bys s) (k := q) (by rw [bys_len]; exact hqs) (by rw [HB.out]; unfold okT; apply decide_eq_true; omega))
        clear c1 c2 c3 c4 c5 hbl
        go_wp2_with (first
          | (go_at_call 75; refine Hid.out ?_))
        refine Hid.mk_ ((small_any t).mono ?_)
        rintro e w3 ⟨rfl, rfl⟩
        rw [H1.out]
        go_wp2_with (first
          | (go_at_call 76; refine Hid.out ?_))
        refine Hid.mk_ ((digit_any t).mono ?_)
        rintro e w4 ⟨rfl, rfl⟩
        rw [H2.out]
        go_wp2
        go_roundw
        case rel => exact ⟨q + 1, by omega, by go_num, hE, by show (bys s).all _ = _; rw [HC.out, HG.out]⟩
        case measure => simp [intOf]; omega
      have d2 : (90 : Int) < (t : Int) := by omega
      have HF : Hid (tagL (bys s) = false) := by
        show _ = _
        unfold tagL
        rw [HC.out, okT_stop (by rw [bys_len]; exact hqs) (by rw [HB.out]; unfold okT; apply decide_eq_false; omega), Bool.and_false]
      clear c1 c2 c3 c4 c5 hbl
      go_wp2_with (first
        | (go_at_call 75; refine Hid.out ?_))
      refine Hid.mk_ ((small_any t).mono ?_)
      rintro e w3 ⟨rfl, rfl⟩
      rw [H1.out]
      go_wp2_with (first
        | (go_at_call 76; refine Hid.out ?_))
      refine Hid.mk_ ((digit_any t).mono ?_)
      rintro e w4 ⟨rfl, rfl⟩
      rw [H2.out]
      go_wp2
      go_ret
      exact ⟨by rw [HF.out]; rfl, hE⟩
    · have hqi : ¬ (q : Int) < (s.size : Int) := by omega
      have HF : Hid (tagL (bys s) = (decide (1 ≤ s.size) && decide (s.size ≤ 40))) := by
        show _ = _
        unfold tagL
        rw [HC.out, List.drop_eq_nil_of_le (by rw [bys_len]; omega), List.all_nil, Bool.and_true, hbl]
      clear hbl
      by_cases h1 : 1 ≤ s.size
      · have h1' : (1 : Int) ≤ (s.size : Int) := by omega
        by_cases h2 : s.size ≤ 40
        · have h2' : (s.size : Int) ≤ 40 := by omega
          go_wp2
          go_ret
          exact ⟨by rw [HF.out, decide_eq_true h1, decide_eq_true h2]; rfl, hE⟩
        · have h2' : ¬ (s.size : Int) ≤ 40 := by omega
          go_wp2
          go_ret
          exact ⟨by rw [HF.out, decide_eq_true h1, decide_eq_false h2]; rfl, hE⟩
      · have h1' : ¬ (1 : Int) ≤ (s.size : Int) := by omega
        go_wp2
        go_ret
        exact ⟨by rw [HF.out, decide_eq_false h1]; rfl, hE⟩
end

end Go.Proofs.YtcdpmgdocgddcaaDoor
