/- The reference's one and Escape. -/
import Derived.Test.YtkicjbmljbfojaaDoorEscS
namespace Go.Proofs.YtkicjbmljbfojaaDoor
open Go.RowKit
set_option maxRecDepth 100000

attribute [local go_sem] ext_refl_t ext_alloc_t ext_drew_t ext_drewN_t ext_alloc2_t ext_alloc3_t ext_alloc4_t ext_alloc5_t ext_alloc6_t ext_alloc7_t ext_alloc8_t ext_alloc1d_t ext_alloc2d_t ext_alloc3d_t ext_alloc4d_t
section
variable {w : World}
theorem in_r (s : ByteArray) (b : Nat) (r : Bool) (hs : s.size ≤ 9223372036854775807) (hr : inL b (bys s) = r) : Calls Tryd.prog 18 #[.int .u8 (b : Int), .string s] w fun e w' => e = .returned (.bool r) ∧ w' = w := by
  subst hr
  exact in_any s b hs
set_option maxHeartbeats 1600000 in
theorem one1t (b : Nat) (hb : b < 256) :
    Calls Tryd.prog 24 #[.int .i64 1, .int .u8 (b : Int), .bool true] w fun e w' => e = .returned (.string (str (bsL 1 b true))) ∧ Ext w w' := by
  by_cases h92 : b = 92
  · subst h92
    have hcv : ∀ W : World, (convert 34 9 (.slice (some ⟨W.heap.size, 0, none⟩) 1 1)).run Tryd.prog (W.alloc (.cells #[.int .u8 92] 5)) = .ok (.string (str [92])) (W.alloc (.cells #[.int .u8 92] 5)) := fun W => conv1 W 92 (by omega)
    have hq1 : ((⟨#[92]⟩ : ByteArray)).size + (str [92]).size ≤ 9223372036854775807 := by show 1 + 1 ≤ _; omega
    go_enter Tryd.func24, Tryd.ntmps24
    first
      | (go_wp2
         go_ret
         exact ⟨rfl, (Ext.refl _).alloc _⟩)
      | (skip
         go_wp2_with (first
           | (go_at_call 18; refine Hid.out ?_))
         refine Hid.mk_ ((in_r _ 92 false (by decide) rfl).mono ?_)
         rintro e w1 ⟨rfl, rfl⟩
         go_wp2
         go_ret
         exact ⟨rfl, (Ext.refl _).alloc _⟩)
  by_cases h10 : b = 10
  · subst h10
    have hcv : ∀ W : World, (convert 34 9 (.slice (some ⟨W.heap.size, 0, none⟩) 1 1)).run Tryd.prog (W.alloc (.cells #[.int .u8 10] 5)) = .ok (.string (str [10])) (W.alloc (.cells #[.int .u8 10] 5)) := fun W => conv1 W 10 (by omega)
    have hq1 : ((⟨#[92]⟩ : ByteArray)).size + (str [10]).size ≤ 9223372036854775807 := by show 1 + 1 ≤ _; omega
    go_enter Tryd.func24, Tryd.ntmps24
    first
      | (go_wp2
         go_ret
         exact ⟨rfl, (Ext.refl _).alloc _⟩)
      | (skip
         go_wp2_with (first
           | (go_at_call 18; refine Hid.out ?_))
         refine Hid.mk_ ((in_r _ 10 false (by decide) rfl).mono ?_)
         rintro e w1 ⟨rfl, rfl⟩
         go_wp2
         go_ret
         exact ⟨rfl, (Ext.refl _).alloc _⟩)
  by_cases h13 : b = 13
  · subst h13
    have hcv : ∀ W : World, (convert 34 9 (.slice (some ⟨W.heap.size, 0, none⟩) 1 1)).run Tryd.prog (W.alloc (.cells #[.int .u8 13] 5)) = .ok (.string (str [13])) (W.alloc (.cells #[.int .u8 13] 5)) := fun W => conv1 W 13 (by omega)
    have hq1 : ((⟨#[92]⟩ : ByteArray)).size + (str [13]).size ≤ 9223372036854775807 := by show 1 + 1 ≤ _; omega
    go_enter Tryd.func24, Tryd.ntmps24
    first
      | (go_wp2
         go_ret
         exact ⟨rfl, (Ext.refl _).alloc _⟩)
      | (skip
         go_wp2_with (first
           | (go_at_call 18; refine Hid.out ?_))
         refine Hid.mk_ ((in_r _ 13 false (by decide) rfl).mono ?_)
         rintro e w1 ⟨rfl, rfl⟩
         go_wp2
         go_ret
         exact ⟨rfl, (Ext.refl _).alloc _⟩)
  by_cases h9 : b = 9
  · subst h9
    have hcv : ∀ W : World, (convert 34 9 (.slice (some ⟨W.heap.size, 0, none⟩) 1 1)).run Tryd.prog (W.alloc (.cells #[.int .u8 9] 5)) = .ok (.string (str [9])) (W.alloc (.cells #[.int .u8 9] 5)) := fun W => conv1 W 9 (by omega)
    have hq1 : ((⟨#[92]⟩ : ByteArray)).size + (str [9]).size ≤ 9223372036854775807 := by show 1 + 1 ≤ _; omega
    go_enter Tryd.func24, Tryd.ntmps24
    first
      | (go_wp2
         go_ret
         exact ⟨rfl, (Ext.refl _).alloc _⟩)
      | (skip
         go_wp2_with (first
           | (go_at_call 18; refine Hid.out ?_))
         refine Hid.mk_ ((in_r _ 9 false (by decide) rfl).mono ?_)
         rintro e w1 ⟨rfl, rfl⟩
         go_wp2
         go_ret
         exact ⟨rfl, (Ext.refl _).alloc _⟩)
  by_cases h34 : b = 34
  · subst h34
    have hcv : ∀ W : World, (convert 34 9 (.slice (some ⟨W.heap.size, 0, none⟩) 1 1)).run Tryd.prog (W.alloc (.cells #[.int .u8 34] 5)) = .ok (.string (str [34])) (W.alloc (.cells #[.int .u8 34] 5)) := fun W => conv1 W 34 (by omega)
    have hq1 : ((⟨#[92]⟩ : ByteArray)).size + (str [34]).size ≤ 9223372036854775807 := by show 1 + 1 ≤ _; omega
    go_enter Tryd.func24, Tryd.ntmps24
    first
      | (go_wp2
         go_ret
         exact ⟨rfl, (Ext.refl _).alloc _⟩)
      | (skip
         go_wp2_with (first
           | (go_at_call 18; refine Hid.out ?_))
         refine Hid.mk_ ((in_r _ 34 false (by decide) rfl).mono ?_)
         rintro e w1 ⟨rfl, rfl⟩
         go_wp2
         go_ret
         exact ⟨rfl, (Ext.refl _).alloc _⟩)
  by_cases h32 : b = 32
  · subst h32
    have hcv : ∀ W : World, (convert 34 9 (.slice (some ⟨W.heap.size, 0, none⟩) 1 1)).run Tryd.prog (W.alloc (.cells #[.int .u8 32] 5)) = .ok (.string (str [32])) (W.alloc (.cells #[.int .u8 32] 5)) := fun W => conv1 W 32 (by omega)
    have hq1 : ((⟨#[92]⟩ : ByteArray)).size + (str [32]).size ≤ 9223372036854775807 := by show 1 + 1 ≤ _; omega
    go_enter Tryd.func24, Tryd.ntmps24
    first
      | (go_wp2
         go_ret
         exact ⟨rfl, (Ext.refl _).alloc _⟩)
      | (skip
         go_wp2_with (first
           | (go_at_call 18; refine Hid.out ?_))
         refine Hid.mk_ ((in_r _ 32 false (by decide) rfl).mono ?_)
         rintro e w1 ⟨rfl, rfl⟩
         go_wp2
         go_ret
         exact ⟨rfl, (Ext.refl _).alloc _⟩)
  have t1 : ((b : Int) == 92) = false := by rw [beq_eq_false_iff_ne]; omega
  have t2 : ((b : Int) == 10) = false := by rw [beq_eq_false_iff_ne]; omega
  have t3 : ((b : Int) == 13) = false := by rw [beq_eq_false_iff_ne]; omega
  have t4 : ((b : Int) == 9) = false := by rw [beq_eq_false_iff_ne]; omega
  have t5 : ((b : Int) == 32) = false := by rw [beq_eq_false_iff_ne]; omega
  have t6 : ((b : Int) == 34) = false := by rw [beq_eq_false_iff_ne]; omega
  have hcv : ∀ W : World, (convert 34 9 (.slice (some ⟨W.heap.size, 0, none⟩) 1 1)).run Tryd.prog (W.alloc (.cells #[.int .u8 (b : Int)] 5)) = .ok (.string (str [by_ b])) (W.alloc (.cells #[.int .u8 (b : Int)] 5)) := fun W => conv1 W b hb
  have hq1 : ((⟨#[92]⟩ : ByteArray)).size + (str [by_ b]).size ≤ 9223372036854775807 := by show 1 + 1 ≤ _; omega
  have hbb : (by_ b).toNat = b := by unfold by_; rw [UInt8.toNat_ofNat', Nat.mod_eq_of_lt hb]
  have hown : ownB 1 b true = inL b [61, 58, 35, 33] := by
    have hm2 := all_byte (p := fun b => b == 32 || b == 34 || ownB 1 b true == inL b [61, 58, 35, 33]) (by kernel_rfl) (by_ b)
    rw [hbb, beq_eq_false_iff_ne.2 h32, beq_eq_false_iff_ne.2 h34] at hm2
    simpa using hm2
  cases hm : inL b [61, 58, 35, 33] with
  | true =>
    first
      | (exfalso; simp [inL] at hm <;> omega)
      | (have hs : bsL 1 b true = [92, by_ b] := by
           unfold bsL
           rw [if_neg h92, if_neg h10, if_neg h13, if_neg h9, if_pos (hown.trans hm)]
         have HS := Lib.hid hs
         have HM := Lib.hid hm
         clear hs h92 h10 h13 h9 hbb h32 h34 hown hm
         go_enter Tryd.func24, Tryd.ntmps24
         go_wp2_with (first
           | (go_at_call 18; refine Hid.out ?_))
         refine Hid.mk_ ((in_r (⟨#[61, 58, 35, 33]⟩) b true (by decide) HM.out).mono ?_)
         rintro e w1 ⟨rfl, rfl⟩
         go_wp2
         go_ret
         exact ⟨ret_str (by rw [bys_app, bys_str, bys_str, HS.out]; rfl), (Ext.refl _).alloc _⟩)
  | false =>
    have ho : ownB 1 b true = false := hown.trans hm
    have HM := Lib.hid hm
    by_cases hc : b < 32 ∨ b = 127
    · have hbs : bsL 1 b true = if (1 : Nat) = 3 then 92 :: 117 :: 48 :: 48 :: hex2 b else 92 :: 120 :: hex2 b := by
        unfold bsL
        rw [if_neg h92, if_neg h10, if_neg h13, if_neg h9, ho, show ctl b = true from decide_eq_true hc]
        rfl
      have HS := Lib.hid hbs
      have hd : (b : Int) < 32 ∨ (¬ (b : Int) < 32 ∧ ((b : Int) == 127) = true) := by
        by_cases h : b < 32
        · left; omega
        · right
          refine ⟨by omega, ?_⟩
          rw [beq_iff_eq]; omega
      have hq2 : ((⟨#[92, 120]⟩ : ByteArray)).size + (str (hex2 b)).size ≤ 9223372036854775807 := by show 2 + 2 ≤ _; omega
      have hq4 : ((⟨#[92, 117, 48, 48]⟩ : ByteArray)).size + (str (hex2 b)).size ≤ 9223372036854775807 := by show 4 + 2 ≤ _; omega
      clear hbs hc h92 h10 h13 h9 ho hown hbb h32 h34 hm
      rcases hd with hd | ⟨hd, hd2⟩
      all_goals
        go_enter Tryd.func24, Tryd.ntmps24
        first
          | (skip
             go_wp2_with (first
               | (go_at_call 37; refine Hid.out ?_))
             refine Hid.mk_ ((rhex_any b hb).mono ?_)
             rintro e w2 ⟨rfl, hE2⟩
             go_wp2
             go_ret
             exact ⟨ret_str (by rw [bys_app, bys_str, bys_str, HS.out]; rfl), ((Ext.refl _).alloc _).trans hE2⟩)
          | (skip
             go_wp2_with (first
               | (go_at_call 18; refine Hid.out ?_))
             refine Hid.mk_ ((in_r (⟨#[61, 58, 35, 33]⟩) b false (by decide) HM.out).mono ?_)
             rintro e w1 ⟨rfl, rfl⟩
             go_wp2_with (first
               | (go_at_call 37; refine Hid.out ?_))
             refine Hid.mk_ ((rhex_any b hb).mono ?_)
             rintro e w2 ⟨rfl, hE2⟩
             go_wp2
             go_ret
             exact ⟨ret_str (by rw [bys_app, bys_str, bys_str, HS.out]; rfl), ((Ext.refl _).alloc _).trans hE2⟩)
    · have hbs : bsL 1 b true = [by_ b] := by
        unfold bsL
        rw [if_neg h92, if_neg h10, if_neg h13, if_neg h9, ho, show ctl b = false from decide_eq_false hc]
        rfl
      have HS := Lib.hid hbs
      have hd : ¬ (b : Int) < 32 := by omega
      have hd2 : ((b : Int) == 127) = false := by rw [beq_eq_false_iff_ne]; omega
      clear hbs hc h92 h10 h13 h9 ho hown hbb h32 h34 hm
      go_enter Tryd.func24, Tryd.ntmps24
      first
        | (go_wp2
           go_ret
           exact ⟨by rw [HS.out]; rfl, (Ext.refl _).alloc _⟩)
        | (skip
           go_wp2_with (first
             | (go_at_call 18; refine Hid.out ?_))
           refine Hid.mk_ ((in_r (⟨#[61, 58, 35, 33]⟩) b false (by decide) HM.out).mono ?_)
           rintro e w1 ⟨rfl, rfl⟩
           go_wp2
           go_ret
           exact ⟨by rw [HS.out]; rfl, (Ext.refl _).alloc _⟩)
set_option maxHeartbeats 1600000 in
theorem one1f (b : Nat) (hb : b < 256) :
    Calls Tryd.prog 24 #[.int .i64 1, .int .u8 (b : Int), .bool false] w fun e w' => e = .returned (.string (str (bsL 1 b false))) ∧ Ext w w' := by
  by_cases h92 : b = 92
  · subst h92
    have hcv : ∀ W : World, (convert 34 9 (.slice (some ⟨W.heap.size, 0, none⟩) 1 1)).run Tryd.prog (W.alloc (.cells #[.int .u8 92] 5)) = .ok (.string (str [92])) (W.alloc (.cells #[.int .u8 92] 5)) := fun W => conv1 W 92 (by omega)
    have hq1 : ((⟨#[92]⟩ : ByteArray)).size + (str [92]).size ≤ 9223372036854775807 := by show 1 + 1 ≤ _; omega
    go_enter Tryd.func24, Tryd.ntmps24
    first
      | (go_wp2
         go_ret
         exact ⟨rfl, (Ext.refl _).alloc _⟩)
      | (skip
         go_wp2_with (first
           | (go_at_call 18; refine Hid.out ?_))
         refine Hid.mk_ ((in_r _ 92 false (by decide) rfl).mono ?_)
         rintro e w1 ⟨rfl, rfl⟩
         go_wp2
         go_ret
         exact ⟨rfl, (Ext.refl _).alloc _⟩)
  by_cases h10 : b = 10
  · subst h10
    have hcv : ∀ W : World, (convert 34 9 (.slice (some ⟨W.heap.size, 0, none⟩) 1 1)).run Tryd.prog (W.alloc (.cells #[.int .u8 10] 5)) = .ok (.string (str [10])) (W.alloc (.cells #[.int .u8 10] 5)) := fun W => conv1 W 10 (by omega)
    have hq1 : ((⟨#[92]⟩ : ByteArray)).size + (str [10]).size ≤ 9223372036854775807 := by show 1 + 1 ≤ _; omega
    go_enter Tryd.func24, Tryd.ntmps24
    first
      | (go_wp2
         go_ret
         exact ⟨rfl, (Ext.refl _).alloc _⟩)
      | (skip
         go_wp2_with (first
           | (go_at_call 18; refine Hid.out ?_))
         refine Hid.mk_ ((in_r _ 10 false (by decide) rfl).mono ?_)
         rintro e w1 ⟨rfl, rfl⟩
         go_wp2
         go_ret
         exact ⟨rfl, (Ext.refl _).alloc _⟩)
  by_cases h13 : b = 13
  · subst h13
    have hcv : ∀ W : World, (convert 34 9 (.slice (some ⟨W.heap.size, 0, none⟩) 1 1)).run Tryd.prog (W.alloc (.cells #[.int .u8 13] 5)) = .ok (.string (str [13])) (W.alloc (.cells #[.int .u8 13] 5)) := fun W => conv1 W 13 (by omega)
    have hq1 : ((⟨#[92]⟩ : ByteArray)).size + (str [13]).size ≤ 9223372036854775807 := by show 1 + 1 ≤ _; omega
    go_enter Tryd.func24, Tryd.ntmps24
    first
      | (go_wp2
         go_ret
         exact ⟨rfl, (Ext.refl _).alloc _⟩)
      | (skip
         go_wp2_with (first
           | (go_at_call 18; refine Hid.out ?_))
         refine Hid.mk_ ((in_r _ 13 false (by decide) rfl).mono ?_)
         rintro e w1 ⟨rfl, rfl⟩
         go_wp2
         go_ret
         exact ⟨rfl, (Ext.refl _).alloc _⟩)
  by_cases h9 : b = 9
  · subst h9
    have hcv : ∀ W : World, (convert 34 9 (.slice (some ⟨W.heap.size, 0, none⟩) 1 1)).run Tryd.prog (W.alloc (.cells #[.int .u8 9] 5)) = .ok (.string (str [9])) (W.alloc (.cells #[.int .u8 9] 5)) := fun W => conv1 W 9 (by omega)
    have hq1 : ((⟨#[92]⟩ : ByteArray)).size + (str [9]).size ≤ 9223372036854775807 := by show 1 + 1 ≤ _; omega
    go_enter Tryd.func24, Tryd.ntmps24
    first
      | (go_wp2
         go_ret
         exact ⟨rfl, (Ext.refl _).alloc _⟩)
      | (skip
         go_wp2_with (first
           | (go_at_call 18; refine Hid.out ?_))
         refine Hid.mk_ ((in_r _ 9 false (by decide) rfl).mono ?_)
         rintro e w1 ⟨rfl, rfl⟩
         go_wp2
         go_ret
         exact ⟨rfl, (Ext.refl _).alloc _⟩)
  by_cases h34 : b = 34
  · subst h34
    have hcv : ∀ W : World, (convert 34 9 (.slice (some ⟨W.heap.size, 0, none⟩) 1 1)).run Tryd.prog (W.alloc (.cells #[.int .u8 34] 5)) = .ok (.string (str [34])) (W.alloc (.cells #[.int .u8 34] 5)) := fun W => conv1 W 34 (by omega)
    have hq1 : ((⟨#[92]⟩ : ByteArray)).size + (str [34]).size ≤ 9223372036854775807 := by show 1 + 1 ≤ _; omega
    go_enter Tryd.func24, Tryd.ntmps24
    first
      | (go_wp2
         go_ret
         exact ⟨rfl, (Ext.refl _).alloc _⟩)
      | (skip
         go_wp2_with (first
           | (go_at_call 18; refine Hid.out ?_))
         refine Hid.mk_ ((in_r _ 34 false (by decide) rfl).mono ?_)
         rintro e w1 ⟨rfl, rfl⟩
         go_wp2
         go_ret
         exact ⟨rfl, (Ext.refl _).alloc _⟩)
  by_cases h32 : b = 32
  · subst h32
    have hcv : ∀ W : World, (convert 34 9 (.slice (some ⟨W.heap.size, 0, none⟩) 1 1)).run Tryd.prog (W.alloc (.cells #[.int .u8 32] 5)) = .ok (.string (str [32])) (W.alloc (.cells #[.int .u8 32] 5)) := fun W => conv1 W 32 (by omega)
    have hq1 : ((⟨#[92]⟩ : ByteArray)).size + (str [32]).size ≤ 9223372036854775807 := by show 1 + 1 ≤ _; omega
    go_enter Tryd.func24, Tryd.ntmps24
    first
      | (go_wp2
         go_ret
         exact ⟨rfl, (Ext.refl _).alloc _⟩)
      | (skip
         go_wp2_with (first
           | (go_at_call 18; refine Hid.out ?_))
         refine Hid.mk_ ((in_r _ 32 false (by decide) rfl).mono ?_)
         rintro e w1 ⟨rfl, rfl⟩
         go_wp2
         go_ret
         exact ⟨rfl, (Ext.refl _).alloc _⟩)
  have t1 : ((b : Int) == 92) = false := by rw [beq_eq_false_iff_ne]; omega
  have t2 : ((b : Int) == 10) = false := by rw [beq_eq_false_iff_ne]; omega
  have t3 : ((b : Int) == 13) = false := by rw [beq_eq_false_iff_ne]; omega
  have t4 : ((b : Int) == 9) = false := by rw [beq_eq_false_iff_ne]; omega
  have t5 : ((b : Int) == 32) = false := by rw [beq_eq_false_iff_ne]; omega
  have t6 : ((b : Int) == 34) = false := by rw [beq_eq_false_iff_ne]; omega
  have hcv : ∀ W : World, (convert 34 9 (.slice (some ⟨W.heap.size, 0, none⟩) 1 1)).run Tryd.prog (W.alloc (.cells #[.int .u8 (b : Int)] 5)) = .ok (.string (str [by_ b])) (W.alloc (.cells #[.int .u8 (b : Int)] 5)) := fun W => conv1 W b hb
  have hq1 : ((⟨#[92]⟩ : ByteArray)).size + (str [by_ b]).size ≤ 9223372036854775807 := by show 1 + 1 ≤ _; omega
  have hbb : (by_ b).toNat = b := by unfold by_; rw [UInt8.toNat_ofNat', Nat.mod_eq_of_lt hb]
  have hown : ownB 1 b false = inL b [61, 58, 35, 33] := by
    have hm2 := all_byte (p := fun b => b == 32 || b == 34 || ownB 1 b false == inL b [61, 58, 35, 33]) (by kernel_rfl) (by_ b)
    rw [hbb, beq_eq_false_iff_ne.2 h32, beq_eq_false_iff_ne.2 h34] at hm2
    simpa using hm2
  cases hm : inL b [61, 58, 35, 33] with
  | true =>
    first
      | (exfalso; simp [inL] at hm <;> omega)
      | (have hs : bsL 1 b false = [92, by_ b] := by
           unfold bsL
           rw [if_neg h92, if_neg h10, if_neg h13, if_neg h9, if_pos (hown.trans hm)]
         have HS := Lib.hid hs
         have HM := Lib.hid hm
         clear hs h92 h10 h13 h9 hbb h32 h34 hown hm
         go_enter Tryd.func24, Tryd.ntmps24
         go_wp2_with (first
           | (go_at_call 18; refine Hid.out ?_))
         refine Hid.mk_ ((in_r (⟨#[61, 58, 35, 33]⟩) b true (by decide) HM.out).mono ?_)
         rintro e w1 ⟨rfl, rfl⟩
         go_wp2
         go_ret
         exact ⟨ret_str (by rw [bys_app, bys_str, bys_str, HS.out]; rfl), (Ext.refl _).alloc _⟩)
  | false =>
    have ho : ownB 1 b false = false := hown.trans hm
    have HM := Lib.hid hm
    by_cases hc : b < 32 ∨ b = 127
    · have hbs : bsL 1 b false = if (1 : Nat) = 3 then 92 :: 117 :: 48 :: 48 :: hex2 b else 92 :: 120 :: hex2 b := by
        unfold bsL
        rw [if_neg h92, if_neg h10, if_neg h13, if_neg h9, ho, show ctl b = true from decide_eq_true hc]
        rfl
      have HS := Lib.hid hbs
      have hd : (b : Int) < 32 ∨ (¬ (b : Int) < 32 ∧ ((b : Int) == 127) = true) := by
        by_cases h : b < 32
        · left; omega
        · right
          refine ⟨by omega, ?_⟩
          rw [beq_iff_eq]; omega
      have hq2 : ((⟨#[92, 120]⟩ : ByteArray)).size + (str (hex2 b)).size ≤ 9223372036854775807 := by show 2 + 2 ≤ _; omega
      have hq4 : ((⟨#[92, 117, 48, 48]⟩ : ByteArray)).size + (str (hex2 b)).size ≤ 9223372036854775807 := by show 4 + 2 ≤ _; omega
      clear hbs hc h92 h10 h13 h9 ho hown hbb h32 h34 hm
      rcases hd with hd | ⟨hd, hd2⟩
      all_goals
        go_enter Tryd.func24, Tryd.ntmps24
        first
          | (skip
             go_wp2_with (first
               | (go_at_call 37; refine Hid.out ?_))
             refine Hid.mk_ ((rhex_any b hb).mono ?_)
             rintro e w2 ⟨rfl, hE2⟩
             go_wp2
             go_ret
             exact ⟨ret_str (by rw [bys_app, bys_str, bys_str, HS.out]; rfl), ((Ext.refl _).alloc _).trans hE2⟩)
          | (skip
             go_wp2_with (first
               | (go_at_call 18; refine Hid.out ?_))
             refine Hid.mk_ ((in_r (⟨#[61, 58, 35, 33]⟩) b false (by decide) HM.out).mono ?_)
             rintro e w1 ⟨rfl, rfl⟩
             go_wp2_with (first
               | (go_at_call 37; refine Hid.out ?_))
             refine Hid.mk_ ((rhex_any b hb).mono ?_)
             rintro e w2 ⟨rfl, hE2⟩
             go_wp2
             go_ret
             exact ⟨ret_str (by rw [bys_app, bys_str, bys_str, HS.out]; rfl), ((Ext.refl _).alloc _).trans hE2⟩)
    · have hbs : bsL 1 b false = [by_ b] := by
        unfold bsL
        rw [if_neg h92, if_neg h10, if_neg h13, if_neg h9, ho, show ctl b = false from decide_eq_false hc]
        rfl
      have HS := Lib.hid hbs
      have hd : ¬ (b : Int) < 32 := by omega
      have hd2 : ((b : Int) == 127) = false := by rw [beq_eq_false_iff_ne]; omega
      clear hbs hc h92 h10 h13 h9 ho hown hbb h32 h34 hm
      go_enter Tryd.func24, Tryd.ntmps24
      first
        | (go_wp2
           go_ret
           exact ⟨by rw [HS.out]; rfl, (Ext.refl _).alloc _⟩)
        | (skip
           go_wp2_with (first
             | (go_at_call 18; refine Hid.out ?_))
           refine Hid.mk_ ((in_r (⟨#[61, 58, 35, 33]⟩) b false (by decide) HM.out).mono ?_)
           rintro e w1 ⟨rfl, rfl⟩
           go_wp2
           go_ret
           exact ⟨by rw [HS.out]; rfl, (Ext.refl _).alloc _⟩)
set_option maxHeartbeats 1600000 in
theorem one2t (b : Nat) (hb : b < 256) :
    Calls Tryd.prog 24 #[.int .i64 2, .int .u8 (b : Int), .bool true] w fun e w' => e = .returned (.string (str (bsL 2 b true))) ∧ Ext w w' := by
  by_cases h92 : b = 92
  · subst h92
    have hcv : ∀ W : World, (convert 34 9 (.slice (some ⟨W.heap.size, 0, none⟩) 1 1)).run Tryd.prog (W.alloc (.cells #[.int .u8 92] 5)) = .ok (.string (str [92])) (W.alloc (.cells #[.int .u8 92] 5)) := fun W => conv1 W 92 (by omega)
    have hq1 : ((⟨#[92]⟩ : ByteArray)).size + (str [92]).size ≤ 9223372036854775807 := by show 1 + 1 ≤ _; omega
    go_enter Tryd.func24, Tryd.ntmps24
    first
      | (go_wp2
         go_ret
         exact ⟨rfl, (Ext.refl _).alloc _⟩)
      | (skip
         go_wp2_with (first
           | (go_at_call 18; refine Hid.out ?_))
         refine Hid.mk_ ((in_r _ 92 false (by decide) rfl).mono ?_)
         rintro e w1 ⟨rfl, rfl⟩
         go_wp2
         go_ret
         exact ⟨rfl, (Ext.refl _).alloc _⟩)
  by_cases h10 : b = 10
  · subst h10
    have hcv : ∀ W : World, (convert 34 9 (.slice (some ⟨W.heap.size, 0, none⟩) 1 1)).run Tryd.prog (W.alloc (.cells #[.int .u8 10] 5)) = .ok (.string (str [10])) (W.alloc (.cells #[.int .u8 10] 5)) := fun W => conv1 W 10 (by omega)
    have hq1 : ((⟨#[92]⟩ : ByteArray)).size + (str [10]).size ≤ 9223372036854775807 := by show 1 + 1 ≤ _; omega
    go_enter Tryd.func24, Tryd.ntmps24
    first
      | (go_wp2
         go_ret
         exact ⟨rfl, (Ext.refl _).alloc _⟩)
      | (skip
         go_wp2_with (first
           | (go_at_call 18; refine Hid.out ?_))
         refine Hid.mk_ ((in_r _ 10 false (by decide) rfl).mono ?_)
         rintro e w1 ⟨rfl, rfl⟩
         go_wp2
         go_ret
         exact ⟨rfl, (Ext.refl _).alloc _⟩)
  by_cases h13 : b = 13
  · subst h13
    have hcv : ∀ W : World, (convert 34 9 (.slice (some ⟨W.heap.size, 0, none⟩) 1 1)).run Tryd.prog (W.alloc (.cells #[.int .u8 13] 5)) = .ok (.string (str [13])) (W.alloc (.cells #[.int .u8 13] 5)) := fun W => conv1 W 13 (by omega)
    have hq1 : ((⟨#[92]⟩ : ByteArray)).size + (str [13]).size ≤ 9223372036854775807 := by show 1 + 1 ≤ _; omega
    go_enter Tryd.func24, Tryd.ntmps24
    first
      | (go_wp2
         go_ret
         exact ⟨rfl, (Ext.refl _).alloc _⟩)
      | (skip
         go_wp2_with (first
           | (go_at_call 18; refine Hid.out ?_))
         refine Hid.mk_ ((in_r _ 13 false (by decide) rfl).mono ?_)
         rintro e w1 ⟨rfl, rfl⟩
         go_wp2
         go_ret
         exact ⟨rfl, (Ext.refl _).alloc _⟩)
  by_cases h9 : b = 9
  · subst h9
    have hcv : ∀ W : World, (convert 34 9 (.slice (some ⟨W.heap.size, 0, none⟩) 1 1)).run Tryd.prog (W.alloc (.cells #[.int .u8 9] 5)) = .ok (.string (str [9])) (W.alloc (.cells #[.int .u8 9] 5)) := fun W => conv1 W 9 (by omega)
    have hq1 : ((⟨#[92]⟩ : ByteArray)).size + (str [9]).size ≤ 9223372036854775807 := by show 1 + 1 ≤ _; omega
    go_enter Tryd.func24, Tryd.ntmps24
    first
      | (go_wp2
         go_ret
         exact ⟨rfl, (Ext.refl _).alloc _⟩)
      | (skip
         go_wp2_with (first
           | (go_at_call 18; refine Hid.out ?_))
         refine Hid.mk_ ((in_r _ 9 false (by decide) rfl).mono ?_)
         rintro e w1 ⟨rfl, rfl⟩
         go_wp2
         go_ret
         exact ⟨rfl, (Ext.refl _).alloc _⟩)
  by_cases h34 : b = 34
  · subst h34
    have hcv : ∀ W : World, (convert 34 9 (.slice (some ⟨W.heap.size, 0, none⟩) 1 1)).run Tryd.prog (W.alloc (.cells #[.int .u8 34] 5)) = .ok (.string (str [34])) (W.alloc (.cells #[.int .u8 34] 5)) := fun W => conv1 W 34 (by omega)
    have hq1 : ((⟨#[92]⟩ : ByteArray)).size + (str [34]).size ≤ 9223372036854775807 := by show 1 + 1 ≤ _; omega
    go_enter Tryd.func24, Tryd.ntmps24
    first
      | (go_wp2
         go_ret
         exact ⟨rfl, (Ext.refl _).alloc _⟩)
      | (skip
         go_wp2_with (first
           | (go_at_call 18; refine Hid.out ?_))
         refine Hid.mk_ ((in_r _ 34 false (by decide) rfl).mono ?_)
         rintro e w1 ⟨rfl, rfl⟩
         go_wp2
         go_ret
         exact ⟨rfl, (Ext.refl _).alloc _⟩)
  by_cases h32 : b = 32
  · subst h32
    have hcv : ∀ W : World, (convert 34 9 (.slice (some ⟨W.heap.size, 0, none⟩) 1 1)).run Tryd.prog (W.alloc (.cells #[.int .u8 32] 5)) = .ok (.string (str [32])) (W.alloc (.cells #[.int .u8 32] 5)) := fun W => conv1 W 32 (by omega)
    have hq1 : ((⟨#[92]⟩ : ByteArray)).size + (str [32]).size ≤ 9223372036854775807 := by show 1 + 1 ≤ _; omega
    go_enter Tryd.func24, Tryd.ntmps24
    first
      | (go_wp2
         go_ret
         exact ⟨rfl, (Ext.refl _).alloc _⟩)
      | (skip
         go_wp2_with (first
           | (go_at_call 18; refine Hid.out ?_))
         refine Hid.mk_ ((in_r _ 32 false (by decide) rfl).mono ?_)
         rintro e w1 ⟨rfl, rfl⟩
         go_wp2
         go_ret
         exact ⟨rfl, (Ext.refl _).alloc _⟩)
  have t1 : ((b : Int) == 92) = false := by rw [beq_eq_false_iff_ne]; omega
  have t2 : ((b : Int) == 10) = false := by rw [beq_eq_false_iff_ne]; omega
  have t3 : ((b : Int) == 13) = false := by rw [beq_eq_false_iff_ne]; omega
  have t4 : ((b : Int) == 9) = false := by rw [beq_eq_false_iff_ne]; omega
  have t5 : ((b : Int) == 32) = false := by rw [beq_eq_false_iff_ne]; omega
  have t6 : ((b : Int) == 34) = false := by rw [beq_eq_false_iff_ne]; omega
  have hcv : ∀ W : World, (convert 34 9 (.slice (some ⟨W.heap.size, 0, none⟩) 1 1)).run Tryd.prog (W.alloc (.cells #[.int .u8 (b : Int)] 5)) = .ok (.string (str [by_ b])) (W.alloc (.cells #[.int .u8 (b : Int)] 5)) := fun W => conv1 W b hb
  have hq1 : ((⟨#[92]⟩ : ByteArray)).size + (str [by_ b]).size ≤ 9223372036854775807 := by show 1 + 1 ≤ _; omega
  have hbb : (by_ b).toNat = b := by unfold by_; rw [UInt8.toNat_ofNat', Nat.mod_eq_of_lt hb]
  have hown : ownB 2 b true = inL b [] := by
    have hm2 := all_byte (p := fun b => b == 32 || b == 34 || ownB 2 b true == inL b []) (by kernel_rfl) (by_ b)
    rw [hbb, beq_eq_false_iff_ne.2 h32, beq_eq_false_iff_ne.2 h34] at hm2
    simpa using hm2
  cases hm : inL b [] with
  | true =>
    first
      | (exfalso; simp [inL] at hm <;> omega)
      | (have hs : bsL 2 b true = [92, by_ b] := by
           unfold bsL
           rw [if_neg h92, if_neg h10, if_neg h13, if_neg h9, if_pos (hown.trans hm)]
         have HS := Lib.hid hs
         have HM := Lib.hid hm
         clear hs h92 h10 h13 h9 hbb h32 h34 hown hm
         go_enter Tryd.func24, Tryd.ntmps24
         go_wp2_with (first
           | (go_at_call 18; refine Hid.out ?_))
         refine Hid.mk_ ((in_r (⟨#[]⟩) b true (by decide) HM.out).mono ?_)
         rintro e w1 ⟨rfl, rfl⟩
         go_wp2
         go_ret
         exact ⟨ret_str (by rw [bys_app, bys_str, bys_str, HS.out]; rfl), (Ext.refl _).alloc _⟩)
  | false =>
    have ho : ownB 2 b true = false := hown.trans hm
    have HM := Lib.hid hm
    by_cases hc : b < 32 ∨ b = 127
    · have hbs : bsL 2 b true = if (2 : Nat) = 3 then 92 :: 117 :: 48 :: 48 :: hex2 b else 92 :: 120 :: hex2 b := by
        unfold bsL
        rw [if_neg h92, if_neg h10, if_neg h13, if_neg h9, ho, show ctl b = true from decide_eq_true hc]
        rfl
      have HS := Lib.hid hbs
      have hd : (b : Int) < 32 ∨ (¬ (b : Int) < 32 ∧ ((b : Int) == 127) = true) := by
        by_cases h : b < 32
        · left; omega
        · right
          refine ⟨by omega, ?_⟩
          rw [beq_iff_eq]; omega
      have hq2 : ((⟨#[92, 120]⟩ : ByteArray)).size + (str (hex2 b)).size ≤ 9223372036854775807 := by show 2 + 2 ≤ _; omega
      have hq4 : ((⟨#[92, 117, 48, 48]⟩ : ByteArray)).size + (str (hex2 b)).size ≤ 9223372036854775807 := by show 4 + 2 ≤ _; omega
      clear hbs hc h92 h10 h13 h9 ho hown hbb h32 h34 hm
      rcases hd with hd | ⟨hd, hd2⟩
      all_goals
        go_enter Tryd.func24, Tryd.ntmps24
        first
          | (skip
             go_wp2_with (first
               | (go_at_call 37; refine Hid.out ?_))
             refine Hid.mk_ ((rhex_any b hb).mono ?_)
             rintro e w2 ⟨rfl, hE2⟩
             go_wp2
             go_ret
             exact ⟨ret_str (by rw [bys_app, bys_str, bys_str, HS.out]; rfl), ((Ext.refl _).alloc _).trans hE2⟩)
          | (skip
             go_wp2_with (first
               | (go_at_call 18; refine Hid.out ?_))
             refine Hid.mk_ ((in_r (⟨#[]⟩) b false (by decide) HM.out).mono ?_)
             rintro e w1 ⟨rfl, rfl⟩
             go_wp2_with (first
               | (go_at_call 37; refine Hid.out ?_))
             refine Hid.mk_ ((rhex_any b hb).mono ?_)
             rintro e w2 ⟨rfl, hE2⟩
             go_wp2
             go_ret
             exact ⟨ret_str (by rw [bys_app, bys_str, bys_str, HS.out]; rfl), ((Ext.refl _).alloc _).trans hE2⟩)
    · have hbs : bsL 2 b true = [by_ b] := by
        unfold bsL
        rw [if_neg h92, if_neg h10, if_neg h13, if_neg h9, ho, show ctl b = false from decide_eq_false hc]
        rfl
      have HS := Lib.hid hbs
      have hd : ¬ (b : Int) < 32 := by omega
      have hd2 : ((b : Int) == 127) = false := by rw [beq_eq_false_iff_ne]; omega
      clear hbs hc h92 h10 h13 h9 ho hown hbb h32 h34 hm
      go_enter Tryd.func24, Tryd.ntmps24
      first
        | (go_wp2
           go_ret
           exact ⟨by rw [HS.out]; rfl, (Ext.refl _).alloc _⟩)
        | (skip
           go_wp2_with (first
             | (go_at_call 18; refine Hid.out ?_))
           refine Hid.mk_ ((in_r (⟨#[]⟩) b false (by decide) HM.out).mono ?_)
           rintro e w1 ⟨rfl, rfl⟩
           go_wp2
           go_ret
           exact ⟨by rw [HS.out]; rfl, (Ext.refl _).alloc _⟩)
set_option maxHeartbeats 1600000 in
theorem one2f (b : Nat) (hb : b < 256) :
    Calls Tryd.prog 24 #[.int .i64 2, .int .u8 (b : Int), .bool false] w fun e w' => e = .returned (.string (str (bsL 2 b false))) ∧ Ext w w' := by
  by_cases h92 : b = 92
  · subst h92
    have hcv : ∀ W : World, (convert 34 9 (.slice (some ⟨W.heap.size, 0, none⟩) 1 1)).run Tryd.prog (W.alloc (.cells #[.int .u8 92] 5)) = .ok (.string (str [92])) (W.alloc (.cells #[.int .u8 92] 5)) := fun W => conv1 W 92 (by omega)
    have hq1 : ((⟨#[92]⟩ : ByteArray)).size + (str [92]).size ≤ 9223372036854775807 := by show 1 + 1 ≤ _; omega
    go_enter Tryd.func24, Tryd.ntmps24
    first
      | (go_wp2
         go_ret
         exact ⟨rfl, (Ext.refl _).alloc _⟩)
      | (skip
         go_wp2_with (first
           | (go_at_call 18; refine Hid.out ?_))
         refine Hid.mk_ ((in_r _ 92 false (by decide) rfl).mono ?_)
         rintro e w1 ⟨rfl, rfl⟩
         go_wp2
         go_ret
         exact ⟨rfl, (Ext.refl _).alloc _⟩)
  by_cases h10 : b = 10
  · subst h10
    have hcv : ∀ W : World, (convert 34 9 (.slice (some ⟨W.heap.size, 0, none⟩) 1 1)).run Tryd.prog (W.alloc (.cells #[.int .u8 10] 5)) = .ok (.string (str [10])) (W.alloc (.cells #[.int .u8 10] 5)) := fun W => conv1 W 10 (by omega)
    have hq1 : ((⟨#[92]⟩ : ByteArray)).size + (str [10]).size ≤ 9223372036854775807 := by show 1 + 1 ≤ _; omega
    go_enter Tryd.func24, Tryd.ntmps24
    first
      | (go_wp2
         go_ret
         exact ⟨rfl, (Ext.refl _).alloc _⟩)
      | (skip
         go_wp2_with (first
           | (go_at_call 18; refine Hid.out ?_))
         refine Hid.mk_ ((in_r _ 10 false (by decide) rfl).mono ?_)
         rintro e w1 ⟨rfl, rfl⟩
         go_wp2
         go_ret
         exact ⟨rfl, (Ext.refl _).alloc _⟩)
  by_cases h13 : b = 13
  · subst h13
    have hcv : ∀ W : World, (convert 34 9 (.slice (some ⟨W.heap.size, 0, none⟩) 1 1)).run Tryd.prog (W.alloc (.cells #[.int .u8 13] 5)) = .ok (.string (str [13])) (W.alloc (.cells #[.int .u8 13] 5)) := fun W => conv1 W 13 (by omega)
    have hq1 : ((⟨#[92]⟩ : ByteArray)).size + (str [13]).size ≤ 9223372036854775807 := by show 1 + 1 ≤ _; omega
    go_enter Tryd.func24, Tryd.ntmps24
    first
      | (go_wp2
         go_ret
         exact ⟨rfl, (Ext.refl _).alloc _⟩)
      | (skip
         go_wp2_with (first
           | (go_at_call 18; refine Hid.out ?_))
         refine Hid.mk_ ((in_r _ 13 false (by decide) rfl).mono ?_)
         rintro e w1 ⟨rfl, rfl⟩
         go_wp2
         go_ret
         exact ⟨rfl, (Ext.refl _).alloc _⟩)
  by_cases h9 : b = 9
  · subst h9
    have hcv : ∀ W : World, (convert 34 9 (.slice (some ⟨W.heap.size, 0, none⟩) 1 1)).run Tryd.prog (W.alloc (.cells #[.int .u8 9] 5)) = .ok (.string (str [9])) (W.alloc (.cells #[.int .u8 9] 5)) := fun W => conv1 W 9 (by omega)
    have hq1 : ((⟨#[92]⟩ : ByteArray)).size + (str [9]).size ≤ 9223372036854775807 := by show 1 + 1 ≤ _; omega
    go_enter Tryd.func24, Tryd.ntmps24
    first
      | (go_wp2
         go_ret
         exact ⟨rfl, (Ext.refl _).alloc _⟩)
      | (skip
         go_wp2_with (first
           | (go_at_call 18; refine Hid.out ?_))
         refine Hid.mk_ ((in_r _ 9 false (by decide) rfl).mono ?_)
         rintro e w1 ⟨rfl, rfl⟩
         go_wp2
         go_ret
         exact ⟨rfl, (Ext.refl _).alloc _⟩)
  by_cases h34 : b = 34
  · subst h34
    have hcv : ∀ W : World, (convert 34 9 (.slice (some ⟨W.heap.size, 0, none⟩) 1 1)).run Tryd.prog (W.alloc (.cells #[.int .u8 34] 5)) = .ok (.string (str [34])) (W.alloc (.cells #[.int .u8 34] 5)) := fun W => conv1 W 34 (by omega)
    have hq1 : ((⟨#[92]⟩ : ByteArray)).size + (str [34]).size ≤ 9223372036854775807 := by show 1 + 1 ≤ _; omega
    go_enter Tryd.func24, Tryd.ntmps24
    first
      | (go_wp2
         go_ret
         exact ⟨rfl, (Ext.refl _).alloc _⟩)
      | (skip
         go_wp2_with (first
           | (go_at_call 18; refine Hid.out ?_))
         refine Hid.mk_ ((in_r _ 34 false (by decide) rfl).mono ?_)
         rintro e w1 ⟨rfl, rfl⟩
         go_wp2
         go_ret
         exact ⟨rfl, (Ext.refl _).alloc _⟩)
  by_cases h32 : b = 32
  · subst h32
    have hcv : ∀ W : World, (convert 34 9 (.slice (some ⟨W.heap.size, 0, none⟩) 1 1)).run Tryd.prog (W.alloc (.cells #[.int .u8 32] 5)) = .ok (.string (str [32])) (W.alloc (.cells #[.int .u8 32] 5)) := fun W => conv1 W 32 (by omega)
    have hq1 : ((⟨#[92]⟩ : ByteArray)).size + (str [32]).size ≤ 9223372036854775807 := by show 1 + 1 ≤ _; omega
    go_enter Tryd.func24, Tryd.ntmps24
    first
      | (go_wp2
         go_ret
         exact ⟨rfl, (Ext.refl _).alloc _⟩)
      | (skip
         go_wp2_with (first
           | (go_at_call 18; refine Hid.out ?_))
         refine Hid.mk_ ((in_r _ 32 false (by decide) rfl).mono ?_)
         rintro e w1 ⟨rfl, rfl⟩
         go_wp2
         go_ret
         exact ⟨rfl, (Ext.refl _).alloc _⟩)
  have t1 : ((b : Int) == 92) = false := by rw [beq_eq_false_iff_ne]; omega
  have t2 : ((b : Int) == 10) = false := by rw [beq_eq_false_iff_ne]; omega
  have t3 : ((b : Int) == 13) = false := by rw [beq_eq_false_iff_ne]; omega
  have t4 : ((b : Int) == 9) = false := by rw [beq_eq_false_iff_ne]; omega
  have t5 : ((b : Int) == 32) = false := by rw [beq_eq_false_iff_ne]; omega
  have t6 : ((b : Int) == 34) = false := by rw [beq_eq_false_iff_ne]; omega
  have hcv : ∀ W : World, (convert 34 9 (.slice (some ⟨W.heap.size, 0, none⟩) 1 1)).run Tryd.prog (W.alloc (.cells #[.int .u8 (b : Int)] 5)) = .ok (.string (str [by_ b])) (W.alloc (.cells #[.int .u8 (b : Int)] 5)) := fun W => conv1 W b hb
  have hq1 : ((⟨#[92]⟩ : ByteArray)).size + (str [by_ b]).size ≤ 9223372036854775807 := by show 1 + 1 ≤ _; omega
  have hbb : (by_ b).toNat = b := by unfold by_; rw [UInt8.toNat_ofNat', Nat.mod_eq_of_lt hb]
  have hown : ownB 2 b false = inL b [] := by
    have hm2 := all_byte (p := fun b => b == 32 || b == 34 || ownB 2 b false == inL b []) (by kernel_rfl) (by_ b)
    rw [hbb, beq_eq_false_iff_ne.2 h32, beq_eq_false_iff_ne.2 h34] at hm2
    simpa using hm2
  cases hm : inL b [] with
  | true =>
    first
      | (exfalso; simp [inL] at hm <;> omega)
      | (have hs : bsL 2 b false = [92, by_ b] := by
           unfold bsL
           rw [if_neg h92, if_neg h10, if_neg h13, if_neg h9, if_pos (hown.trans hm)]
         have HS := Lib.hid hs
         have HM := Lib.hid hm
         clear hs h92 h10 h13 h9 hbb h32 h34 hown hm
         go_enter Tryd.func24, Tryd.ntmps24
         go_wp2_with (first
           | (go_at_call 18; refine Hid.out ?_))
         refine Hid.mk_ ((in_r (⟨#[]⟩) b true (by decide) HM.out).mono ?_)
         rintro e w1 ⟨rfl, rfl⟩
         go_wp2
         go_ret
         exact ⟨ret_str (by rw [bys_app, bys_str, bys_str, HS.out]; rfl), (Ext.refl _).alloc _⟩)
  | false =>
    have ho : ownB 2 b false = false := hown.trans hm
    have HM := Lib.hid hm
    by_cases hc : b < 32 ∨ b = 127
    · have hbs : bsL 2 b false = if (2 : Nat) = 3 then 92 :: 117 :: 48 :: 48 :: hex2 b else 92 :: 120 :: hex2 b := by
        unfold bsL
        rw [if_neg h92, if_neg h10, if_neg h13, if_neg h9, ho, show ctl b = true from decide_eq_true hc]
        rfl
      have HS := Lib.hid hbs
      have hd : (b : Int) < 32 ∨ (¬ (b : Int) < 32 ∧ ((b : Int) == 127) = true) := by
        by_cases h : b < 32
        · left; omega
        · right
          refine ⟨by omega, ?_⟩
          rw [beq_iff_eq]; omega
      have hq2 : ((⟨#[92, 120]⟩ : ByteArray)).size + (str (hex2 b)).size ≤ 9223372036854775807 := by show 2 + 2 ≤ _; omega
      have hq4 : ((⟨#[92, 117, 48, 48]⟩ : ByteArray)).size + (str (hex2 b)).size ≤ 9223372036854775807 := by show 4 + 2 ≤ _; omega
      clear hbs hc h92 h10 h13 h9 ho hown hbb h32 h34 hm
      rcases hd with hd | ⟨hd, hd2⟩
      all_goals
        go_enter Tryd.func24, Tryd.ntmps24
        first
          | (skip
             go_wp2_with (first
               | (go_at_call 37; refine Hid.out ?_))
             refine Hid.mk_ ((rhex_any b hb).mono ?_)
             rintro e w2 ⟨rfl, hE2⟩
             go_wp2
             go_ret
             exact ⟨ret_str (by rw [bys_app, bys_str, bys_str, HS.out]; rfl), ((Ext.refl _).alloc _).trans hE2⟩)
          | (skip
             go_wp2_with (first
               | (go_at_call 18; refine Hid.out ?_))
             refine Hid.mk_ ((in_r (⟨#[]⟩) b false (by decide) HM.out).mono ?_)
             rintro e w1 ⟨rfl, rfl⟩
             go_wp2_with (first
               | (go_at_call 37; refine Hid.out ?_))
             refine Hid.mk_ ((rhex_any b hb).mono ?_)
             rintro e w2 ⟨rfl, hE2⟩
             go_wp2
             go_ret
             exact ⟨ret_str (by rw [bys_app, bys_str, bys_str, HS.out]; rfl), ((Ext.refl _).alloc _).trans hE2⟩)
    · have hbs : bsL 2 b false = [by_ b] := by
        unfold bsL
        rw [if_neg h92, if_neg h10, if_neg h13, if_neg h9, ho, show ctl b = false from decide_eq_false hc]
        rfl
      have HS := Lib.hid hbs
      have hd : ¬ (b : Int) < 32 := by omega
      have hd2 : ((b : Int) == 127) = false := by rw [beq_eq_false_iff_ne]; omega
      clear hbs hc h92 h10 h13 h9 ho hown hbb h32 h34 hm
      go_enter Tryd.func24, Tryd.ntmps24
      first
        | (go_wp2
           go_ret
           exact ⟨by rw [HS.out]; rfl, (Ext.refl _).alloc _⟩)
        | (skip
           go_wp2_with (first
             | (go_at_call 18; refine Hid.out ?_))
           refine Hid.mk_ ((in_r (⟨#[]⟩) b false (by decide) HM.out).mono ?_)
           rintro e w1 ⟨rfl, rfl⟩
           go_wp2
           go_ret
           exact ⟨by rw [HS.out]; rfl, (Ext.refl _).alloc _⟩)
set_option maxHeartbeats 1600000 in
theorem one3t (b : Nat) (hb : b < 256) :
    Calls Tryd.prog 24 #[.int .i64 3, .int .u8 (b : Int), .bool true] w fun e w' => e = .returned (.string (str (bsL 3 b true))) ∧ Ext w w' := by
  by_cases h92 : b = 92
  · subst h92
    have hcv : ∀ W : World, (convert 34 9 (.slice (some ⟨W.heap.size, 0, none⟩) 1 1)).run Tryd.prog (W.alloc (.cells #[.int .u8 92] 5)) = .ok (.string (str [92])) (W.alloc (.cells #[.int .u8 92] 5)) := fun W => conv1 W 92 (by omega)
    have hq1 : ((⟨#[92]⟩ : ByteArray)).size + (str [92]).size ≤ 9223372036854775807 := by show 1 + 1 ≤ _; omega
    go_enter Tryd.func24, Tryd.ntmps24
    first
      | (go_wp2
         go_ret
         exact ⟨rfl, (Ext.refl _).alloc _⟩)
      | (skip
         go_wp2_with (first
           | (go_at_call 18; refine Hid.out ?_))
         refine Hid.mk_ ((in_r _ 92 false (by decide) rfl).mono ?_)
         rintro e w1 ⟨rfl, rfl⟩
         go_wp2
         go_ret
         exact ⟨rfl, (Ext.refl _).alloc _⟩)
  by_cases h10 : b = 10
  · subst h10
    have hcv : ∀ W : World, (convert 34 9 (.slice (some ⟨W.heap.size, 0, none⟩) 1 1)).run Tryd.prog (W.alloc (.cells #[.int .u8 10] 5)) = .ok (.string (str [10])) (W.alloc (.cells #[.int .u8 10] 5)) := fun W => conv1 W 10 (by omega)
    have hq1 : ((⟨#[92]⟩ : ByteArray)).size + (str [10]).size ≤ 9223372036854775807 := by show 1 + 1 ≤ _; omega
    go_enter Tryd.func24, Tryd.ntmps24
    first
      | (go_wp2
         go_ret
         exact ⟨rfl, (Ext.refl _).alloc _⟩)
      | (skip
         go_wp2_with (first
           | (go_at_call 18; refine Hid.out ?_))
         refine Hid.mk_ ((in_r _ 10 false (by decide) rfl).mono ?_)
         rintro e w1 ⟨rfl, rfl⟩
         go_wp2
         go_ret
         exact ⟨rfl, (Ext.refl _).alloc _⟩)
  by_cases h13 : b = 13
  · subst h13
    have hcv : ∀ W : World, (convert 34 9 (.slice (some ⟨W.heap.size, 0, none⟩) 1 1)).run Tryd.prog (W.alloc (.cells #[.int .u8 13] 5)) = .ok (.string (str [13])) (W.alloc (.cells #[.int .u8 13] 5)) := fun W => conv1 W 13 (by omega)
    have hq1 : ((⟨#[92]⟩ : ByteArray)).size + (str [13]).size ≤ 9223372036854775807 := by show 1 + 1 ≤ _; omega
    go_enter Tryd.func24, Tryd.ntmps24
    first
      | (go_wp2
         go_ret
         exact ⟨rfl, (Ext.refl _).alloc _⟩)
      | (skip
         go_wp2_with (first
           | (go_at_call 18; refine Hid.out ?_))
         refine Hid.mk_ ((in_r _ 13 false (by decide) rfl).mono ?_)
         rintro e w1 ⟨rfl, rfl⟩
         go_wp2
         go_ret
         exact ⟨rfl, (Ext.refl _).alloc _⟩)
  by_cases h9 : b = 9
  · subst h9
    have hcv : ∀ W : World, (convert 34 9 (.slice (some ⟨W.heap.size, 0, none⟩) 1 1)).run Tryd.prog (W.alloc (.cells #[.int .u8 9] 5)) = .ok (.string (str [9])) (W.alloc (.cells #[.int .u8 9] 5)) := fun W => conv1 W 9 (by omega)
    have hq1 : ((⟨#[92]⟩ : ByteArray)).size + (str [9]).size ≤ 9223372036854775807 := by show 1 + 1 ≤ _; omega
    go_enter Tryd.func24, Tryd.ntmps24
    first
      | (go_wp2
         go_ret
         exact ⟨rfl, (Ext.refl _).alloc _⟩)
      | (skip
         go_wp2_with (first
           | (go_at_call 18; refine Hid.out ?_))
         refine Hid.mk_ ((in_r _ 9 false (by decide) rfl).mono ?_)
         rintro e w1 ⟨rfl, rfl⟩
         go_wp2
         go_ret
         exact ⟨rfl, (Ext.refl _).alloc _⟩)
  by_cases h34 : b = 34
  · subst h34
    have hcv : ∀ W : World, (convert 34 9 (.slice (some ⟨W.heap.size, 0, none⟩) 1 1)).run Tryd.prog (W.alloc (.cells #[.int .u8 34] 5)) = .ok (.string (str [34])) (W.alloc (.cells #[.int .u8 34] 5)) := fun W => conv1 W 34 (by omega)
    have hq1 : ((⟨#[92]⟩ : ByteArray)).size + (str [34]).size ≤ 9223372036854775807 := by show 1 + 1 ≤ _; omega
    go_enter Tryd.func24, Tryd.ntmps24
    first
      | (go_wp2
         go_ret
         exact ⟨rfl, (Ext.refl _).alloc _⟩)
      | (skip
         go_wp2_with (first
           | (go_at_call 18; refine Hid.out ?_))
         refine Hid.mk_ ((in_r _ 34 false (by decide) rfl).mono ?_)
         rintro e w1 ⟨rfl, rfl⟩
         go_wp2
         go_ret
         exact ⟨rfl, (Ext.refl _).alloc _⟩)
  by_cases h32 : b = 32
  · subst h32
    have hcv : ∀ W : World, (convert 34 9 (.slice (some ⟨W.heap.size, 0, none⟩) 1 1)).run Tryd.prog (W.alloc (.cells #[.int .u8 32] 5)) = .ok (.string (str [32])) (W.alloc (.cells #[.int .u8 32] 5)) := fun W => conv1 W 32 (by omega)
    have hq1 : ((⟨#[92]⟩ : ByteArray)).size + (str [32]).size ≤ 9223372036854775807 := by show 1 + 1 ≤ _; omega
    go_enter Tryd.func24, Tryd.ntmps24
    first
      | (go_wp2
         go_ret
         exact ⟨rfl, (Ext.refl _).alloc _⟩)
      | (skip
         go_wp2_with (first
           | (go_at_call 18; refine Hid.out ?_))
         refine Hid.mk_ ((in_r _ 32 false (by decide) rfl).mono ?_)
         rintro e w1 ⟨rfl, rfl⟩
         go_wp2
         go_ret
         exact ⟨rfl, (Ext.refl _).alloc _⟩)
  have t1 : ((b : Int) == 92) = false := by rw [beq_eq_false_iff_ne]; omega
  have t2 : ((b : Int) == 10) = false := by rw [beq_eq_false_iff_ne]; omega
  have t3 : ((b : Int) == 13) = false := by rw [beq_eq_false_iff_ne]; omega
  have t4 : ((b : Int) == 9) = false := by rw [beq_eq_false_iff_ne]; omega
  have t5 : ((b : Int) == 32) = false := by rw [beq_eq_false_iff_ne]; omega
  have t6 : ((b : Int) == 34) = false := by rw [beq_eq_false_iff_ne]; omega
  have hcv : ∀ W : World, (convert 34 9 (.slice (some ⟨W.heap.size, 0, none⟩) 1 1)).run Tryd.prog (W.alloc (.cells #[.int .u8 (b : Int)] 5)) = .ok (.string (str [by_ b])) (W.alloc (.cells #[.int .u8 (b : Int)] 5)) := fun W => conv1 W b hb
  have hq1 : ((⟨#[92]⟩ : ByteArray)).size + (str [by_ b]).size ≤ 9223372036854775807 := by show 1 + 1 ≤ _; omega
  have hbb : (by_ b).toNat = b := by unfold by_; rw [UInt8.toNat_ofNat', Nat.mod_eq_of_lt hb]
  have hown : ownB 3 b true = inL b [123, 125] := by
    have hm2 := all_byte (p := fun b => b == 32 || b == 34 || ownB 3 b true == inL b [123, 125]) (by kernel_rfl) (by_ b)
    rw [hbb, beq_eq_false_iff_ne.2 h32, beq_eq_false_iff_ne.2 h34] at hm2
    simpa using hm2
  cases hm : inL b [123, 125] with
  | true =>
    first
      | (exfalso; simp [inL] at hm <;> omega)
      | (have hs : bsL 3 b true = [92, by_ b] := by
           unfold bsL
           rw [if_neg h92, if_neg h10, if_neg h13, if_neg h9, if_pos (hown.trans hm)]
         have HS := Lib.hid hs
         have HM := Lib.hid hm
         clear hs h92 h10 h13 h9 hbb h32 h34 hown hm
         go_enter Tryd.func24, Tryd.ntmps24
         go_wp2_with (first
           | (go_at_call 18; refine Hid.out ?_))
         refine Hid.mk_ ((in_r (⟨#[123, 125]⟩) b true (by decide) HM.out).mono ?_)
         rintro e w1 ⟨rfl, rfl⟩
         go_wp2
         go_ret
         exact ⟨ret_str (by rw [bys_app, bys_str, bys_str, HS.out]; rfl), (Ext.refl _).alloc _⟩)
  | false =>
    have ho : ownB 3 b true = false := hown.trans hm
    have HM := Lib.hid hm
    by_cases hc : b < 32 ∨ b = 127
    · have hbs : bsL 3 b true = if (3 : Nat) = 3 then 92 :: 117 :: 48 :: 48 :: hex2 b else 92 :: 120 :: hex2 b := by
        unfold bsL
        rw [if_neg h92, if_neg h10, if_neg h13, if_neg h9, ho, show ctl b = true from decide_eq_true hc]
        rfl
      have HS := Lib.hid hbs
      have hd : (b : Int) < 32 ∨ (¬ (b : Int) < 32 ∧ ((b : Int) == 127) = true) := by
        by_cases h : b < 32
        · left; omega
        · right
          refine ⟨by omega, ?_⟩
          rw [beq_iff_eq]; omega
      have hq2 : ((⟨#[92, 120]⟩ : ByteArray)).size + (str (hex2 b)).size ≤ 9223372036854775807 := by show 2 + 2 ≤ _; omega
      have hq4 : ((⟨#[92, 117, 48, 48]⟩ : ByteArray)).size + (str (hex2 b)).size ≤ 9223372036854775807 := by show 4 + 2 ≤ _; omega
      clear hbs hc h92 h10 h13 h9 ho hown hbb h32 h34 hm
      rcases hd with hd | ⟨hd, hd2⟩
      all_goals
        go_enter Tryd.func24, Tryd.ntmps24
        first
          | (skip
             go_wp2_with (first
               | (go_at_call 37; refine Hid.out ?_))
             refine Hid.mk_ ((rhex_any b hb).mono ?_)
             rintro e w2 ⟨rfl, hE2⟩
             go_wp2
             go_ret
             exact ⟨ret_str (by rw [bys_app, bys_str, bys_str, HS.out]; rfl), ((Ext.refl _).alloc _).trans hE2⟩)
          | (skip
             go_wp2_with (first
               | (go_at_call 18; refine Hid.out ?_))
             refine Hid.mk_ ((in_r (⟨#[123, 125]⟩) b false (by decide) HM.out).mono ?_)
             rintro e w1 ⟨rfl, rfl⟩
             go_wp2_with (first
               | (go_at_call 37; refine Hid.out ?_))
             refine Hid.mk_ ((rhex_any b hb).mono ?_)
             rintro e w2 ⟨rfl, hE2⟩
             go_wp2
             go_ret
             exact ⟨ret_str (by rw [bys_app, bys_str, bys_str, HS.out]; rfl), ((Ext.refl _).alloc _).trans hE2⟩)
    · have hbs : bsL 3 b true = [by_ b] := by
        unfold bsL
        rw [if_neg h92, if_neg h10, if_neg h13, if_neg h9, ho, show ctl b = false from decide_eq_false hc]
        rfl
      have HS := Lib.hid hbs
      have hd : ¬ (b : Int) < 32 := by omega
      have hd2 : ((b : Int) == 127) = false := by rw [beq_eq_false_iff_ne]; omega
      clear hbs hc h92 h10 h13 h9 ho hown hbb h32 h34 hm
      go_enter Tryd.func24, Tryd.ntmps24
      first
        | (go_wp2
           go_ret
           exact ⟨by rw [HS.out]; rfl, (Ext.refl _).alloc _⟩)
        | (skip
           go_wp2_with (first
             | (go_at_call 18; refine Hid.out ?_))
           refine Hid.mk_ ((in_r (⟨#[123, 125]⟩) b false (by decide) HM.out).mono ?_)
           rintro e w1 ⟨rfl, rfl⟩
           go_wp2
           go_ret
           exact ⟨by rw [HS.out]; rfl, (Ext.refl _).alloc _⟩)
set_option maxHeartbeats 1600000 in
theorem one3f (b : Nat) (hb : b < 256) :
    Calls Tryd.prog 24 #[.int .i64 3, .int .u8 (b : Int), .bool false] w fun e w' => e = .returned (.string (str (bsL 3 b false))) ∧ Ext w w' := by
  by_cases h92 : b = 92
  · subst h92
    have hcv : ∀ W : World, (convert 34 9 (.slice (some ⟨W.heap.size, 0, none⟩) 1 1)).run Tryd.prog (W.alloc (.cells #[.int .u8 92] 5)) = .ok (.string (str [92])) (W.alloc (.cells #[.int .u8 92] 5)) := fun W => conv1 W 92 (by omega)
    have hq1 : ((⟨#[92]⟩ : ByteArray)).size + (str [92]).size ≤ 9223372036854775807 := by show 1 + 1 ≤ _; omega
    go_enter Tryd.func24, Tryd.ntmps24
    first
      | (go_wp2
         go_ret
         exact ⟨rfl, (Ext.refl _).alloc _⟩)
      | (skip
         go_wp2_with (first
           | (go_at_call 18; refine Hid.out ?_))
         refine Hid.mk_ ((in_r _ 92 false (by decide) rfl).mono ?_)
         rintro e w1 ⟨rfl, rfl⟩
         go_wp2
         go_ret
         exact ⟨rfl, (Ext.refl _).alloc _⟩)
  by_cases h10 : b = 10
  · subst h10
    have hcv : ∀ W : World, (convert 34 9 (.slice (some ⟨W.heap.size, 0, none⟩) 1 1)).run Tryd.prog (W.alloc (.cells #[.int .u8 10] 5)) = .ok (.string (str [10])) (W.alloc (.cells #[.int .u8 10] 5)) := fun W => conv1 W 10 (by omega)
    have hq1 : ((⟨#[92]⟩ : ByteArray)).size + (str [10]).size ≤ 9223372036854775807 := by show 1 + 1 ≤ _; omega
    go_enter Tryd.func24, Tryd.ntmps24
    first
      | (go_wp2
         go_ret
         exact ⟨rfl, (Ext.refl _).alloc _⟩)
      | (skip
         go_wp2_with (first
           | (go_at_call 18; refine Hid.out ?_))
         refine Hid.mk_ ((in_r _ 10 false (by decide) rfl).mono ?_)
         rintro e w1 ⟨rfl, rfl⟩
         go_wp2
         go_ret
         exact ⟨rfl, (Ext.refl _).alloc _⟩)
  by_cases h13 : b = 13
  · subst h13
    have hcv : ∀ W : World, (convert 34 9 (.slice (some ⟨W.heap.size, 0, none⟩) 1 1)).run Tryd.prog (W.alloc (.cells #[.int .u8 13] 5)) = .ok (.string (str [13])) (W.alloc (.cells #[.int .u8 13] 5)) := fun W => conv1 W 13 (by omega)
    have hq1 : ((⟨#[92]⟩ : ByteArray)).size + (str [13]).size ≤ 9223372036854775807 := by show 1 + 1 ≤ _; omega
    go_enter Tryd.func24, Tryd.ntmps24
    first
      | (go_wp2
         go_ret
         exact ⟨rfl, (Ext.refl _).alloc _⟩)
      | (skip
         go_wp2_with (first
           | (go_at_call 18; refine Hid.out ?_))
         refine Hid.mk_ ((in_r _ 13 false (by decide) rfl).mono ?_)
         rintro e w1 ⟨rfl, rfl⟩
         go_wp2
         go_ret
         exact ⟨rfl, (Ext.refl _).alloc _⟩)
  by_cases h9 : b = 9
  · subst h9
    have hcv : ∀ W : World, (convert 34 9 (.slice (some ⟨W.heap.size, 0, none⟩) 1 1)).run Tryd.prog (W.alloc (.cells #[.int .u8 9] 5)) = .ok (.string (str [9])) (W.alloc (.cells #[.int .u8 9] 5)) := fun W => conv1 W 9 (by omega)
    have hq1 : ((⟨#[92]⟩ : ByteArray)).size + (str [9]).size ≤ 9223372036854775807 := by show 1 + 1 ≤ _; omega
    go_enter Tryd.func24, Tryd.ntmps24
    first
      | (go_wp2
         go_ret
         exact ⟨rfl, (Ext.refl _).alloc _⟩)
      | (skip
         go_wp2_with (first
           | (go_at_call 18; refine Hid.out ?_))
         refine Hid.mk_ ((in_r _ 9 false (by decide) rfl).mono ?_)
         rintro e w1 ⟨rfl, rfl⟩
         go_wp2
         go_ret
         exact ⟨rfl, (Ext.refl _).alloc _⟩)
  by_cases h34 : b = 34
  · subst h34
    have hcv : ∀ W : World, (convert 34 9 (.slice (some ⟨W.heap.size, 0, none⟩) 1 1)).run Tryd.prog (W.alloc (.cells #[.int .u8 34] 5)) = .ok (.string (str [34])) (W.alloc (.cells #[.int .u8 34] 5)) := fun W => conv1 W 34 (by omega)
    have hq1 : ((⟨#[92]⟩ : ByteArray)).size + (str [34]).size ≤ 9223372036854775807 := by show 1 + 1 ≤ _; omega
    go_enter Tryd.func24, Tryd.ntmps24
    first
      | (go_wp2
         go_ret
         exact ⟨rfl, (Ext.refl _).alloc _⟩)
      | (skip
         go_wp2_with (first
           | (go_at_call 18; refine Hid.out ?_))
         refine Hid.mk_ ((in_r _ 34 false (by decide) rfl).mono ?_)
         rintro e w1 ⟨rfl, rfl⟩
         go_wp2
         go_ret
         exact ⟨rfl, (Ext.refl _).alloc _⟩)
  by_cases h32 : b = 32
  · subst h32
    have hcv : ∀ W : World, (convert 34 9 (.slice (some ⟨W.heap.size, 0, none⟩) 1 1)).run Tryd.prog (W.alloc (.cells #[.int .u8 32] 5)) = .ok (.string (str [32])) (W.alloc (.cells #[.int .u8 32] 5)) := fun W => conv1 W 32 (by omega)
    have hq1 : ((⟨#[92]⟩ : ByteArray)).size + (str [32]).size ≤ 9223372036854775807 := by show 1 + 1 ≤ _; omega
    go_enter Tryd.func24, Tryd.ntmps24
    first
      | (go_wp2
         go_ret
         exact ⟨rfl, (Ext.refl _).alloc _⟩)
      | (skip
         go_wp2_with (first
           | (go_at_call 18; refine Hid.out ?_))
         refine Hid.mk_ ((in_r _ 32 false (by decide) rfl).mono ?_)
         rintro e w1 ⟨rfl, rfl⟩
         go_wp2
         go_ret
         exact ⟨rfl, (Ext.refl _).alloc _⟩)
  have t1 : ((b : Int) == 92) = false := by rw [beq_eq_false_iff_ne]; omega
  have t2 : ((b : Int) == 10) = false := by rw [beq_eq_false_iff_ne]; omega
  have t3 : ((b : Int) == 13) = false := by rw [beq_eq_false_iff_ne]; omega
  have t4 : ((b : Int) == 9) = false := by rw [beq_eq_false_iff_ne]; omega
  have t5 : ((b : Int) == 32) = false := by rw [beq_eq_false_iff_ne]; omega
  have t6 : ((b : Int) == 34) = false := by rw [beq_eq_false_iff_ne]; omega
  have hcv : ∀ W : World, (convert 34 9 (.slice (some ⟨W.heap.size, 0, none⟩) 1 1)).run Tryd.prog (W.alloc (.cells #[.int .u8 (b : Int)] 5)) = .ok (.string (str [by_ b])) (W.alloc (.cells #[.int .u8 (b : Int)] 5)) := fun W => conv1 W b hb
  have hq1 : ((⟨#[92]⟩ : ByteArray)).size + (str [by_ b]).size ≤ 9223372036854775807 := by show 1 + 1 ≤ _; omega
  have hbb : (by_ b).toNat = b := by unfold by_; rw [UInt8.toNat_ofNat', Nat.mod_eq_of_lt hb]
  have hown : ownB 3 b false = inL b [123, 125] := by
    have hm2 := all_byte (p := fun b => b == 32 || b == 34 || ownB 3 b false == inL b [123, 125]) (by kernel_rfl) (by_ b)
    rw [hbb, beq_eq_false_iff_ne.2 h32, beq_eq_false_iff_ne.2 h34] at hm2
    simpa using hm2
  cases hm : inL b [123, 125] with
  | true =>
    first
      | (exfalso; simp [inL] at hm <;> omega)
      | (have hs : bsL 3 b false = [92, by_ b] := by
           unfold bsL
           rw [if_neg h92, if_neg h10, if_neg h13, if_neg h9, if_pos (hown.trans hm)]
         have HS := Lib.hid hs
         have HM := Lib.hid hm
         clear hs h92 h10 h13 h9 hbb h32 h34 hown hm
         go_enter Tryd.func24, Tryd.ntmps24
         go_wp2_with (first
           | (go_at_call 18; refine Hid.out ?_))
         refine Hid.mk_ ((in_r (⟨#[123, 125]⟩) b true (by decide) HM.out).mono ?_)
         rintro e w1 ⟨rfl, rfl⟩
         go_wp2
         go_ret
         exact ⟨ret_str (by rw [bys_app, bys_str, bys_str, HS.out]; rfl), (Ext.refl _).alloc _⟩)
  | false =>
    have ho : ownB 3 b false = false := hown.trans hm
    have HM := Lib.hid hm
    by_cases hc : b < 32 ∨ b = 127
    · have hbs : bsL 3 b false = if (3 : Nat) = 3 then 92 :: 117 :: 48 :: 48 :: hex2 b else 92 :: 120 :: hex2 b := by
        unfold bsL
        rw [if_neg h92, if_neg h10, if_neg h13, if_neg h9, ho, show ctl b = true from decide_eq_true hc]
        rfl
      have HS := Lib.hid hbs
      have hd : (b : Int) < 32 ∨ (¬ (b : Int) < 32 ∧ ((b : Int) == 127) = true) := by
        by_cases h : b < 32
        · left; omega
        · right
          refine ⟨by omega, ?_⟩
          rw [beq_iff_eq]; omega
      have hq2 : ((⟨#[92, 120]⟩ : ByteArray)).size + (str (hex2 b)).size ≤ 9223372036854775807 := by show 2 + 2 ≤ _; omega
      have hq4 : ((⟨#[92, 117, 48, 48]⟩ : ByteArray)).size + (str (hex2 b)).size ≤ 9223372036854775807 := by show 4 + 2 ≤ _; omega
      clear hbs hc h92 h10 h13 h9 ho hown hbb h32 h34 hm
      rcases hd with hd | ⟨hd, hd2⟩
      all_goals
        go_enter Tryd.func24, Tryd.ntmps24
        first
          | (skip
             go_wp2_with (first
               | (go_at_call 37; refine Hid.out ?_))
             refine Hid.mk_ ((rhex_any b hb).mono ?_)
             rintro e w2 ⟨rfl, hE2⟩
             go_wp2
             go_ret
             exact ⟨ret_str (by rw [bys_app, bys_str, bys_str, HS.out]; rfl), ((Ext.refl _).alloc _).trans hE2⟩)
          | (skip
             go_wp2_with (first
               | (go_at_call 18; refine Hid.out ?_))
             refine Hid.mk_ ((in_r (⟨#[123, 125]⟩) b false (by decide) HM.out).mono ?_)
             rintro e w1 ⟨rfl, rfl⟩
             go_wp2_with (first
               | (go_at_call 37; refine Hid.out ?_))
             refine Hid.mk_ ((rhex_any b hb).mono ?_)
             rintro e w2 ⟨rfl, hE2⟩
             go_wp2
             go_ret
             exact ⟨ret_str (by rw [bys_app, bys_str, bys_str, HS.out]; rfl), ((Ext.refl _).alloc _).trans hE2⟩)
    · have hbs : bsL 3 b false = [by_ b] := by
        unfold bsL
        rw [if_neg h92, if_neg h10, if_neg h13, if_neg h9, ho, show ctl b = false from decide_eq_false hc]
        rfl
      have HS := Lib.hid hbs
      have hd : ¬ (b : Int) < 32 := by omega
      have hd2 : ((b : Int) == 127) = false := by rw [beq_eq_false_iff_ne]; omega
      clear hbs hc h92 h10 h13 h9 ho hown hbb h32 h34 hm
      go_enter Tryd.func24, Tryd.ntmps24
      first
        | (go_wp2
           go_ret
           exact ⟨by rw [HS.out]; rfl, (Ext.refl _).alloc _⟩)
        | (skip
           go_wp2_with (first
             | (go_at_call 18; refine Hid.out ?_))
           refine Hid.mk_ ((in_r (⟨#[123, 125]⟩) b false (by decide) HM.out).mono ?_)
           rintro e w1 ⟨rfl, rfl⟩
           go_wp2
           go_ret
           exact ⟨by rw [HS.out]; rfl, (Ext.refl _).alloc _⟩)
set_option maxHeartbeats 800000 in
theorem one4 (b : Nat) (f : Bool) (hb : b < 256) : Calls Tryd.prog 24 #[.int .i64 4, .int .u8 (b : Int), .bool f] w fun e w' => e = .returned (.string (str (entL b))) ∧ Ext w w' := by
  have hcv : ∀ W : World, (convert 34 9 (.slice (some ⟨W.heap.size, 0, none⟩) 1 1)).run Tryd.prog (W.alloc (.cells #[.int .u8 (b : Int)] 5)) = .ok (.string (str [by_ b])) (W.alloc (.cells #[.int .u8 (b : Int)] 5)) := fun W => conv1 W b hb
  go_enter Tryd.func24, Tryd.ntmps24
  go_wp2_with (first
    | (go_at_call 36; refine Hid.out ?_))
  refine Hid.mk_ ((rentity_any b hb).mono ?_)
  rintro e w2 ⟨rfl, hE2⟩
  go_wp2
  go_ret
  exact ⟨rfl, ((Ext.refl _).alloc _).trans hE2⟩
theorem one_any (n b : Nat) (f : Bool) (h1 : 1 ≤ n) (h4 : n ≤ 4) (hb : b < 256) :
    Calls Tryd.prog 24 #[.int .i64 (n : Int), .int .u8 (b : Int), .bool f] w fun e w' => e = .returned (.string (str (oneL n b f))) ∧ Ext w w' := by
  obtain rfl | rfl | rfl | rfl : n = 1 ∨ n = 2 ∨ n = 3 ∨ n = 4 := by omega
  · cases f
    · exact one1f b hb
    · exact one1t b hb
  · cases f
    · exact one2f b hb
    · exact one2t b hb
  · cases f
    · exact one3f b hb
    · exact one3t b hb
  · exact one4 b f hb
theorem rstyle_any (n : Int) : Calls Tryd.prog 15 #[.int .i64 n] w fun e w' => e = .returned (.bool (styleZ n)) ∧ w' = w := by
  by_cases h1 : 1 ≤ n
  · by_cases h2 : n ≤ 4
    · have hs : styleZ n = true := decide_eq_true ⟨h1, h2⟩
      rw [hs]
      go_enter Tryd.func15, Tryd.ntmps15
      go_wp2
      go_ret
      exact ⟨rfl, rfl⟩
    · have hs : styleZ n = false := decide_eq_false fun h => h2 h.2
      rw [hs]
      go_enter Tryd.func15, Tryd.ntmps15
      go_wp2
      go_ret
      exact ⟨rfl, rfl⟩
  · have hs : styleZ n = false := decide_eq_false fun h => h1 h.1
    rw [hs]
    go_enter Tryd.func15, Tryd.ntmps15
    go_wp2
    go_ret
    exact ⟨rfl, rfl⟩
set_option maxHeartbeats 1600000 in
theorem rescape_no (n : Int) (s : ByteArray) (hn : styleZ n = false) : Calls Tryd.prog 12 #[.int .i64 n, .string s] w fun e w' => e = .returned (.string (str (escZ n (bys s)))) ∧ Ext w w' := by
  have hs : escZ n (bys s) = [] := by unfold escZ; rw [hn]; rfl
  rw [hs]
  clear hs
  have HN := Lib.hid hn
  clear hn
  go_enter Tryd.func12, Tryd.ntmps12
  go_wp2_with (first
    | (go_at_call 15; refine Hid.out ?_))
  refine Hid.mk_ ((rstyle_any n).mono ?_)
  rintro e w1 ⟨rfl, rfl⟩
  rw [HN.out]
  go_wp2
  go_ret
  exact ⟨rfl, Ext.refl _⟩
set_option maxHeartbeats 1600000 in
theorem rescape_yes (n : Nat) (h1 : 1 ≤ n) (h4 : n ≤ 4) (s : ByteArray) (hsz : s.size ≤ 1000) : Calls Tryd.prog 12 #[.int .i64 (n : Int), .string s] w fun e w' => e = .returned (.string (str (escL n (bys s)))) ∧ Ext w w' := by
  have hst : styleZ (n : Int) = true := decide_eq_true (by omega)
  have HS := Lib.hid hst
  clear hst
  go_enter Tryd.func12, Tryd.ntmps12
  go_wp2_with (first
    | (go_at_call 15; refine Hid.out ?_))
  refine Hid.mk_ ((rstyle_any (n : Int)).mono ?_)
  rintro e w1 ⟨rfl, rfl⟩
  rw [HS.out]
  go_wp2
  go_loopw [5, 6] (fun v i wr => ∃ (A : Option Addr) (m c k : Nat), k ≤ s.size ∧ v = .slice A m c ∧ i = .int .i64 k ∧ OsB wr w1.heap.size A m c (escL n ((bys s).take k)) ∧ Ext w1 wr) (fun _ i _ => s.size - (intOf i).toNat)
  case atStart => exact ⟨none, 0, 0, 0, Nat.zero_le _, rfl, rfl, OsB.nil_, Ext.refl _⟩
  case round =>
    obtain ⟨A, m, c, k, hk, rfl, rfl, ho, hE⟩ := hrel
    by_cases hlt : k < s.size
    · have hi1 : (k : Int) < (s.size : Int) := by omega
      have htk := escL_take n (bys s) k (by rw [bys_len]; exact hlt)
      have hln := escGo_len n ((bys s).take k) true
      have hln2 : ((bys s).take k).length ≤ k := List.length_take_le _ _
      have hle1 : m ≤ 6000 := by rw [ho.len]; show (escGo n true _).length ≤ _; omega
      have hk0 : ((k : Int) == 0) = decide (k = 0) := by
        by_cases h : k = 0
        · subst h; rfl
        · rw [decide_eq_false h, beq_eq_false_iff_ne]; omega
      obtain ⟨f, hf⟩ : ∃ f, f = decide (k = 0) := ⟨_, rfl⟩
      rw [← hf] at hk0 htk
      have HTK := Lib.hid htk
      clear htk hln hln2 hf
      go_wp2_with (first
        | (go_at_call 24; refine Hid.out ?_))
      refine Hid.mk_ ((one_any n _ f h1 h4 (UInt8.toNat_lt _)).mono ?_)
      rintro e w2 ⟨rfl, hE2⟩
      have ho2 := ho.ext hE2
      have hE12 := hE.trans hE2
      go_wp2_with (first
        | (at_builtin; refine Hid.out ?_))
      refine Hid.mk_ ?_
      refine appS rfl _ _ rfl ho2 rfl _ rfl (by rw [str_size]; have := oneL_len n (s[k]'hlt).toNat f; omega) hE12.size_le ?_
      intro A3 m3 c3 w3 ho3 hg3 hat3
      have hE3 : Ext w1 w3 := hE12.grown hg3 ho2.ge
      go_wp2
      go_roundw
      case rel => exact ⟨A3, m3, c3, k + 1, by omega, rfl, by go_num, by rw [HTK.out]; have := ho3; exact this, hE3⟩
      case measure => simp [intOf]; omega
    · have hi1 : ¬ (k : Int) < (s.size : Int) := by omega
      have hfin : escL n ((bys s).take k) = escL n (bys s) := by rw [List.take_of_length_le (by rw [bys_len]; omega)]
      rw [hfin] at ho
      clear hfin
      have hcv := conv_str ho.sl c
      go_wp2
      go_ret
      exact ⟨rfl, hE⟩
theorem rescape_any (n : Int) (s : ByteArray) (hsz : s.size ≤ 1000) : Calls Tryd.prog 12 #[.int .i64 n, .string s] w fun e w' => e = .returned (.string (str (escZ n (bys s)))) ∧ Ext w w' := by
  cases hn : styleZ n with
  | false => exact rescape_no n s hn
  | true =>
    have h : 1 ≤ n ∧ n ≤ 4 := of_decide_eq_true hn
    obtain ⟨k, rfl⟩ : ∃ k : Nat, n = k := ⟨n.toNat, by omega⟩
    have h2 : escZ (k : Int) (bys s) = escL k (bys s) := by unfold escZ; rw [hn]; rfl
    rw [h2]
    exact rescape_yes k (by omega) (by omega) s hsz
end

end Go.Proofs.YtkicjbmljbfojaaDoor
