/- backslash of package escape. -/
import Derived.Test.YtkicjbmljbfojaaDoorEscC
namespace Go.Proofs.YtkicjbmljbfojaaDoor
open Go.RowKit Go.Shelf Go.Sort Go.Lib
set_option maxRecDepth 100000

attribute [local go_sem] ext_refl_t ext_alloc_t ext_drew_t ext_drewN_t ext_alloc2_t ext_alloc3_t ext_alloc4_t ext_alloc5_t ext_alloc6_t ext_alloc7_t ext_alloc8_t ext_alloc1d_t ext_alloc2d_t ext_alloc3d_t ext_alloc4d_t
section
variable {w : World}
set_option maxHeartbeats 1600000 in
theorem bsl1t (b : Nat) (hb : b < 256) (hT : T2 w) :
    Calls Tryd.prog 22 #[.int .i64 1, .int .u8 (b : Int), .bool true] w fun e w' => e = .returned (.string (str (bsL 1 b true))) ∧ Ext w w' := by
  by_cases h92 : b = 92
  · subst h92
    go_enter Tryd.func22, Tryd.ntmps22
    go_wp2
    go_ret
    exact ⟨rfl, Ext.refl w⟩
  by_cases h10 : b = 10
  · subst h10
    go_enter Tryd.func22, Tryd.ntmps22
    go_wp2
    go_ret
    exact ⟨rfl, Ext.refl w⟩
  by_cases h13 : b = 13
  · subst h13
    go_enter Tryd.func22, Tryd.ntmps22
    go_wp2
    go_ret
    exact ⟨rfl, Ext.refl w⟩
  by_cases h9 : b = 9
  · subst h9
    go_enter Tryd.func22, Tryd.ntmps22
    go_wp2
    go_ret
    exact ⟨rfl, Ext.refl w⟩
  by_cases h32 : b = 32
  · subst h32
    have hcv : ∀ W : World, (convert 34 9 (.slice (some ⟨W.heap.size, 0, none⟩) 1 1)).run Tryd.prog (W.alloc (.cells #[.int .u8 32] 5)) = .ok (.string (str [32])) (W.alloc (.cells #[.int .u8 32] 5)) := fun W => conv1 W 32 (by omega)
    have hq1 : ((⟨#[92]⟩ : ByteArray)).size + (str [32]).size ≤ 9223372036854775807 := by show 1 + 1 ≤ _; omega
    go_enter Tryd.func22, Tryd.ntmps22
    go_wp2_with (first
      | (go_at_call 34; refine Hid.out ?_))
    refine Hid.mk_ ((ix_no _ 32 hb (by simp [bys, by_])).mono ?_)
    rintro e w1 ⟨rfl, rfl⟩
    first
      | (go_wp2
         go_ret
         exact ⟨rfl, (Ext.refl _).alloc _⟩)
      | (skip
         go_wp2_with (first
           | (go_at_call 32; refine Hid.out ?_))
         refine Hid.mk_ ((control_any 32).mono ?_)
         rintro e w1 ⟨rfl, rfl⟩
         have hc : ctl 32 = false := rfl
         rw [hc]
         go_wp2_with (first
           | (go_at_call 32; refine Hid.out ?_))
         refine Hid.mk_ ((control_any 32).mono ?_)
         rintro e w1 ⟨rfl, rfl⟩
         rw [hc]
         go_wp2
         go_ret
         exact ⟨rfl, (Ext.refl _).alloc _⟩)
  have t1 : ((b : Int) == 92) = false := by rw [beq_eq_false_iff_ne]; omega
  have t2 : ((b : Int) == 10) = false := by rw [beq_eq_false_iff_ne]; omega
  have t3 : ((b : Int) == 13) = false := by rw [beq_eq_false_iff_ne]; omega
  have t4 : ((b : Int) == 9) = false := by rw [beq_eq_false_iff_ne]; omega
  have t5 : ((b : Int) == 32) = false := by rw [beq_eq_false_iff_ne]; omega
  have hcv : ∀ W : World, (convert 34 9 (.slice (some ⟨W.heap.size, 0, none⟩) 1 1)).run Tryd.prog (W.alloc (.cells #[.int .u8 (b : Int)] 5)) = .ok (.string (str [by_ b])) (W.alloc (.cells #[.int .u8 (b : Int)] 5)) := fun W => conv1 W b hb
  have hq1 : ((⟨#[92]⟩ : ByteArray)).size + (str [by_ b]).size ≤ 9223372036854775807 := by show 1 + 1 ≤ _; omega
  have hmm : by_ b ∈ bys (⟨#[61, 58, 35, 33]⟩ : ByteArray) ↔ ([61, 58, 35, 33] : List UInt8).contains (by_ b) = true := by simp [bys]
  have hbb : (by_ b).toNat = b := by unfold by_; rw [UInt8.toNat_ofNat', Nat.mod_eq_of_lt hb]
  by_cases hm : by_ b ∈ bys (⟨#[61, 58, 35, 33]⟩ : ByteArray)
  · have hs : bsL 1 b true = [92, by_ b] := by
      unfold bsL
      rw [if_neg h92, if_neg h10, if_neg h13, if_neg h9, if_pos]
      have hm2 := (all_byte (p := fun b => !([61, 58, 35, 33] : List UInt8).contains (by_ b) || ownB 1 b true) (by kernel_rfl) (by_ b))
      rw [hbb, hmm.1 hm] at hm2
      simpa using hm2
    have HS := Lib.hid hs
    clear hs h92 h10 h13 h9 hmm hbb h32
    go_enter Tryd.func22, Tryd.ntmps22
    go_wp2_with (first
      | (go_at_call 34; refine Hid.out ?_))
    refine Hid.mk_ ((ix_yes _ b hb hm).mono ?_)
    rintro e w1 ⟨r, rfl, rfl⟩
    go_wp2
    go_ret
    exact ⟨ret_str (by rw [bys_app, bys_str, bys_str, HS.out]; rfl), (Ext.refl _).alloc _⟩
  · have ho : ownB 1 b true = false := by
      have hm2 := (all_byte (p := fun b => ([61, 58, 35, 33] : List UInt8).contains (by_ b) || b == 32 || !ownB 1 b true) (by kernel_rfl) (by_ b))
      have hm3 : ([61, 58, 35, 33] : List UInt8).contains (by_ b) = false := by
        rw [Bool.eq_false_iff]
        exact fun h => hm (hmm.2 h)
      rw [hbb, hm3, beq_eq_false_iff_ne.2 h32] at hm2
      simpa using hm2
    have hbs : bsL 1 b true = if ctl b then (if (1 : Nat) = 3 then 92 :: 117 :: 48 :: 48 :: hex2 b else 92 :: 120 :: hex2 b) else [by_ b] := by
      unfold bsL
      rw [if_neg h92, if_neg h10, if_neg h13, if_neg h9, ho]
      rfl
    have HM := Lib.hid hm
    cases hc : ctl b with
    | true =>
      rw [hc] at hbs
      have HS := Lib.hid hbs
      have HC := Lib.hid hc
      have HX := Lib.hid (lowH_4 b hb)
      have hz2 : (str (lowH b 2)).size ≤ 4 := by rw [str_size, lowH_len]; omega
      have hz4 : (str (lowH b 4)).size ≤ 4 := by rw [str_size, lowH_len]; omega
      have hq2 : ((⟨#[92, 120]⟩ : ByteArray)).size + (str (lowH b 2)).size ≤ 9223372036854775807 := by show 2 + _ ≤ _; omega
      have hq4 : ((⟨#[92, 117]⟩ : ByteArray)).size + (str (lowH b 4)).size ≤ 9223372036854775807 := by show 2 + _ ≤ _; omega
      clear hbs hc h92 h10 h13 h9 ho hmm hbb h32 hm
      go_enter Tryd.func22, Tryd.ntmps22
      go_wp2_with (first
        | (go_at_call 34; refine Hid.out ?_))
      refine Hid.mk_ ((ix_no _ b hb HM.out).mono ?_)
      rintro e w1 ⟨rfl, rfl⟩
      go_wp2_with (first
        | (go_at_call 32; refine Hid.out ?_))
      refine Hid.mk_ ((control_any b).mono ?_)
      rintro e w1 ⟨rfl, rfl⟩
      rw [HC.out]
      first
        | (skip
           go_wp2_with (first
             | (go_at_call 35; refine Hid.out ?_))
           refine Hid.mk_ ((hex_any b 4 hb (.inr rfl) hT).mono ?_)
           rintro e w2 ⟨rfl, hE2⟩
           go_wp2
           go_ret
           exact ⟨ret_str (by rw [bys_app, bys_str, bys_str, HS.out, HX.out.2]; rfl), hE2⟩)
        | (skip
           go_wp2_with (first
             | (go_at_call 32; refine Hid.out ?_))
           refine Hid.mk_ ((control_any b).mono ?_)
           rintro e w1 ⟨rfl, rfl⟩
           rw [HC.out]
           go_wp2_with (first
             | (go_at_call 35; refine Hid.out ?_))
           refine Hid.mk_ ((hex_any b 2 hb (.inl rfl) hT).mono ?_)
           rintro e w2 ⟨rfl, hE2⟩
           go_wp2
           go_ret
           exact ⟨ret_str (by rw [bys_app, bys_str, bys_str, HS.out, HX.out.1]; rfl), hE2⟩)
    | false =>
      rw [hc] at hbs
      have HS := Lib.hid hbs
      have HC := Lib.hid hc
      clear hbs hc h92 h10 h13 h9 ho hmm hbb h32 hm
      go_enter Tryd.func22, Tryd.ntmps22
      go_wp2_with (first
        | (go_at_call 34; refine Hid.out ?_))
      refine Hid.mk_ ((ix_no _ b hb HM.out).mono ?_)
      rintro e w1 ⟨rfl, rfl⟩
      go_wp2_with (first
        | (go_at_call 32; refine Hid.out ?_))
      refine Hid.mk_ ((control_any b).mono ?_)
      rintro e w1 ⟨rfl, rfl⟩
      rw [HC.out]
      go_wp2_with (first
        | (go_at_call 32; refine Hid.out ?_))
      refine Hid.mk_ ((control_any b).mono ?_)
      rintro e w1 ⟨rfl, rfl⟩
      rw [HC.out]
      go_wp2
      go_ret
      exact ⟨by rw [HS.out]; rfl, (Ext.refl _).alloc _⟩
set_option maxHeartbeats 1600000 in
theorem bsl1f (b : Nat) (hb : b < 256) (hT : T2 w) :
    Calls Tryd.prog 22 #[.int .i64 1, .int .u8 (b : Int), .bool false] w fun e w' => e = .returned (.string (str (bsL 1 b false))) ∧ Ext w w' := by
  by_cases h92 : b = 92
  · subst h92
    go_enter Tryd.func22, Tryd.ntmps22
    go_wp2
    go_ret
    exact ⟨rfl, Ext.refl w⟩
  by_cases h10 : b = 10
  · subst h10
    go_enter Tryd.func22, Tryd.ntmps22
    go_wp2
    go_ret
    exact ⟨rfl, Ext.refl w⟩
  by_cases h13 : b = 13
  · subst h13
    go_enter Tryd.func22, Tryd.ntmps22
    go_wp2
    go_ret
    exact ⟨rfl, Ext.refl w⟩
  by_cases h9 : b = 9
  · subst h9
    go_enter Tryd.func22, Tryd.ntmps22
    go_wp2
    go_ret
    exact ⟨rfl, Ext.refl w⟩
  by_cases h32 : b = 32
  · subst h32
    have hcv : ∀ W : World, (convert 34 9 (.slice (some ⟨W.heap.size, 0, none⟩) 1 1)).run Tryd.prog (W.alloc (.cells #[.int .u8 32] 5)) = .ok (.string (str [32])) (W.alloc (.cells #[.int .u8 32] 5)) := fun W => conv1 W 32 (by omega)
    have hq1 : ((⟨#[92]⟩ : ByteArray)).size + (str [32]).size ≤ 9223372036854775807 := by show 1 + 1 ≤ _; omega
    go_enter Tryd.func22, Tryd.ntmps22
    go_wp2_with (first
      | (go_at_call 34; refine Hid.out ?_))
    refine Hid.mk_ ((ix_no _ 32 hb (by simp [bys, by_])).mono ?_)
    rintro e w1 ⟨rfl, rfl⟩
    first
      | (go_wp2
         go_ret
         exact ⟨rfl, (Ext.refl _).alloc _⟩)
      | (skip
         go_wp2_with (first
           | (go_at_call 32; refine Hid.out ?_))
         refine Hid.mk_ ((control_any 32).mono ?_)
         rintro e w1 ⟨rfl, rfl⟩
         have hc : ctl 32 = false := rfl
         rw [hc]
         go_wp2_with (first
           | (go_at_call 32; refine Hid.out ?_))
         refine Hid.mk_ ((control_any 32).mono ?_)
         rintro e w1 ⟨rfl, rfl⟩
         rw [hc]
         go_wp2
         go_ret
         exact ⟨rfl, (Ext.refl _).alloc _⟩)
  have t1 : ((b : Int) == 92) = false := by rw [beq_eq_false_iff_ne]; omega
  have t2 : ((b : Int) == 10) = false := by rw [beq_eq_false_iff_ne]; omega
  have t3 : ((b : Int) == 13) = false := by rw [beq_eq_false_iff_ne]; omega
  have t4 : ((b : Int) == 9) = false := by rw [beq_eq_false_iff_ne]; omega
  have t5 : ((b : Int) == 32) = false := by rw [beq_eq_false_iff_ne]; omega
  have hcv : ∀ W : World, (convert 34 9 (.slice (some ⟨W.heap.size, 0, none⟩) 1 1)).run Tryd.prog (W.alloc (.cells #[.int .u8 (b : Int)] 5)) = .ok (.string (str [by_ b])) (W.alloc (.cells #[.int .u8 (b : Int)] 5)) := fun W => conv1 W b hb
  have hq1 : ((⟨#[92]⟩ : ByteArray)).size + (str [by_ b]).size ≤ 9223372036854775807 := by show 1 + 1 ≤ _; omega
  have hmm : by_ b ∈ bys (⟨#[61, 58, 35, 33]⟩ : ByteArray) ↔ ([61, 58, 35, 33] : List UInt8).contains (by_ b) = true := by simp [bys]
  have hbb : (by_ b).toNat = b := by unfold by_; rw [UInt8.toNat_ofNat', Nat.mod_eq_of_lt hb]
  by_cases hm : by_ b ∈ bys (⟨#[61, 58, 35, 33]⟩ : ByteArray)
  · have hs : bsL 1 b false = [92, by_ b] := by
      unfold bsL
      rw [if_neg h92, if_neg h10, if_neg h13, if_neg h9, if_pos]
      have hm2 := (all_byte (p := fun b => !([61, 58, 35, 33] : List UInt8).contains (by_ b) || ownB 1 b false) (by kernel_rfl) (by_ b))
      rw [hbb, hmm.1 hm] at hm2
      simpa using hm2
    have HS := Lib.hid hs
    clear hs h92 h10 h13 h9 hmm hbb h32
    go_enter Tryd.func22, Tryd.ntmps22
    go_wp2_with (first
      | (go_at_call 34; refine Hid.out ?_))
    refine Hid.mk_ ((ix_yes _ b hb hm).mono ?_)
    rintro e w1 ⟨r, rfl, rfl⟩
    go_wp2
    go_ret
    exact ⟨ret_str (by rw [bys_app, bys_str, bys_str, HS.out]; rfl), (Ext.refl _).alloc _⟩
  · have ho : ownB 1 b false = false := by
      have hm2 := (all_byte (p := fun b => ([61, 58, 35, 33] : List UInt8).contains (by_ b) || b == 32 || !ownB 1 b false) (by kernel_rfl) (by_ b))
      have hm3 : ([61, 58, 35, 33] : List UInt8).contains (by_ b) = false := by
        rw [Bool.eq_false_iff]
        exact fun h => hm (hmm.2 h)
      rw [hbb, hm3, beq_eq_false_iff_ne.2 h32] at hm2
      simpa using hm2
    have hbs : bsL 1 b false = if ctl b then (if (1 : Nat) = 3 then 92 :: 117 :: 48 :: 48 :: hex2 b else 92 :: 120 :: hex2 b) else [by_ b] := by
      unfold bsL
      rw [if_neg h92, if_neg h10, if_neg h13, if_neg h9, ho]
      rfl
    have HM := Lib.hid hm
    cases hc : ctl b with
    | true =>
      rw [hc] at hbs
      have HS := Lib.hid hbs
      have HC := Lib.hid hc
      have HX := Lib.hid (lowH_4 b hb)
      have hz2 : (str (lowH b 2)).size ≤ 4 := by rw [str_size, lowH_len]; omega
      have hz4 : (str (lowH b 4)).size ≤ 4 := by rw [str_size, lowH_len]; omega
      have hq2 : ((⟨#[92, 120]⟩ : ByteArray)).size + (str (lowH b 2)).size ≤ 9223372036854775807 := by show 2 + _ ≤ _; omega
      have hq4 : ((⟨#[92, 117]⟩ : ByteArray)).size + (str (lowH b 4)).size ≤ 9223372036854775807 := by show 2 + _ ≤ _; omega
      clear hbs hc h92 h10 h13 h9 ho hmm hbb h32 hm
      go_enter Tryd.func22, Tryd.ntmps22
      go_wp2_with (first
        | (go_at_call 34; refine Hid.out ?_))
      refine Hid.mk_ ((ix_no _ b hb HM.out).mono ?_)
      rintro e w1 ⟨rfl, rfl⟩
      go_wp2_with (first
        | (go_at_call 32; refine Hid.out ?_))
      refine Hid.mk_ ((control_any b).mono ?_)
      rintro e w1 ⟨rfl, rfl⟩
      rw [HC.out]
      first
        | (skip
           go_wp2_with (first
             | (go_at_call 35; refine Hid.out ?_))
           refine Hid.mk_ ((hex_any b 4 hb (.inr rfl) hT).mono ?_)
           rintro e w2 ⟨rfl, hE2⟩
           go_wp2
           go_ret
           exact ⟨ret_str (by rw [bys_app, bys_str, bys_str, HS.out, HX.out.2]; rfl), hE2⟩)
        | (skip
           go_wp2_with (first
             | (go_at_call 32; refine Hid.out ?_))
           refine Hid.mk_ ((control_any b).mono ?_)
           rintro e w1 ⟨rfl, rfl⟩
           rw [HC.out]
           go_wp2_with (first
             | (go_at_call 35; refine Hid.out ?_))
           refine Hid.mk_ ((hex_any b 2 hb (.inl rfl) hT).mono ?_)
           rintro e w2 ⟨rfl, hE2⟩
           go_wp2
           go_ret
           exact ⟨ret_str (by rw [bys_app, bys_str, bys_str, HS.out, HX.out.1]; rfl), hE2⟩)
    | false =>
      rw [hc] at hbs
      have HS := Lib.hid hbs
      have HC := Lib.hid hc
      clear hbs hc h92 h10 h13 h9 ho hmm hbb h32 hm
      go_enter Tryd.func22, Tryd.ntmps22
      go_wp2_with (first
        | (go_at_call 34; refine Hid.out ?_))
      refine Hid.mk_ ((ix_no _ b hb HM.out).mono ?_)
      rintro e w1 ⟨rfl, rfl⟩
      go_wp2_with (first
        | (go_at_call 32; refine Hid.out ?_))
      refine Hid.mk_ ((control_any b).mono ?_)
      rintro e w1 ⟨rfl, rfl⟩
      rw [HC.out]
      go_wp2_with (first
        | (go_at_call 32; refine Hid.out ?_))
      refine Hid.mk_ ((control_any b).mono ?_)
      rintro e w1 ⟨rfl, rfl⟩
      rw [HC.out]
      go_wp2
      go_ret
      exact ⟨by rw [HS.out]; rfl, (Ext.refl _).alloc _⟩
set_option maxHeartbeats 1600000 in
theorem bsl2t (b : Nat) (hb : b < 256) (hT : T2 w) :
    Calls Tryd.prog 22 #[.int .i64 2, .int .u8 (b : Int), .bool true] w fun e w' => e = .returned (.string (str (bsL 2 b true))) ∧ Ext w w' := by
  by_cases h92 : b = 92
  · subst h92
    go_enter Tryd.func22, Tryd.ntmps22
    go_wp2
    go_ret
    exact ⟨rfl, Ext.refl w⟩
  by_cases h10 : b = 10
  · subst h10
    go_enter Tryd.func22, Tryd.ntmps22
    go_wp2
    go_ret
    exact ⟨rfl, Ext.refl w⟩
  by_cases h13 : b = 13
  · subst h13
    go_enter Tryd.func22, Tryd.ntmps22
    go_wp2
    go_ret
    exact ⟨rfl, Ext.refl w⟩
  by_cases h9 : b = 9
  · subst h9
    go_enter Tryd.func22, Tryd.ntmps22
    go_wp2
    go_ret
    exact ⟨rfl, Ext.refl w⟩
  by_cases h32 : b = 32
  · subst h32
    have hcv : ∀ W : World, (convert 34 9 (.slice (some ⟨W.heap.size, 0, none⟩) 1 1)).run Tryd.prog (W.alloc (.cells #[.int .u8 32] 5)) = .ok (.string (str [32])) (W.alloc (.cells #[.int .u8 32] 5)) := fun W => conv1 W 32 (by omega)
    have hq1 : ((⟨#[92]⟩ : ByteArray)).size + (str [32]).size ≤ 9223372036854775807 := by show 1 + 1 ≤ _; omega
    go_enter Tryd.func22, Tryd.ntmps22
    go_wp2_with (first
      | (go_at_call 34; refine Hid.out ?_))
    refine Hid.mk_ ((ix_no _ 32 hb (by simp [bys, by_])).mono ?_)
    rintro e w1 ⟨rfl, rfl⟩
    first
      | (go_wp2
         go_ret
         exact ⟨rfl, (Ext.refl _).alloc _⟩)
      | (skip
         go_wp2_with (first
           | (go_at_call 32; refine Hid.out ?_))
         refine Hid.mk_ ((control_any 32).mono ?_)
         rintro e w1 ⟨rfl, rfl⟩
         have hc : ctl 32 = false := rfl
         rw [hc]
         go_wp2_with (first
           | (go_at_call 32; refine Hid.out ?_))
         refine Hid.mk_ ((control_any 32).mono ?_)
         rintro e w1 ⟨rfl, rfl⟩
         rw [hc]
         go_wp2
         go_ret
         exact ⟨rfl, (Ext.refl _).alloc _⟩)
  have t1 : ((b : Int) == 92) = false := by rw [beq_eq_false_iff_ne]; omega
  have t2 : ((b : Int) == 10) = false := by rw [beq_eq_false_iff_ne]; omega
  have t3 : ((b : Int) == 13) = false := by rw [beq_eq_false_iff_ne]; omega
  have t4 : ((b : Int) == 9) = false := by rw [beq_eq_false_iff_ne]; omega
  have t5 : ((b : Int) == 32) = false := by rw [beq_eq_false_iff_ne]; omega
  have hcv : ∀ W : World, (convert 34 9 (.slice (some ⟨W.heap.size, 0, none⟩) 1 1)).run Tryd.prog (W.alloc (.cells #[.int .u8 (b : Int)] 5)) = .ok (.string (str [by_ b])) (W.alloc (.cells #[.int .u8 (b : Int)] 5)) := fun W => conv1 W b hb
  have hq1 : ((⟨#[92]⟩ : ByteArray)).size + (str [by_ b]).size ≤ 9223372036854775807 := by show 1 + 1 ≤ _; omega
  have hmm : by_ b ∈ bys (⟨#[34]⟩ : ByteArray) ↔ ([34] : List UInt8).contains (by_ b) = true := by simp [bys]
  have hbb : (by_ b).toNat = b := by unfold by_; rw [UInt8.toNat_ofNat', Nat.mod_eq_of_lt hb]
  by_cases hm : by_ b ∈ bys (⟨#[34]⟩ : ByteArray)
  · have hs : bsL 2 b true = [92, by_ b] := by
      unfold bsL
      rw [if_neg h92, if_neg h10, if_neg h13, if_neg h9, if_pos]
      have hm2 := (all_byte (p := fun b => !([34] : List UInt8).contains (by_ b) || ownB 2 b true) (by kernel_rfl) (by_ b))
      rw [hbb, hmm.1 hm] at hm2
      simpa using hm2
    have HS := Lib.hid hs
    clear hs h92 h10 h13 h9 hmm hbb h32
    go_enter Tryd.func22, Tryd.ntmps22
    go_wp2_with (first
      | (go_at_call 34; refine Hid.out ?_))
    refine Hid.mk_ ((ix_yes _ b hb hm).mono ?_)
    rintro e w1 ⟨r, rfl, rfl⟩
    go_wp2
    go_ret
    exact ⟨ret_str (by rw [bys_app, bys_str, bys_str, HS.out]; rfl), (Ext.refl _).alloc _⟩
  · have ho : ownB 2 b true = false := by
      have hm2 := (all_byte (p := fun b => ([34] : List UInt8).contains (by_ b) || b == 32 || !ownB 2 b true) (by kernel_rfl) (by_ b))
      have hm3 : ([34] : List UInt8).contains (by_ b) = false := by
        rw [Bool.eq_false_iff]
        exact fun h => hm (hmm.2 h)
      rw [hbb, hm3, beq_eq_false_iff_ne.2 h32] at hm2
      simpa using hm2
    have hbs : bsL 2 b true = if ctl b then (if (2 : Nat) = 3 then 92 :: 117 :: 48 :: 48 :: hex2 b else 92 :: 120 :: hex2 b) else [by_ b] := by
      unfold bsL
      rw [if_neg h92, if_neg h10, if_neg h13, if_neg h9, ho]
      rfl
    have HM := Lib.hid hm
    cases hc : ctl b with
    | true =>
      rw [hc] at hbs
      have HS := Lib.hid hbs
      have HC := Lib.hid hc
      have HX := Lib.hid (lowH_4 b hb)
      have hz2 : (str (lowH b 2)).size ≤ 4 := by rw [str_size, lowH_len]; omega
      have hz4 : (str (lowH b 4)).size ≤ 4 := by rw [str_size, lowH_len]; omega
      have hq2 : ((⟨#[92, 120]⟩ : ByteArray)).size + (str (lowH b 2)).size ≤ 9223372036854775807 := by show 2 + _ ≤ _; omega
      have hq4 : ((⟨#[92, 117]⟩ : ByteArray)).size + (str (lowH b 4)).size ≤ 9223372036854775807 := by show 2 + _ ≤ _; omega
      clear hbs hc h92 h10 h13 h9 ho hmm hbb h32 hm
      go_enter Tryd.func22, Tryd.ntmps22
      go_wp2_with (first
        | (go_at_call 34; refine Hid.out ?_))
      refine Hid.mk_ ((ix_no _ b hb HM.out).mono ?_)
      rintro e w1 ⟨rfl, rfl⟩
      go_wp2_with (first
        | (go_at_call 32; refine Hid.out ?_))
      refine Hid.mk_ ((control_any b).mono ?_)
      rintro e w1 ⟨rfl, rfl⟩
      rw [HC.out]
      first
        | (skip
           go_wp2_with (first
             | (go_at_call 35; refine Hid.out ?_))
           refine Hid.mk_ ((hex_any b 4 hb (.inr rfl) hT).mono ?_)
           rintro e w2 ⟨rfl, hE2⟩
           go_wp2
           go_ret
           exact ⟨ret_str (by rw [bys_app, bys_str, bys_str, HS.out, HX.out.2]; rfl), hE2⟩)
        | (skip
           go_wp2_with (first
             | (go_at_call 32; refine Hid.out ?_))
           refine Hid.mk_ ((control_any b).mono ?_)
           rintro e w1 ⟨rfl, rfl⟩
           rw [HC.out]
           go_wp2_with (first
             | (go_at_call 35; refine Hid.out ?_))
           refine Hid.mk_ ((hex_any b 2 hb (.inl rfl) hT).mono ?_)
           rintro e w2 ⟨rfl, hE2⟩
           go_wp2
           go_ret
           exact ⟨ret_str (by rw [bys_app, bys_str, bys_str, HS.out, HX.out.1]; rfl), hE2⟩)
    | false =>
      rw [hc] at hbs
      have HS := Lib.hid hbs
      have HC := Lib.hid hc
      clear hbs hc h92 h10 h13 h9 ho hmm hbb h32 hm
      go_enter Tryd.func22, Tryd.ntmps22
      go_wp2_with (first
        | (go_at_call 34; refine Hid.out ?_))
      refine Hid.mk_ ((ix_no _ b hb HM.out).mono ?_)
      rintro e w1 ⟨rfl, rfl⟩
      go_wp2_with (first
        | (go_at_call 32; refine Hid.out ?_))
      refine Hid.mk_ ((control_any b).mono ?_)
      rintro e w1 ⟨rfl, rfl⟩
      rw [HC.out]
      go_wp2_with (first
        | (go_at_call 32; refine Hid.out ?_))
      refine Hid.mk_ ((control_any b).mono ?_)
      rintro e w1 ⟨rfl, rfl⟩
      rw [HC.out]
      go_wp2
      go_ret
      exact ⟨by rw [HS.out]; rfl, (Ext.refl _).alloc _⟩
set_option maxHeartbeats 1600000 in
theorem bsl2f (b : Nat) (hb : b < 256) (hT : T2 w) :
    Calls Tryd.prog 22 #[.int .i64 2, .int .u8 (b : Int), .bool false] w fun e w' => e = .returned (.string (str (bsL 2 b false))) ∧ Ext w w' := by
  by_cases h92 : b = 92
  · subst h92
    go_enter Tryd.func22, Tryd.ntmps22
    go_wp2
    go_ret
    exact ⟨rfl, Ext.refl w⟩
  by_cases h10 : b = 10
  · subst h10
    go_enter Tryd.func22, Tryd.ntmps22
    go_wp2
    go_ret
    exact ⟨rfl, Ext.refl w⟩
  by_cases h13 : b = 13
  · subst h13
    go_enter Tryd.func22, Tryd.ntmps22
    go_wp2
    go_ret
    exact ⟨rfl, Ext.refl w⟩
  by_cases h9 : b = 9
  · subst h9
    go_enter Tryd.func22, Tryd.ntmps22
    go_wp2
    go_ret
    exact ⟨rfl, Ext.refl w⟩
  by_cases h32 : b = 32
  · subst h32
    have hcv : ∀ W : World, (convert 34 9 (.slice (some ⟨W.heap.size, 0, none⟩) 1 1)).run Tryd.prog (W.alloc (.cells #[.int .u8 32] 5)) = .ok (.string (str [32])) (W.alloc (.cells #[.int .u8 32] 5)) := fun W => conv1 W 32 (by omega)
    have hq1 : ((⟨#[92]⟩ : ByteArray)).size + (str [32]).size ≤ 9223372036854775807 := by show 1 + 1 ≤ _; omega
    go_enter Tryd.func22, Tryd.ntmps22
    go_wp2_with (first
      | (go_at_call 34; refine Hid.out ?_))
    refine Hid.mk_ ((ix_no _ 32 hb (by simp [bys, by_])).mono ?_)
    rintro e w1 ⟨rfl, rfl⟩
    first
      | (go_wp2
         go_ret
         exact ⟨rfl, (Ext.refl _).alloc _⟩)
      | (skip
         go_wp2_with (first
           | (go_at_call 32; refine Hid.out ?_))
         refine Hid.mk_ ((control_any 32).mono ?_)
         rintro e w1 ⟨rfl, rfl⟩
         have hc : ctl 32 = false := rfl
         rw [hc]
         go_wp2_with (first
           | (go_at_call 32; refine Hid.out ?_))
         refine Hid.mk_ ((control_any 32).mono ?_)
         rintro e w1 ⟨rfl, rfl⟩
         rw [hc]
         go_wp2
         go_ret
         exact ⟨rfl, (Ext.refl _).alloc _⟩)
  have t1 : ((b : Int) == 92) = false := by rw [beq_eq_false_iff_ne]; omega
  have t2 : ((b : Int) == 10) = false := by rw [beq_eq_false_iff_ne]; omega
  have t3 : ((b : Int) == 13) = false := by rw [beq_eq_false_iff_ne]; omega
  have t4 : ((b : Int) == 9) = false := by rw [beq_eq_false_iff_ne]; omega
  have t5 : ((b : Int) == 32) = false := by rw [beq_eq_false_iff_ne]; omega
  have hcv : ∀ W : World, (convert 34 9 (.slice (some ⟨W.heap.size, 0, none⟩) 1 1)).run Tryd.prog (W.alloc (.cells #[.int .u8 (b : Int)] 5)) = .ok (.string (str [by_ b])) (W.alloc (.cells #[.int .u8 (b : Int)] 5)) := fun W => conv1 W b hb
  have hq1 : ((⟨#[92]⟩ : ByteArray)).size + (str [by_ b]).size ≤ 9223372036854775807 := by show 1 + 1 ≤ _; omega
  have hmm : by_ b ∈ bys (⟨#[34]⟩ : ByteArray) ↔ ([34] : List UInt8).contains (by_ b) = true := by simp [bys]
  have hbb : (by_ b).toNat = b := by unfold by_; rw [UInt8.toNat_ofNat', Nat.mod_eq_of_lt hb]
  by_cases hm : by_ b ∈ bys (⟨#[34]⟩ : ByteArray)
  · have hs : bsL 2 b false = [92, by_ b] := by
      unfold bsL
      rw [if_neg h92, if_neg h10, if_neg h13, if_neg h9, if_pos]
      have hm2 := (all_byte (p := fun b => !([34] : List UInt8).contains (by_ b) || ownB 2 b false) (by kernel_rfl) (by_ b))
      rw [hbb, hmm.1 hm] at hm2
      simpa using hm2
    have HS := Lib.hid hs
    clear hs h92 h10 h13 h9 hmm hbb h32
    go_enter Tryd.func22, Tryd.ntmps22
    go_wp2_with (first
      | (go_at_call 34; refine Hid.out ?_))
    refine Hid.mk_ ((ix_yes _ b hb hm).mono ?_)
    rintro e w1 ⟨r, rfl, rfl⟩
    go_wp2
    go_ret
    exact ⟨ret_str (by rw [bys_app, bys_str, bys_str, HS.out]; rfl), (Ext.refl _).alloc _⟩
  · have ho : ownB 2 b false = false := by
      have hm2 := (all_byte (p := fun b => ([34] : List UInt8).contains (by_ b) || b == 32 || !ownB 2 b false) (by kernel_rfl) (by_ b))
      have hm3 : ([34] : List UInt8).contains (by_ b) = false := by
        rw [Bool.eq_false_iff]
        exact fun h => hm (hmm.2 h)
      rw [hbb, hm3, beq_eq_false_iff_ne.2 h32] at hm2
      simpa using hm2
    have hbs : bsL 2 b false = if ctl b then (if (2 : Nat) = 3 then 92 :: 117 :: 48 :: 48 :: hex2 b else 92 :: 120 :: hex2 b) else [by_ b] := by
      unfold bsL
      rw [if_neg h92, if_neg h10, if_neg h13, if_neg h9, ho]
      rfl
    have HM := Lib.hid hm
    cases hc : ctl b with
    | true =>
      rw [hc] at hbs
      have HS := Lib.hid hbs
      have HC := Lib.hid hc
      have HX := Lib.hid (lowH_4 b hb)
      have hz2 : (str (lowH b 2)).size ≤ 4 := by rw [str_size, lowH_len]; omega
      have hz4 : (str (lowH b 4)).size ≤ 4 := by rw [str_size, lowH_len]; omega
      have hq2 : ((⟨#[92, 120]⟩ : ByteArray)).size + (str (lowH b 2)).size ≤ 9223372036854775807 := by show 2 + _ ≤ _; omega
      have hq4 : ((⟨#[92, 117]⟩ : ByteArray)).size + (str (lowH b 4)).size ≤ 9223372036854775807 := by show 2 + _ ≤ _; omega
      clear hbs hc h92 h10 h13 h9 ho hmm hbb h32 hm
      go_enter Tryd.func22, Tryd.ntmps22
      go_wp2_with (first
        | (go_at_call 34; refine Hid.out ?_))
      refine Hid.mk_ ((ix_no _ b hb HM.out).mono ?_)
      rintro e w1 ⟨rfl, rfl⟩
      go_wp2_with (first
        | (go_at_call 32; refine Hid.out ?_))
      refine Hid.mk_ ((control_any b).mono ?_)
      rintro e w1 ⟨rfl, rfl⟩
      rw [HC.out]
      first
        | (skip
           go_wp2_with (first
             | (go_at_call 35; refine Hid.out ?_))
           refine Hid.mk_ ((hex_any b 4 hb (.inr rfl) hT).mono ?_)
           rintro e w2 ⟨rfl, hE2⟩
           go_wp2
           go_ret
           exact ⟨ret_str (by rw [bys_app, bys_str, bys_str, HS.out, HX.out.2]; rfl), hE2⟩)
        | (skip
           go_wp2_with (first
             | (go_at_call 32; refine Hid.out ?_))
           refine Hid.mk_ ((control_any b).mono ?_)
           rintro e w1 ⟨rfl, rfl⟩
           rw [HC.out]
           go_wp2_with (first
             | (go_at_call 35; refine Hid.out ?_))
           refine Hid.mk_ ((hex_any b 2 hb (.inl rfl) hT).mono ?_)
           rintro e w2 ⟨rfl, hE2⟩
           go_wp2
           go_ret
           exact ⟨ret_str (by rw [bys_app, bys_str, bys_str, HS.out, HX.out.1]; rfl), hE2⟩)
    | false =>
      rw [hc] at hbs
      have HS := Lib.hid hbs
      have HC := Lib.hid hc
      clear hbs hc h92 h10 h13 h9 ho hmm hbb h32 hm
      go_enter Tryd.func22, Tryd.ntmps22
      go_wp2_with (first
        | (go_at_call 34; refine Hid.out ?_))
      refine Hid.mk_ ((ix_no _ b hb HM.out).mono ?_)
      rintro e w1 ⟨rfl, rfl⟩
      go_wp2_with (first
        | (go_at_call 32; refine Hid.out ?_))
      refine Hid.mk_ ((control_any b).mono ?_)
      rintro e w1 ⟨rfl, rfl⟩
      rw [HC.out]
      go_wp2_with (first
        | (go_at_call 32; refine Hid.out ?_))
      refine Hid.mk_ ((control_any b).mono ?_)
      rintro e w1 ⟨rfl, rfl⟩
      rw [HC.out]
      go_wp2
      go_ret
      exact ⟨by rw [HS.out]; rfl, (Ext.refl _).alloc _⟩
set_option maxHeartbeats 1600000 in
theorem bsl3t (b : Nat) (hb : b < 256) (hT : T2 w) :
    Calls Tryd.prog 22 #[.int .i64 3, .int .u8 (b : Int), .bool true] w fun e w' => e = .returned (.string (str (bsL 3 b true))) ∧ Ext w w' := by
  by_cases h92 : b = 92
  · subst h92
    go_enter Tryd.func22, Tryd.ntmps22
    go_wp2
    go_ret
    exact ⟨rfl, Ext.refl w⟩
  by_cases h10 : b = 10
  · subst h10
    go_enter Tryd.func22, Tryd.ntmps22
    go_wp2
    go_ret
    exact ⟨rfl, Ext.refl w⟩
  by_cases h13 : b = 13
  · subst h13
    go_enter Tryd.func22, Tryd.ntmps22
    go_wp2
    go_ret
    exact ⟨rfl, Ext.refl w⟩
  by_cases h9 : b = 9
  · subst h9
    go_enter Tryd.func22, Tryd.ntmps22
    go_wp2
    go_ret
    exact ⟨rfl, Ext.refl w⟩
  by_cases h32 : b = 32
  · subst h32
    have hcv : ∀ W : World, (convert 34 9 (.slice (some ⟨W.heap.size, 0, none⟩) 1 1)).run Tryd.prog (W.alloc (.cells #[.int .u8 32] 5)) = .ok (.string (str [32])) (W.alloc (.cells #[.int .u8 32] 5)) := fun W => conv1 W 32 (by omega)
    have hq1 : ((⟨#[92]⟩ : ByteArray)).size + (str [32]).size ≤ 9223372036854775807 := by show 1 + 1 ≤ _; omega
    go_enter Tryd.func22, Tryd.ntmps22
    go_wp2_with (first
      | (go_at_call 34; refine Hid.out ?_))
    refine Hid.mk_ ((ix_no _ 32 hb (by simp [bys, by_])).mono ?_)
    rintro e w1 ⟨rfl, rfl⟩
    first
      | (go_wp2
         go_ret
         exact ⟨rfl, (Ext.refl _).alloc _⟩)
      | (skip
         go_wp2_with (first
           | (go_at_call 32; refine Hid.out ?_))
         refine Hid.mk_ ((control_any 32).mono ?_)
         rintro e w1 ⟨rfl, rfl⟩
         have hc : ctl 32 = false := rfl
         rw [hc]
         go_wp2_with (first
           | (go_at_call 32; refine Hid.out ?_))
         refine Hid.mk_ ((control_any 32).mono ?_)
         rintro e w1 ⟨rfl, rfl⟩
         rw [hc]
         go_wp2
         go_ret
         exact ⟨rfl, (Ext.refl _).alloc _⟩)
  have t1 : ((b : Int) == 92) = false := by rw [beq_eq_false_iff_ne]; omega
  have t2 : ((b : Int) == 10) = false := by rw [beq_eq_false_iff_ne]; omega
  have t3 : ((b : Int) == 13) = false := by rw [beq_eq_false_iff_ne]; omega
  have t4 : ((b : Int) == 9) = false := by rw [beq_eq_false_iff_ne]; omega
  have t5 : ((b : Int) == 32) = false := by rw [beq_eq_false_iff_ne]; omega
  have hcv : ∀ W : World, (convert 34 9 (.slice (some ⟨W.heap.size, 0, none⟩) 1 1)).run Tryd.prog (W.alloc (.cells #[.int .u8 (b : Int)] 5)) = .ok (.string (str [by_ b])) (W.alloc (.cells #[.int .u8 (b : Int)] 5)) := fun W => conv1 W b hb
  have hq1 : ((⟨#[92]⟩ : ByteArray)).size + (str [by_ b]).size ≤ 9223372036854775807 := by show 1 + 1 ≤ _; omega
  have hmm : by_ b ∈ bys (⟨#[34, 123, 125]⟩ : ByteArray) ↔ ([34, 123, 125] : List UInt8).contains (by_ b) = true := by simp [bys]
  have hbb : (by_ b).toNat = b := by unfold by_; rw [UInt8.toNat_ofNat', Nat.mod_eq_of_lt hb]
  by_cases hm : by_ b ∈ bys (⟨#[34, 123, 125]⟩ : ByteArray)
  · have hs : bsL 3 b true = [92, by_ b] := by
      unfold bsL
      rw [if_neg h92, if_neg h10, if_neg h13, if_neg h9, if_pos]
      have hm2 := (all_byte (p := fun b => !([34, 123, 125] : List UInt8).contains (by_ b) || ownB 3 b true) (by kernel_rfl) (by_ b))
      rw [hbb, hmm.1 hm] at hm2
      simpa using hm2
    have HS := Lib.hid hs
    clear hs h92 h10 h13 h9 hmm hbb h32
    go_enter Tryd.func22, Tryd.ntmps22
    go_wp2_with (first
      | (go_at_call 34; refine Hid.out ?_))
    refine Hid.mk_ ((ix_yes _ b hb hm).mono ?_)
    rintro e w1 ⟨r, rfl, rfl⟩
    go_wp2
    go_ret
    exact ⟨ret_str (by rw [bys_app, bys_str, bys_str, HS.out]; rfl), (Ext.refl _).alloc _⟩
  · have ho : ownB 3 b true = false := by
      have hm2 := (all_byte (p := fun b => ([34, 123, 125] : List UInt8).contains (by_ b) || b == 32 || !ownB 3 b true) (by kernel_rfl) (by_ b))
      have hm3 : ([34, 123, 125] : List UInt8).contains (by_ b) = false := by
        rw [Bool.eq_false_iff]
        exact fun h => hm (hmm.2 h)
      rw [hbb, hm3, beq_eq_false_iff_ne.2 h32] at hm2
      simpa using hm2
    have hbs : bsL 3 b true = if ctl b then (if (3 : Nat) = 3 then 92 :: 117 :: 48 :: 48 :: hex2 b else 92 :: 120 :: hex2 b) else [by_ b] := by
      unfold bsL
      rw [if_neg h92, if_neg h10, if_neg h13, if_neg h9, ho]
      rfl
    have HM := Lib.hid hm
    cases hc : ctl b with
    | true =>
      rw [hc] at hbs
      have HS := Lib.hid hbs
      have HC := Lib.hid hc
      have HX := Lib.hid (lowH_4 b hb)
      have hz2 : (str (lowH b 2)).size ≤ 4 := by rw [str_size, lowH_len]; omega
      have hz4 : (str (lowH b 4)).size ≤ 4 := by rw [str_size, lowH_len]; omega
      have hq2 : ((⟨#[92, 120]⟩ : ByteArray)).size + (str (lowH b 2)).size ≤ 9223372036854775807 := by show 2 + _ ≤ _; omega
      have hq4 : ((⟨#[92, 117]⟩ : ByteArray)).size + (str (lowH b 4)).size ≤ 9223372036854775807 := by show 2 + _ ≤ _; omega
      clear hbs hc h92 h10 h13 h9 ho hmm hbb h32 hm
      go_enter Tryd.func22, Tryd.ntmps22
      go_wp2_with (first
        | (go_at_call 34; refine Hid.out ?_))
      refine Hid.mk_ ((ix_no _ b hb HM.out).mono ?_)
      rintro e w1 ⟨rfl, rfl⟩
      go_wp2_with (first
        | (go_at_call 32; refine Hid.out ?_))
      refine Hid.mk_ ((control_any b).mono ?_)
      rintro e w1 ⟨rfl, rfl⟩
      rw [HC.out]
      first
        | (skip
           go_wp2_with (first
             | (go_at_call 35; refine Hid.out ?_))
           refine Hid.mk_ ((hex_any b 4 hb (.inr rfl) hT).mono ?_)
           rintro e w2 ⟨rfl, hE2⟩
           go_wp2
           go_ret
           exact ⟨ret_str (by rw [bys_app, bys_str, bys_str, HS.out, HX.out.2]; rfl), hE2⟩)
        | (skip
           go_wp2_with (first
             | (go_at_call 32; refine Hid.out ?_))
           refine Hid.mk_ ((control_any b).mono ?_)
           rintro e w1 ⟨rfl, rfl⟩
           rw [HC.out]
           go_wp2_with (first
             | (go_at_call 35; refine Hid.out ?_))
           refine Hid.mk_ ((hex_any b 2 hb (.inl rfl) hT).mono ?_)
           rintro e w2 ⟨rfl, hE2⟩
           go_wp2
           go_ret
           exact ⟨ret_str (by rw [bys_app, bys_str, bys_str, HS.out, HX.out.1]; rfl), hE2⟩)
    | false =>
      rw [hc] at hbs
      have HS := Lib.hid hbs
      have HC := Lib.hid hc
      clear hbs hc h92 h10 h13 h9 ho hmm hbb h32 hm
      go_enter Tryd.func22, Tryd.ntmps22
      go_wp2_with (first
        | (go_at_call 34; refine Hid.out ?_))
      refine Hid.mk_ ((ix_no _ b hb HM.out).mono ?_)
      rintro e w1 ⟨rfl, rfl⟩
      go_wp2_with (first
        | (go_at_call 32; refine Hid.out ?_))
      refine Hid.mk_ ((control_any b).mono ?_)
      rintro e w1 ⟨rfl, rfl⟩
      rw [HC.out]
      go_wp2_with (first
        | (go_at_call 32; refine Hid.out ?_))
      refine Hid.mk_ ((control_any b).mono ?_)
      rintro e w1 ⟨rfl, rfl⟩
      rw [HC.out]
      go_wp2
      go_ret
      exact ⟨by rw [HS.out]; rfl, (Ext.refl _).alloc _⟩
set_option maxHeartbeats 1600000 in
theorem bsl3f (b : Nat) (hb : b < 256) (hT : T2 w) :
    Calls Tryd.prog 22 #[.int .i64 3, .int .u8 (b : Int), .bool false] w fun e w' => e = .returned (.string (str (bsL 3 b false))) ∧ Ext w w' := by
  by_cases h92 : b = 92
  · subst h92
    go_enter Tryd.func22, Tryd.ntmps22
    go_wp2
    go_ret
    exact ⟨rfl, Ext.refl w⟩
  by_cases h10 : b = 10
  · subst h10
    go_enter Tryd.func22, Tryd.ntmps22
    go_wp2
    go_ret
    exact ⟨rfl, Ext.refl w⟩
  by_cases h13 : b = 13
  · subst h13
    go_enter Tryd.func22, Tryd.ntmps22
    go_wp2
    go_ret
    exact ⟨rfl, Ext.refl w⟩
  by_cases h9 : b = 9
  · subst h9
    go_enter Tryd.func22, Tryd.ntmps22
    go_wp2
    go_ret
    exact ⟨rfl, Ext.refl w⟩
  by_cases h32 : b = 32
  · subst h32
    have hcv : ∀ W : World, (convert 34 9 (.slice (some ⟨W.heap.size, 0, none⟩) 1 1)).run Tryd.prog (W.alloc (.cells #[.int .u8 32] 5)) = .ok (.string (str [32])) (W.alloc (.cells #[.int .u8 32] 5)) := fun W => conv1 W 32 (by omega)
    have hq1 : ((⟨#[92]⟩ : ByteArray)).size + (str [32]).size ≤ 9223372036854775807 := by show 1 + 1 ≤ _; omega
    go_enter Tryd.func22, Tryd.ntmps22
    go_wp2_with (first
      | (go_at_call 34; refine Hid.out ?_))
    refine Hid.mk_ ((ix_no _ 32 hb (by simp [bys, by_])).mono ?_)
    rintro e w1 ⟨rfl, rfl⟩
    first
      | (go_wp2
         go_ret
         exact ⟨rfl, (Ext.refl _).alloc _⟩)
      | (skip
         go_wp2_with (first
           | (go_at_call 32; refine Hid.out ?_))
         refine Hid.mk_ ((control_any 32).mono ?_)
         rintro e w1 ⟨rfl, rfl⟩
         have hc : ctl 32 = false := rfl
         rw [hc]
         go_wp2_with (first
           | (go_at_call 32; refine Hid.out ?_))
         refine Hid.mk_ ((control_any 32).mono ?_)
         rintro e w1 ⟨rfl, rfl⟩
         rw [hc]
         go_wp2
         go_ret
         exact ⟨rfl, (Ext.refl _).alloc _⟩)
  have t1 : ((b : Int) == 92) = false := by rw [beq_eq_false_iff_ne]; omega
  have t2 : ((b : Int) == 10) = false := by rw [beq_eq_false_iff_ne]; omega
  have t3 : ((b : Int) == 13) = false := by rw [beq_eq_false_iff_ne]; omega
  have t4 : ((b : Int) == 9) = false := by rw [beq_eq_false_iff_ne]; omega
  have t5 : ((b : Int) == 32) = false := by rw [beq_eq_false_iff_ne]; omega
  have hcv : ∀ W : World, (convert 34 9 (.slice (some ⟨W.heap.size, 0, none⟩) 1 1)).run Tryd.prog (W.alloc (.cells #[.int .u8 (b : Int)] 5)) = .ok (.string (str [by_ b])) (W.alloc (.cells #[.int .u8 (b : Int)] 5)) := fun W => conv1 W b hb
  have hq1 : ((⟨#[92]⟩ : ByteArray)).size + (str [by_ b]).size ≤ 9223372036854775807 := by show 1 + 1 ≤ _; omega
  have hmm : by_ b ∈ bys (⟨#[34, 123, 125]⟩ : ByteArray) ↔ ([34, 123, 125] : List UInt8).contains (by_ b) = true := by simp [bys]
  have hbb : (by_ b).toNat = b := by unfold by_; rw [UInt8.toNat_ofNat', Nat.mod_eq_of_lt hb]
  by_cases hm : by_ b ∈ bys (⟨#[34, 123, 125]⟩ : ByteArray)
  · have hs : bsL 3 b false = [92, by_ b] := by
      unfold bsL
      rw [if_neg h92, if_neg h10, if_neg h13, if_neg h9, if_pos]
      have hm2 := (all_byte (p := fun b => !([34, 123, 125] : List UInt8).contains (by_ b) || ownB 3 b false) (by kernel_rfl) (by_ b))
      rw [hbb, hmm.1 hm] at hm2
      simpa using hm2
    have HS := Lib.hid hs
    clear hs h92 h10 h13 h9 hmm hbb h32
    go_enter Tryd.func22, Tryd.ntmps22
    go_wp2_with (first
      | (go_at_call 34; refine Hid.out ?_))
    refine Hid.mk_ ((ix_yes _ b hb hm).mono ?_)
    rintro e w1 ⟨r, rfl, rfl⟩
    go_wp2
    go_ret
    exact ⟨ret_str (by rw [bys_app, bys_str, bys_str, HS.out]; rfl), (Ext.refl _).alloc _⟩
  · have ho : ownB 3 b false = false := by
      have hm2 := (all_byte (p := fun b => ([34, 123, 125] : List UInt8).contains (by_ b) || b == 32 || !ownB 3 b false) (by kernel_rfl) (by_ b))
      have hm3 : ([34, 123, 125] : List UInt8).contains (by_ b) = false := by
        rw [Bool.eq_false_iff]
        exact fun h => hm (hmm.2 h)
      rw [hbb, hm3, beq_eq_false_iff_ne.2 h32] at hm2
      simpa using hm2
    have hbs : bsL 3 b false = if ctl b then (if (3 : Nat) = 3 then 92 :: 117 :: 48 :: 48 :: hex2 b else 92 :: 120 :: hex2 b) else [by_ b] := by
      unfold bsL
      rw [if_neg h92, if_neg h10, if_neg h13, if_neg h9, ho]
      rfl
    have HM := Lib.hid hm
    cases hc : ctl b with
    | true =>
      rw [hc] at hbs
      have HS := Lib.hid hbs
      have HC := Lib.hid hc
      have HX := Lib.hid (lowH_4 b hb)
      have hz2 : (str (lowH b 2)).size ≤ 4 := by rw [str_size, lowH_len]; omega
      have hz4 : (str (lowH b 4)).size ≤ 4 := by rw [str_size, lowH_len]; omega
      have hq2 : ((⟨#[92, 120]⟩ : ByteArray)).size + (str (lowH b 2)).size ≤ 9223372036854775807 := by show 2 + _ ≤ _; omega
      have hq4 : ((⟨#[92, 117]⟩ : ByteArray)).size + (str (lowH b 4)).size ≤ 9223372036854775807 := by show 2 + _ ≤ _; omega
      clear hbs hc h92 h10 h13 h9 ho hmm hbb h32 hm
      go_enter Tryd.func22, Tryd.ntmps22
      go_wp2_with (first
        | (go_at_call 34; refine Hid.out ?_))
      refine Hid.mk_ ((ix_no _ b hb HM.out).mono ?_)
      rintro e w1 ⟨rfl, rfl⟩
      go_wp2_with (first
        | (go_at_call 32; refine Hid.out ?_))
      refine Hid.mk_ ((control_any b).mono ?_)
      rintro e w1 ⟨rfl, rfl⟩
      rw [HC.out]
      first
        | (skip
           go_wp2_with (first
             | (go_at_call 35; refine Hid.out ?_))
           refine Hid.mk_ ((hex_any b 4 hb (.inr rfl) hT).mono ?_)
           rintro e w2 ⟨rfl, hE2⟩
           go_wp2
           go_ret
           exact ⟨ret_str (by rw [bys_app, bys_str, bys_str, HS.out, HX.out.2]; rfl), hE2⟩)
        | (skip
           go_wp2_with (first
             | (go_at_call 32; refine Hid.out ?_))
           refine Hid.mk_ ((control_any b).mono ?_)
           rintro e w1 ⟨rfl, rfl⟩
           rw [HC.out]
           go_wp2_with (first
             | (go_at_call 35; refine Hid.out ?_))
           refine Hid.mk_ ((hex_any b 2 hb (.inl rfl) hT).mono ?_)
           rintro e w2 ⟨rfl, hE2⟩
           go_wp2
           go_ret
           exact ⟨ret_str (by rw [bys_app, bys_str, bys_str, HS.out, HX.out.1]; rfl), hE2⟩)
    | false =>
      rw [hc] at hbs
      have HS := Lib.hid hbs
      have HC := Lib.hid hc
      clear hbs hc h92 h10 h13 h9 ho hmm hbb h32 hm
      go_enter Tryd.func22, Tryd.ntmps22
      go_wp2_with (first
        | (go_at_call 34; refine Hid.out ?_))
      refine Hid.mk_ ((ix_no _ b hb HM.out).mono ?_)
      rintro e w1 ⟨rfl, rfl⟩
      go_wp2_with (first
        | (go_at_call 32; refine Hid.out ?_))
      refine Hid.mk_ ((control_any b).mono ?_)
      rintro e w1 ⟨rfl, rfl⟩
      rw [HC.out]
      go_wp2_with (first
        | (go_at_call 32; refine Hid.out ?_))
      refine Hid.mk_ ((control_any b).mono ?_)
      rintro e w1 ⟨rfl, rfl⟩
      rw [HC.out]
      go_wp2
      go_ret
      exact ⟨by rw [HS.out]; rfl, (Ext.refl _).alloc _⟩
theorem bsl_any (n b : Nat) (f : Bool) (h1 : 1 ≤ n) (h3 : n ≤ 3) (hb : b < 256) (hT : T2 w) :
    Calls Tryd.prog 22 #[.int .i64 (n : Int), .int .u8 (b : Int), .bool f] w fun e w' => e = .returned (.string (str (bsL n b f))) ∧ Ext w w' := by
  obtain rfl | rfl | rfl : n = 1 ∨ n = 2 ∨ n = 3 := by omega
  · cases f
    · exact bsl1f b hb hT
    · exact bsl1t b hb hT
  · cases f
    · exact bsl2f b hb hT
    · exact bsl2t b hb hT
  · cases f
    · exact bsl3f b hb hT
    · exact bsl3t b hb hT
end

end Go.Proofs.YtkicjbmljbfojaaDoor
