/- entity and backslash of package escape. -/
import Derived.Test.YtkicjbmljbfojaaDoorEscB
namespace Go.Proofs.YtkicjbmljbfojaaDoor
open Go.RowKit Go.Shelf Go.Sort Go.Lib
set_option maxRecDepth 100000

attribute [local go_sem] ext_refl_t ext_alloc_t ext_drew_t ext_drewN_t ext_alloc2_t ext_alloc3_t ext_alloc4_t ext_alloc5_t ext_alloc6_t ext_alloc7_t ext_alloc8_t ext_alloc1d_t ext_alloc2d_t ext_alloc3d_t ext_alloc4d_t
section
variable {w : World}
/-- The first index of a byte is not negative where the byte occurs. -/
theorem ixB_iff : ∀ (l : List UInt8) (c : UInt8), 0 ≤ Lib.indexByte l c ↔ c ∈ l
  | [], c => by simp [Lib.indexByte]
  | b :: l, c => by
    have ih := ixB_iff l c
    have hg := Lib.indexByte_ge l c
    unfold Lib.indexByte
    by_cases h : b = c
    · simp [h]
    · have h' : ¬ c = b := fun e => h e.symm
      by_cases h2 : Lib.indexByte l c = -1
      · have : ¬ c ∈ l := fun e => by have := ih.2 e; omega
        simp [h, h2, h', this]
      · have h3 : 0 ≤ Lib.indexByte l c := by omega
        have := ih.1 h3
        simp [h, h2, h', this]
        omega
theorem ix_any (s : ByteArray) (b : Nat) (_hb : b < 256) : Calls Tryd.prog 34 #[.string s, .int .u8 (b : Int)] w fun e w' => e = .returned (.int .i64 (Lib.indexByte (bys s) (by_ b))) ∧ w' = w := by
  have h := Any.strings_IndexByte Tryd.laysIB s (b : Int) w
  change Calls Tryd.prog 34 _ _ _ at h
  refine h.mono ?_
  rintro e w' ⟨rfl, rfl⟩
  exact ⟨rfl, rfl⟩
theorem ix_yes (s : ByteArray) (b : Nat) (hb : b < 256) (hm : by_ b ∈ bys s) : Calls Tryd.prog 34 #[.string s, .int .u8 (b : Int)] w fun e w' => ∃ r : Nat, e = .returned (.int .i64 (r : Int)) ∧ w' = w := by
  refine (ix_any s b hb).mono ?_
  rintro e w' ⟨rfl, rfl⟩
  have := (ixB_iff (bys s) (by_ b)).2 hm
  exact ⟨(Lib.indexByte (bys s) (by_ b)).toNat, by rw [Int.toNat_of_nonneg this], rfl⟩
theorem ix_no (s : ByteArray) (b : Nat) (hb : b < 256) (hm : ¬ by_ b ∈ bys s) : Calls Tryd.prog 34 #[.string s, .int .u8 (b : Int)] w fun e w' => e = .returned (.int .i64 (-1)) ∧ w' = w := by
  refine (ix_any s b hb).mono ?_
  rintro e w' ⟨rfl, rfl⟩
  have h1 : ¬ 0 ≤ Lib.indexByte (bys s) (by_ b) := fun h => hm ((ixB_iff _ _).1 h)
  have h2 := Lib.indexByte_ge (bys s) (by_ b)
  exact ⟨by rw [show Lib.indexByte (bys s) (by_ b) = -1 by omega], rfl⟩

set_option maxHeartbeats 800000 in
theorem entity_any (b : Nat) (hb : b < 256) (hT : T2 w) :
    Calls Tryd.prog 21 #[.int .u8 (b : Int)] w fun e w' => e = .returned (.string (str (entL b))) ∧ Ext w w' := by
  by_cases h1 : b = 38
  · subst h1
    go_enter Tryd.func21, Tryd.ntmps21
    go_wp2
    go_ret
    exact ⟨rfl, Ext.refl w⟩
  by_cases h2 : b = 60
  · subst h2
    go_enter Tryd.func21, Tryd.ntmps21
    go_wp2
    go_ret
    exact ⟨rfl, Ext.refl w⟩
  by_cases h3 : b = 62
  · subst h3
    go_enter Tryd.func21, Tryd.ntmps21
    go_wp2
    go_ret
    exact ⟨rfl, Ext.refl w⟩
  by_cases h4 : b = 34
  · subst h4
    go_enter Tryd.func21, Tryd.ntmps21
    go_wp2
    go_ret
    exact ⟨rfl, Ext.refl w⟩
  have t1 : ((b : Int) == 38) = false := by rw [beq_eq_false_iff_ne]; omega
  have t2 : ((b : Int) == 60) = false := by rw [beq_eq_false_iff_ne]; omega
  have t3 : ((b : Int) == 62) = false := by rw [beq_eq_false_iff_ne]; omega
  have t4 : ((b : Int) == 34) = false := by rw [beq_eq_false_iff_ne]; omega
  cases hc : ctl b with
  | true =>
    have hs : entL b = 38 :: 35 :: (decL b ++ [59]) := by unfold entL; rw [if_neg h1, if_neg h2, if_neg h3, if_neg h4, hc]; rfl
    have hl : (decL b).length ≤ 3 := by unfold decL; split <;> (try split) <;> simp
    have HS := Lib.hid hs
    have HC := Lib.hid hc
    clear h1 h2 h3 h4 hs hc
    go_enter Tryd.func21, Tryd.ntmps21
    go_wp2_with (first
      | (go_at_call 32; refine Hid.out ?_))
    refine Hid.mk_ ((control_any b).mono ?_)
    rintro e w1 ⟨rfl, rfl⟩
    rw [HC.out]
    go_wp2_with (first
      | (go_at_call 33; refine Hid.out ?_))
    refine Hid.mk_ ((itoa_any b hb hT).mono ?_)
    rintro e w2 ⟨rfl, hE2⟩
    have hsz : (str (decL b)).size ≤ 3 := by rw [str_size]; exact hl
    obtain ⟨s, hs⟩ : ∃ s, s = str (decL b) := ⟨_, rfl⟩
    rw [← hs] at hsz ⊢
    have HQ := Lib.hid hs
    clear hs
    have hq1 : ((⟨#[38, 35]⟩ : ByteArray)).size + s.size ≤ 9223372036854775807 := by show 2 + s.size ≤ _; omega
    have hq2 : ((⟨#[38, 35]⟩ : ByteArray) ++ s).size + ((⟨#[59]⟩ : ByteArray)).size ≤ 9223372036854775807 := by rw [ByteArray.size_append]; show 2 + s.size + 1 ≤ _; omega
    go_wp2
    go_ret
    exact ⟨ret_str (by rw [bys_app, bys_app, HQ.out, bys_str, bys_str, HS.out]; rfl), hE2⟩
  | false =>
    have hs : entL b = [by_ b] := by unfold entL; rw [if_neg h1, if_neg h2, if_neg h3, if_neg h4, hc]; rfl
    have HS := Lib.hid hs
    have HC := Lib.hid hc
    have hcv := conv1 w b hb
    clear h1 h2 h3 h4 hs hc
    go_enter Tryd.func21, Tryd.ntmps21
    go_wp2_with (first
      | (go_at_call 32; refine Hid.out ?_))
    refine Hid.mk_ ((control_any b).mono ?_)
    rintro e w1 ⟨rfl, rfl⟩
    rw [HC.out]
    go_wp2
    go_ret
    exact ⟨by rw [HS.out]; rfl, (Ext.refl _).alloc _⟩
end

end Go.Proofs.YtkicjbmljbfojaaDoor
