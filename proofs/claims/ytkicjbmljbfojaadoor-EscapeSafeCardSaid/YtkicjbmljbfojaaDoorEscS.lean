/- The reference's decimal, entity, one, Escape. -/
import Derived.Test.YtkicjbmljbfojaaDoorEscR
namespace Go.Proofs.YtkicjbmljbfojaaDoor
open Go.RowKit
set_option maxRecDepth 100000

attribute [local go_sem] ext_refl_t ext_alloc_t ext_drew_t ext_drewN_t ext_alloc2_t ext_alloc3_t ext_alloc4_t ext_alloc5_t ext_alloc6_t ext_alloc7_t ext_alloc8_t ext_alloc1d_t ext_alloc2d_t ext_alloc3d_t ext_alloc4d_t
section
variable {w : World}
theorem decL_len (b : Nat) : (decL b).length ≤ 3 := by unfold decL; split <;> (try split) <;> simp
theorem dec1 (b : Nat) (hb : b < 10) : Calls Tryd.prog 49 #[.int .i64 (b : Int)] w fun e w' => e = .returned (.string (str (decL b))) ∧ Ext w w' := by
  have h1 : ¬ (10 : Int) ≤ (b : Int) := by omega
  have hs : decL b = [by_ (48 + b)] := by unfold decL; rw [if_pos hb]
  have HS := Lib.hid hs
  have hcv : ∀ W : World, (convert 34 9 (.slice (some ⟨W.heap.size, 0, none⟩) 1 1)).run Tryd.prog (W.alloc (.cells #[.int .u8 (48 + (b : Int))] 5)) = .ok (.string (str [by_ (48 + b)])) (W.alloc (.cells #[.int .u8 (48 + (b : Int))] 5)) := fun W => conv1 W (48 + b) (by omega)
  clear hs
  go_enter Tryd.func49, Tryd.ntmps49
  go_wp2
  go_ret
  exact ⟨by rw [HS.out]; rfl, (Ext.refl _).alloc _⟩
set_option maxHeartbeats 800000 in
theorem dec2 (b : Nat) (hb : b < 100) : Calls Tryd.prog 49 #[.int .i64 (b : Int)] w fun e w' => e = .returned (.string (str (decL b))) ∧ Ext w w' := by
  by_cases h10 : b < 10
  · exact dec1 b h10
  have h1 : (10 : Int) ≤ (b : Int) := by omega
  have hs : decL (b / 10) ++ decL (b % 10) = decL b := by
    unfold decL
    by_cases h100 : b < 100
    · rw [if_pos (show b / 10 < 10 by omega), if_pos (show b % 10 < 10 by omega), if_neg h10, if_pos h100]; rfl
    · rw [if_neg (show ¬ b / 10 < 10 by omega), if_pos (show b / 10 < 100 by omega), if_pos (show b % 10 < 10 by omega), if_neg h10, if_neg h100, Nat.div_div_eq_div_mul]; rfl
  obtain ⟨q, hq⟩ : ∃ q, q = b / 10 := ⟨_, rfl⟩
  obtain ⟨r, hr⟩ : ∃ r, r = b % 10 := ⟨_, rfl⟩
  rw [← hq, ← hr] at hs
  have hq2 : q < 10 := by omega
  have hr2 : r < 10 := by omega
  have e4 : (b : Int) % 10 = (r : Int) := by omega
  have e5 : (b : Int) / 10 = (q : Int) := by omega
  have e6 : IntKind.i64.wrap ((b : Int) / 10) = (q : Int) := by rw [IntWalk.i64_in _ (by omega)]; omega
  have e7 : (b : Int).tmod 10 = (r : Int) := by rw [Int.tmod_eq_emod_of_nonneg (by omega)]; omega
  have hsz : (str (decL q)).size + (str (decL r)).size ≤ 9223372036854775807 := by
    rw [str_size, str_size]
    have := decL_len q
    have := decL_len r
    omega
  have HS := Lib.hid hs
  clear hs hq hr h10
  go_enter Tryd.func49, Tryd.ntmps49
  go_wp2_with (first
    | (go_at_call 49; refine Hid.out ?_))
  refine Hid.mk_ ((dec1 q hq2).mono ?_)
  rintro e w1 ⟨rfl, hE1⟩
  go_wp2_with (first
    | (go_at_call 49; refine Hid.out ?_))
  refine Hid.mk_ ((dec1 r hr2).mono ?_)
  rintro e w2 ⟨rfl, hE2⟩
  go_wp2
  go_ret
  exact ⟨ret_str (by rw [bys_app, bys_str, bys_str, bys_str, HS.out]), hE1.trans hE2⟩
set_option maxHeartbeats 800000 in
theorem dec3 (b : Nat) (hb : b < 1000) : Calls Tryd.prog 49 #[.int .i64 (b : Int)] w fun e w' => e = .returned (.string (str (decL b))) ∧ Ext w w' := by
  by_cases h10 : b < 10
  · exact dec1 b h10
  have h1 : (10 : Int) ≤ (b : Int) := by omega
  have hs : decL (b / 10) ++ decL (b % 10) = decL b := by
    unfold decL
    by_cases h100 : b < 100
    · rw [if_pos (show b / 10 < 10 by omega), if_pos (show b % 10 < 10 by omega), if_neg h10, if_pos h100]; rfl
    · rw [if_neg (show ¬ b / 10 < 10 by omega), if_pos (show b / 10 < 100 by omega), if_pos (show b % 10 < 10 by omega), if_neg h10, if_neg h100, Nat.div_div_eq_div_mul]; rfl
  obtain ⟨q, hq⟩ : ∃ q, q = b / 10 := ⟨_, rfl⟩
  obtain ⟨r, hr⟩ : ∃ r, r = b % 10 := ⟨_, rfl⟩
  rw [← hq, ← hr] at hs
  have hq2 : q < 100 := by omega
  have hr2 : r < 10 := by omega
  have e4 : (b : Int) % 10 = (r : Int) := by omega
  have e5 : (b : Int) / 10 = (q : Int) := by omega
  have e6 : IntKind.i64.wrap ((b : Int) / 10) = (q : Int) := by rw [IntWalk.i64_in _ (by omega)]; omega
  have e7 : (b : Int).tmod 10 = (r : Int) := by rw [Int.tmod_eq_emod_of_nonneg (by omega)]; omega
  have hsz : (str (decL q)).size + (str (decL r)).size ≤ 9223372036854775807 := by
    rw [str_size, str_size]
    have := decL_len q
    have := decL_len r
    omega
  have HS := Lib.hid hs
  clear hs hq hr h10
  go_enter Tryd.func49, Tryd.ntmps49
  go_wp2_with (first
    | (go_at_call 49; refine Hid.out ?_))
  refine Hid.mk_ ((dec2 q hq2).mono ?_)
  rintro e w1 ⟨rfl, hE1⟩
  go_wp2_with (first
    | (go_at_call 49; refine Hid.out ?_))
  refine Hid.mk_ ((dec1 r hr2).mono ?_)
  rintro e w2 ⟨rfl, hE2⟩
  go_wp2
  go_ret
  exact ⟨ret_str (by rw [bys_app, bys_str, bys_str, bys_str, HS.out]), hE1.trans hE2⟩
set_option maxHeartbeats 800000 in
theorem rentity_any (b : Nat) (hb : b < 256) :
    Calls Tryd.prog 36 #[.int .u8 (b : Int)] w fun e w' => e = .returned (.string (str (entL b))) ∧ Ext w w' := by
  by_cases h1 : b = 38
  · subst h1
    go_enter Tryd.func36, Tryd.ntmps36
    go_wp2
    go_ret
    exact ⟨rfl, Ext.refl w⟩
  by_cases h2 : b = 60
  · subst h2
    go_enter Tryd.func36, Tryd.ntmps36
    go_wp2
    go_ret
    exact ⟨rfl, Ext.refl w⟩
  by_cases h3 : b = 62
  · subst h3
    go_enter Tryd.func36, Tryd.ntmps36
    go_wp2
    go_ret
    exact ⟨rfl, Ext.refl w⟩
  by_cases h4 : b = 34
  · subst h4
    go_enter Tryd.func36, Tryd.ntmps36
    go_wp2
    go_ret
    exact ⟨rfl, Ext.refl w⟩
  have t1 : ((b : Int) == 38) = false := by rw [beq_eq_false_iff_ne]; omega
  have t2 : ((b : Int) == 60) = false := by rw [beq_eq_false_iff_ne]; omega
  have t3 : ((b : Int) == 62) = false := by rw [beq_eq_false_iff_ne]; omega
  have t4 : ((b : Int) == 34) = false := by rw [beq_eq_false_iff_ne]; omega
  by_cases hc : b < 32 ∨ b = 127
  · have hs : entL b = 38 :: 35 :: (decL b ++ [59]) := by unfold entL; rw [if_neg h1, if_neg h2, if_neg h3, if_neg h4, show ctl b = true from decide_eq_true hc]; rfl
    have hl := decL_len b
    have HS := Lib.hid hs
    have hsz : (str (decL b)).size ≤ 3 := by rw [str_size]; exact hl
    clear h1 h2 h3 h4 hs hl
    have hd : (b : Int) < 32 ∨ (¬ (b : Int) < 32 ∧ ((b : Int) == 127) = true) := by
      by_cases h : b < 32
      · left; omega
      · right
        refine ⟨by omega, ?_⟩
        rw [beq_iff_eq]; omega
    rcases hd with hd | ⟨hd, hd2⟩
    all_goals
      go_enter Tryd.func36, Tryd.ntmps36
      go_wp2_with (first
        | (go_at_call 49; refine Hid.out ?_))
      refine Hid.mk_ ((dec3 b (by omega)).mono ?_)
      rintro e w2 ⟨rfl, hE2⟩
      obtain ⟨s, hs⟩ : ∃ s, s = str (decL b) := ⟨_, rfl⟩
      rw [← hs] at hsz ⊢
      have HQ := Lib.hid hs
      clear hs
      have hq1 : ((⟨#[38, 35]⟩ : ByteArray)).size + s.size ≤ 9223372036854775807 := by show 2 + s.size ≤ _; omega
      have hq2 : ((⟨#[38, 35]⟩ : ByteArray) ++ s).size + ((⟨#[59]⟩ : ByteArray)).size ≤ 9223372036854775807 := by rw [ByteArray.size_append]; show 2 + s.size + 1 ≤ _; omega
      go_wp2
      go_ret
      exact ⟨ret_str (by rw [bys_app, bys_app, HQ.out, bys_str, bys_str, HS.out]; rfl), hE2⟩
  · have hs : entL b = [by_ b] := by unfold entL; rw [if_neg h1, if_neg h2, if_neg h3, if_neg h4, show ctl b = false from decide_eq_false hc]; rfl
    have HS := Lib.hid hs
    have hcv := conv1 w b hb
    have hd : ¬ (b : Int) < 32 := by omega
    have hd2 : ((b : Int) == 127) = false := by rw [beq_eq_false_iff_ne]; omega
    clear h1 h2 h3 h4 hs hc
    go_enter Tryd.func36, Tryd.ntmps36
    go_wp2
    go_ret
    exact ⟨by rw [HS.out]; rfl, (Ext.refl _).alloc _⟩
end

end Go.Proofs.YtkicjbmljbfojaaDoor
