/- hex, entity, backslash of package escape. -/
import Derived.Test.YtkicjbmljbfojaaDoorEscA
namespace Go.Proofs.YtkicjbmljbfojaaDoor
open Go.RowKit Go.Shelf Go.Sort Go.Lib
set_option maxRecDepth 100000

attribute [local go_sem] ext_refl_t ext_alloc_t ext_drew_t ext_drewN_t ext_alloc2_t ext_alloc3_t ext_alloc4_t ext_alloc5_t ext_alloc6_t ext_alloc7_t ext_alloc8_t ext_alloc1d_t ext_alloc2d_t ext_alloc3d_t ext_alloc4d_t
section
variable {w : World}
theorem lowH_hex2 : ((List.range 256).all fun b => (decide (b < 16) && lowH b 1 == [hexC b]) || (decide (16 ≤ b) && lowH b 2 == hex2 b)) = true := by kernel_rfl
theorem iformatInt_any (b : Nat) (hb : b < 256) (hT : T2 w) :
    Calls Tryd.prog 53 #[.int .i64 (b : Int), .int .i64 16] w fun e w' => ∃ q, e = .returned (.string (str (lowH b (q + 1)))) ∧ q ≤ 15 ∧ b / 16 ^ q < 16 ∧ Ext w w' ∧ Hid (0 < q → 16 ≤ b / 16 ^ (q - 1)) := by
  have hd : decide ((b : Int) < 0) = false := decide_eq_false (by omega)
  go_enter Tryd.func53, Tryd.ntmps53
  go_wp2_with (first
    | (go_at_call 65; refine Hid.out ?_))
  refine Hid.mk_ ((formatBits_ex b (by omega) hT.tz).mono ?_)
  rintro e w1 ⟨q, rfl, hq, hq2, hE1, HM⟩
  have HQ := Lib.hid hq2
  clear hq2
  go_wp2
  go_ret
  exact ⟨q, rfl, hq, HQ.out, hE1, HM⟩
theorem formatInt_any (b : Nat) (hb : b < 256) (hT : T2 w) :
    Calls Tryd.prog 47 #[.int .i64 (b : Int), .int .i64 16] w fun e w' => ∃ q, e = .returned (.string (str (lowH b (q + 1)))) ∧ q ≤ 15 ∧ b / 16 ^ q < 16 ∧ Ext w w' ∧ Hid (0 < q → 16 ≤ b / 16 ^ (q - 1)) := by
  go_enter Tryd.func47, Tryd.ntmps47
  go_wp2_with (first
    | (go_at_call 53; refine Hid.out ?_))
  refine Hid.mk_ ((iformatInt_any b hb hT).mono ?_)
  rintro e w1 ⟨q, rfl, hq, hq2, hE1, HM⟩
  have HQ := Lib.hid hq2
  clear hq2
  go_wp2
  go_ret
  exact ⟨q, rfl, hq, HQ.out, hE1, HM⟩
theorem lowH_pad {n q k : Nat} (h : n / 16 ^ q < 16) : lowH n (q + 1 + k) = List.replicate k 48 ++ lowH n (q + 1) := by
  induction k with
  | zero => rfl
  | succ k ih =>
    have e0 : n / 16 ^ (q + 1 + k) % 16 = 0 := by
      have h1 : n / 16 ^ (q + 1 + k) = 0 := by
        rw [Nat.pow_add, Nat.pow_succ, ← Nat.div_div_eq_div_mul, ← Nat.div_div_eq_div_mul]
        rw [Nat.div_eq_of_lt h, Nat.zero_div]
      rw [h1]
    rw [show q + 1 + (k + 1) = (q + 1 + k) + 1 by omega, lowH, e0, ih, List.replicate_succ]
    rfl
theorem lowH_2 : ((List.range 256).all fun b => lowH b 2 == hex2 b && lowH b 4 == 48 :: 48 :: hex2 b) = true := by kernel_rfl
theorem lowH_4 (b : Nat) (hb : b < 256) : lowH b 2 = hex2 b ∧ lowH b 4 = 48 :: 48 :: hex2 b := by
  have := List.all_eq_true.1 lowH_2 b (List.mem_range.2 hb)
  simpa using this
theorem q_le1 {b q : Nat} (hb : b < 256) (h : 0 < q → 16 ≤ b / 16 ^ (q - 1)) : q ≤ 1 := by
  rcases Nat.lt_or_ge q 2 with h2 | h2
  · omega
  · exfalso
    · replace h := h (by omega)
      have h3 : 16 ^ 1 ≤ 16 ^ (q - 1) := Nat.pow_le_pow_right (by omega) (by omega)
      have h4 : b / 16 ^ (q - 1) ≤ b / 16 ^ 1 := Nat.div_le_div_left h3 (by omega)
      omega
/-- hex: so many digits as width says. -/
theorem hex_any (b wd : Nat) (hb : b < 256) (hw : wd = 2 ∨ wd = 4) (hT : T2 w) :
    Calls Tryd.prog 35 #[.int .u8 (b : Int), .int .i64 (wd : Int)] w fun e w' => e = .returned (.string (str (lowH b wd))) ∧ Ext w w' := by
  go_enter Tryd.func35, Tryd.ntmps35
  go_wp2_with (first
    | (go_at_call 47; refine Hid.out ?_))
  refine Hid.mk_ ((formatInt_any b hb hT).mono ?_)
  rintro e w1 ⟨q, rfl, hq, hq2, hE1, HM⟩
  have hq1 := q_le1 hb HM.out
  clear HM hq
  obtain ⟨k, hk⟩ : ∃ k, k = wd - (q + 1) := ⟨_, rfl⟩
  have hfin : bys (str (List.replicate k 48)) ++ bys (str (lowH b (q + 1))) = lowH b wd := by
    rw [bys_str, bys_str]
    have h := lowH_pad (k := k) hq2
    rw [show q + 1 + k = wd by omega] at h
    exact h.symm
  have hsz : (str (lowH b (q + 1))).size = q + 1 := by rw [str_size, lowH_len]
  have HSZ := Lib.hid hsz
  have HF := Lib.hid hfin
  have HK := Lib.hid hk
  obtain ⟨s, hs⟩ : ∃ s, s = str (lowH b (q + 1)) := ⟨_, rfl⟩
  rw [← hs] at HSZ HF ⊢
  have hs1 : 1 ≤ s.size := by rw [HSZ.out]; omega
  have hs2 : s.size ≤ 2 := by rw [HSZ.out]; omega
  have hw2 : 2 ≤ wd := by omega
  have hw4 : wd ≤ 4 := by omega
  clear hq2 hsz hfin hs hk hw
  go_wp2_with (first
    | (go_at_call 48; refine Hid.out ?_))
  refine Hid.mk_ ((repeat0 _ k (by have := HSZ.out; have := HK.out; omega) (by have := HK.out; omega)).mono ?_)
  rintro e w2 ⟨rfl, hE2⟩
  have hp2 : (str (List.replicate k 48)).size + s.size ≤ 9223372036854775807 := by rw [str_size, List.length_replicate, HK.out]; omega
  go_wp2
  go_ret
  exact ⟨ret_str (by rw [bys_app, HF.out, bys_str]), hE1.trans hE2⟩
end

end Go.Proofs.YtkicjbmljbfojaaDoor
