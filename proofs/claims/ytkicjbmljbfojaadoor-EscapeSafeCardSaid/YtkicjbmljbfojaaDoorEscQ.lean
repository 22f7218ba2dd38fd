/- The reference's digit, number, Point, One. -/
import Derived.Test.YtkicjbmljbfojaaDoorEscUn
import Derived.Test.YtkicjbmljbfojaaDoorEscR
namespace Go.Proofs.YtkicjbmljbfojaaDoor
open Go.RowKit Go.Shelf
set_option maxRecDepth 100000

attribute [local go_sem] ext_refl_t ext_alloc_t ext_drew_t ext_drewN_t ext_alloc2_t ext_alloc3_t ext_alloc4_t ext_alloc5_t ext_alloc6_t ext_alloc7_t ext_alloc8_t ext_alloc1d_t ext_alloc2d_t ext_alloc3d_t ext_alloc4d_t
def digZ (b base : Nat) : Int := match digV b base with
  | some d => (d : Int)
  | none => -1
def numY (base : Nat) (l : List UInt8) : Int := match numOf base l with
  | some n => (n : Int)
  | none => -1
section
variable {w : World}
set_option maxHeartbeats 800000 in
theorem digit16 (b : Nat) (hb : b < 256) : Calls Tryd.prog 52 #[.int .u8 (b : Int), .int .i64 16] w fun e w' => e = .returned (.int .i64 (digZ b 16)) ∧ w' = w := by
  have hb' : (b : Int) < 256 := by omega
  rcases digV_cases b 16 (by omega) (by omega) with ⟨d1, d2, d3, d4⟩ | ⟨d1, d2, d3, d4⟩ | ⟨d1, d2, d3, d4⟩ | ⟨d3, d4, d5⟩
  · have hv : digZ b 16 = (b : Int) - 48 := by unfold digZ; rw [d4]; show ((b - 48 : Nat) : Int) = _; omega
    have t1 : (48 : Int) ≤ (b : Int) := by omega
    have t2 : (b : Int) ≤ 57 := by omega
    have t3 : ¬ (16 : Int) ≤ (b : Int) - 48 := by omega
    have HV := Lib.hid hv
    clear hv d1 d2 d3 d4
    go_enter Tryd.func52, Tryd.ntmps52
    go_wp2
    go_ret
    exact ⟨ret_int (by rw [HV.out] <;> first | rfl | omega), rfl⟩
  · have t1 : (97 : Int) ≤ (b : Int) := by omega
    have t2 : (b : Int) ≤ 102 := by omega
    have t3 : ¬ (b : Int) ≤ 57 := by omega
    have t0 : (48 : Int) ≤ (b : Int) := by omega
    have hv : digZ b 16 = if (16 : Nat) = 16 then (b : Int) - 97 + 10 else -1 := by
      unfold digZ; rw [d4]
      first
        | (rw [if_pos (show b - 87 < 16 by omega)]; show ((b - 87 : Nat) : Int) = _; omega)
        | (rw [if_neg (show ¬ b - 87 < 16 by omega)]; rfl)
    have t4 : ¬ ((16 : Int) ≤ (b : Int) - 97 + 10) := by omega
    have HV := Lib.hid hv
    clear hv d1 d2 d3 d4
    go_enter Tryd.func52, Tryd.ntmps52
    go_wp2
    go_ret
    exact ⟨ret_int (by rw [HV.out] <;> first | rfl | omega), rfl⟩
  · have t1 : (65 : Int) ≤ (b : Int) := by omega
    have t2 : (b : Int) ≤ 70 := by omega
    have t3 : ¬ (b : Int) ≤ 57 := by omega
    have t5 : ¬ (97 : Int) ≤ (b : Int) := by omega
    have t0 : (48 : Int) ≤ (b : Int) := by omega
    have hv : digZ b 16 = if (16 : Nat) = 16 then (b : Int) - 65 + 10 else -1 := by
      unfold digZ; rw [d4]
      first
        | (rw [if_pos (show b - 55 < 16 by omega)]; show ((b - 55 : Nat) : Int) = _; omega)
        | (rw [if_neg (show ¬ b - 55 < 16 by omega)]; rfl)
    have t4 : ¬ ((16 : Int) ≤ (b : Int) - 65 + 10) := by omega
    have HV := Lib.hid hv
    clear hv d1 d2 d3 d4
    go_enter Tryd.func52, Tryd.ntmps52
    go_wp2
    go_ret
    exact ⟨ret_int (by rw [HV.out] <;> first | rfl | omega), rfl⟩
  · have hv : digZ b 16 = -1 := by unfold digZ; rw [d4]
    have hn1 : (¬ (48 ≤ b)) ∨ (48 ≤ b ∧ ¬ b ≤ 57) := by
      by_cases h : 48 ≤ b
      · by_cases h2 : b ≤ 57
        · exfalso
          unfold digV at d4
          simp only [if_pos (And.intro h h2)] at d4
          rw [if_pos (by omega)] at d4
          cases d4
        · exact .inr ⟨h, h2⟩
      · exact .inl h
    have hn2 : (¬ (97 ≤ b)) ∨ (97 ≤ b ∧ ¬ b ≤ 102) := by
      by_cases h : 97 ≤ b
      · by_cases h2 : b ≤ 102
        · exfalso
          unfold hZ at d3
          rw [if_neg (by omega), if_pos ⟨h, h2⟩] at d3
          omega
        · exact .inr ⟨h, h2⟩
      · exact .inl h
    have hn3 : (¬ (65 ≤ b)) ∨ (65 ≤ b ∧ ¬ b ≤ 70) := by omega
    have HV := Lib.hid hv
    clear hv d3 d4 d5
    go_enter Tryd.func52, Tryd.ntmps52
    rcases hn1 with h1 | ⟨h1, h1'⟩
    all_goals rcases hn2 with h2 | ⟨h2, h2'⟩
    all_goals rcases hn3 with h3 | ⟨h3, h3'⟩
    all_goals first
      | (exfalso; omega)
      | (skip
         have t1 : ¬ (48 : Int) ≤ (b : Int) ∨ ¬ (b : Int) ≤ 57 := by omega
         have t2 : ¬ (97 : Int) ≤ (b : Int) ∨ ¬ (b : Int) ≤ 102 := by omega
         have t3 : ¬ (65 : Int) ≤ (b : Int) ∨ ¬ (b : Int) ≤ 70 := by omega
         go_wp2
         all_goals first
           | (exfalso; omega)
           | (go_ret
              exact ⟨by rw [HV.out]; rfl, rfl⟩))
set_option maxHeartbeats 800000 in
theorem digit10 (b : Nat) (hb : b < 256) : Calls Tryd.prog 52 #[.int .u8 (b : Int), .int .i64 10] w fun e w' => e = .returned (.int .i64 (digZ b 10)) ∧ w' = w := by
  have hb' : (b : Int) < 256 := by omega
  rcases digV_cases b 10 (by omega) (by omega) with ⟨d1, d2, d3, d4⟩ | ⟨d1, d2, d3, d4⟩ | ⟨d1, d2, d3, d4⟩ | ⟨d3, d4, d5⟩
  · have hv : digZ b 10 = (b : Int) - 48 := by unfold digZ; rw [d4]; show ((b - 48 : Nat) : Int) = _; omega
    have t1 : (48 : Int) ≤ (b : Int) := by omega
    have t2 : (b : Int) ≤ 57 := by omega
    have t3 : ¬ (10 : Int) ≤ (b : Int) - 48 := by omega
    have HV := Lib.hid hv
    clear hv d1 d2 d3 d4
    go_enter Tryd.func52, Tryd.ntmps52
    go_wp2
    go_ret
    exact ⟨ret_int (by rw [HV.out] <;> first | rfl | omega), rfl⟩
  · have t1 : (97 : Int) ≤ (b : Int) := by omega
    have t2 : (b : Int) ≤ 102 := by omega
    have t3 : ¬ (b : Int) ≤ 57 := by omega
    have t0 : (48 : Int) ≤ (b : Int) := by omega
    have hv : digZ b 10 = if (10 : Nat) = 16 then (b : Int) - 97 + 10 else -1 := by
      unfold digZ; rw [d4]
      first
        | (rw [if_pos (show b - 87 < 10 by omega)]; show ((b - 87 : Nat) : Int) = _; omega)
        | (rw [if_neg (show ¬ b - 87 < 10 by omega)]; rfl)
    have t4 :  ((10 : Int) ≤ (b : Int) - 97 + 10) := by omega
    have HV := Lib.hid hv
    clear hv d1 d2 d3 d4
    go_enter Tryd.func52, Tryd.ntmps52
    go_wp2
    go_ret
    exact ⟨ret_int (by rw [HV.out] <;> first | rfl | omega), rfl⟩
  · have t1 : (65 : Int) ≤ (b : Int) := by omega
    have t2 : (b : Int) ≤ 70 := by omega
    have t3 : ¬ (b : Int) ≤ 57 := by omega
    have t5 : ¬ (97 : Int) ≤ (b : Int) := by omega
    have t0 : (48 : Int) ≤ (b : Int) := by omega
    have hv : digZ b 10 = if (10 : Nat) = 16 then (b : Int) - 65 + 10 else -1 := by
      unfold digZ; rw [d4]
      first
        | (rw [if_pos (show b - 55 < 10 by omega)]; show ((b - 55 : Nat) : Int) = _; omega)
        | (rw [if_neg (show ¬ b - 55 < 10 by omega)]; rfl)
    have t4 :  ((10 : Int) ≤ (b : Int) - 65 + 10) := by omega
    have HV := Lib.hid hv
    clear hv d1 d2 d3 d4
    go_enter Tryd.func52, Tryd.ntmps52
    go_wp2
    go_ret
    exact ⟨ret_int (by rw [HV.out] <;> first | rfl | omega), rfl⟩
  · have hv : digZ b 10 = -1 := by unfold digZ; rw [d4]
    have hn1 : (¬ (48 ≤ b)) ∨ (48 ≤ b ∧ ¬ b ≤ 57) := by
      by_cases h : 48 ≤ b
      · by_cases h2 : b ≤ 57
        · exfalso
          unfold digV at d4
          simp only [if_pos (And.intro h h2)] at d4
          rw [if_pos (by omega)] at d4
          cases d4
        · exact .inr ⟨h, h2⟩
      · exact .inl h
    have hn2 : (¬ (97 ≤ b)) ∨ (97 ≤ b ∧ ¬ b ≤ 102) := by
      by_cases h : 97 ≤ b
      · by_cases h2 : b ≤ 102
        · exfalso
          unfold hZ at d3
          rw [if_neg (by omega), if_pos ⟨h, h2⟩] at d3
          omega
        · exact .inr ⟨h, h2⟩
      · exact .inl h
    have hn3 : (¬ (65 ≤ b)) ∨ (65 ≤ b ∧ ¬ b ≤ 70) := by omega
    have HV := Lib.hid hv
    clear hv d3 d4 d5
    go_enter Tryd.func52, Tryd.ntmps52
    rcases hn1 with h1 | ⟨h1, h1'⟩
    all_goals rcases hn2 with h2 | ⟨h2, h2'⟩
    all_goals rcases hn3 with h3 | ⟨h3, h3'⟩
    all_goals first
      | (exfalso; omega)
      | (skip
         have t1 : ¬ (48 : Int) ≤ (b : Int) ∨ ¬ (b : Int) ≤ 57 := by omega
         have t2 : ¬ (97 : Int) ≤ (b : Int) ∨ ¬ (b : Int) ≤ 102 := by omega
         have t3 : ¬ (65 : Int) ≤ (b : Int) ∨ ¬ (b : Int) ≤ 70 := by omega
         go_wp2
         all_goals first
           | (exfalso; omega)
           | (go_ret
              exact ⟨by rw [HV.out]; rfl, rfl⟩))
theorem digZ_neg {b base : Nat} (h : digV b base = none) : digZ b base = -1 := by unfold digZ; rw [h]
theorem digZ_pos {b base d : Nat} (h : digV b base = some d) : digZ b base = (d : Int) := by unfold digZ; rw [h]
set_option maxHeartbeats 1600000 in
theorem number16 (s : ByteArray) (hs : s.size ≤ 8) : Calls Tryd.prog 41 #[.string s, .int .i64 16] w fun e w' => e = .returned (.int .i64 (numY 16 (bys s))) ∧ w' = w := by
  have HBL := Lib.hid (bys_len s)
  go_enter Tryd.func41, Tryd.ntmps41
  go_wp2
  go_loop [5, 6] (fun v i => ∃ k n : Nat, k ≤ s.size ∧ i = .int .i64 k ∧ v = .int .i64 n ∧ Hid (numGo 16 0 (bys s) = numGo 16 n ((bys s).drop k)) ∧ n + 1 ≤ 16 ^ k) (fun _ i => s.size - (intOf i).toNat)
  case atStart => exact ⟨0, 0, Nat.zero_le _, rfl, rfl, Lib.hid (by rw [List.drop_zero]), Nat.le_refl _⟩
  case round =>
    obtain ⟨k, n, hk, rfl, rfl, H, hB⟩ := hrel
    have hpw : 16 ^ k ≤ 4294967296 := Nat.le_trans (Nat.pow_le_pow_right (by omega) (by omega : k ≤ 8)) (by decide)
    have hn32 : n < 4294967296 := by omega
    clear hpw
    by_cases hlt : k < s.size
    · have hi1 : (k : Int) < (s.size : Int) := by omega
      have hlk : k < (bys s).length := by rw [HBL.out]; exact hlt
      have hbk := bys_at s k hlt
      obtain ⟨c, hc⟩ : ∃ c, c = s[k]'hlt := ⟨_, rfl⟩
      rw [← hc] at hbk
      obtain ⟨b, hb⟩ : ∃ b, b = c.toNat := ⟨_, rfl⟩
      have hsb : (s[k]'hlt).toNat = b := by rw [hb, hc]
      have hb256 : b < 256 := by rw [hb]; exact UInt8.toNat_lt _
      cases hd : digV b 16 with
      | none =>
        have HH := Lib.hid (H.out.trans (numGo_stop hlk (by rw [hbk, ← hb, hd])))
        have hnone : numY 16 (bys s) = -1 := by
          unfold numY numOf
          split
          · rename_i n hq
            split at hq
            · cases hq
            · rw [HH.out] at hq; cases hq
          · rfl
        have HN := Lib.hid hnone
        have HZ := Lib.hid (digZ_neg hd)
        clear hb hc hbk hd hB hnone
        go_wp2_with (first
          | (go_at_call 52; refine Hid.out ?_))
        refine Hid.mk_ ((digit16 b hb256).mono ?_)
        rintro e w1 ⟨rfl, rfl⟩
        rw [HZ.out]
        go_wp2
        go_ret
        exact ⟨by rw [HN.out]; rfl, rfl⟩
      | some d =>
        have hd16 : d < 16 := by
          unfold digV at hd
          simp only at hd
          generalize (if 48 ≤ b ∧ b ≤ 57 then b - 48 else if 97 ≤ b ∧ b ≤ 102 then b - 87 else if 65 ≤ b ∧ b ≤ 70 then b - 55 else 99) = v0 at hd
          by_cases hlt : v0 < 16
          · rw [if_pos hlt] at hd
            injection hd with hd
            omega
          · rw [if_neg hlt] at hd
            cases hd
        have HH := Lib.hid (H.out.trans (numGo_step hlk (by rw [hbk, ← hb, hd])))
        have HB2 : n * 16 + d + 1 ≤ 16 ^ (k + 1) := by rw [Nat.pow_succ]; omega
        have HZ := Lib.hid (digZ_pos hd)
        clear hb hc hbk hd hB
        go_wp2_with (first
          | (go_at_call 52; refine Hid.out ?_))
        refine Hid.mk_ ((digit16 b hb256).mono ?_)
        rintro e w1 ⟨rfl, rfl⟩
        rw [HZ.out]
        go_wp2
        go_round
        case rel => exact ⟨k + 1, n * 16 + d, by omega, by go_num, by first | go_num | (rw [Value.int.injEq]; exact ⟨rfl, by omega⟩), HH, HB2⟩
        case measure => simp [intOf]; omega
    · have hi1 : ¬ (k : Int) < (s.size : Int) := by omega
      have hge : numGo 16 0 (bys s) = some n := by rw [H.out, List.drop_eq_nil_of_le (by rw [HBL.out]; omega)]; rfl
      by_cases h0 : s.toList = []
      · have h0' : s.toList.isEmpty = true := by rw [h0]; rfl
        have hnone : numY 16 (bys s) = -1 := by
          have : bys s = [] := by rw [ByteArray.toList_eq] at h0; exact h0
          rw [this]; rfl
        have HN := Lib.hid hnone
        have H0 := Lib.hid h0
        clear hnone hge hB
        go_wp2
        go_ret
        exact ⟨by rw [HN.out]; rfl, rfl⟩
      · have h0' : s.toList.isEmpty = false := by simpa using h0
        have hsome : numY 16 (bys s) = (n : Int) := by
          unfold numY numOf
          have : bys s ≠ [] := fun e => h0 (by rw [ByteArray.toList_eq]; exact e)
          rw [if_neg (by simpa using this), hge]
        have HN := Lib.hid hsome
        have H0 := Lib.hid h0
        clear hsome hge hB h0
        go_wp2
        go_ret
        exact ⟨by rw [HN.out]; rfl, rfl⟩
set_option maxHeartbeats 1600000 in
theorem number10 (s : ByteArray) (hs : s.size ≤ 8) : Calls Tryd.prog 41 #[.string s, .int .i64 10] w fun e w' => e = .returned (.int .i64 (numY 10 (bys s))) ∧ w' = w := by
  have HBL := Lib.hid (bys_len s)
  go_enter Tryd.func41, Tryd.ntmps41
  go_wp2
  go_loop [5, 6] (fun v i => ∃ k n : Nat, k ≤ s.size ∧ i = .int .i64 k ∧ v = .int .i64 n ∧ Hid (numGo 10 0 (bys s) = numGo 10 n ((bys s).drop k)) ∧ n + 1 ≤ 10 ^ k) (fun _ i => s.size - (intOf i).toNat)
  case atStart => exact ⟨0, 0, Nat.zero_le _, rfl, rfl, Lib.hid (by rw [List.drop_zero]), Nat.le_refl _⟩
  case round =>
    obtain ⟨k, n, hk, rfl, rfl, H, hB⟩ := hrel
    have hpw : 10 ^ k ≤ 4294967296 := Nat.le_trans (Nat.pow_le_pow_right (by omega) (by omega : k ≤ 8)) (by decide)
    have hn32 : n < 4294967296 := by omega
    clear hpw
    by_cases hlt : k < s.size
    · have hi1 : (k : Int) < (s.size : Int) := by omega
      have hlk : k < (bys s).length := by rw [HBL.out]; exact hlt
      have hbk := bys_at s k hlt
      obtain ⟨c, hc⟩ : ∃ c, c = s[k]'hlt := ⟨_, rfl⟩
      rw [← hc] at hbk
      obtain ⟨b, hb⟩ : ∃ b, b = c.toNat := ⟨_, rfl⟩
      have hsb : (s[k]'hlt).toNat = b := by rw [hb, hc]
      have hb256 : b < 256 := by rw [hb]; exact UInt8.toNat_lt _
      cases hd : digV b 10 with
      | none =>
        have HH := Lib.hid (H.out.trans (numGo_stop hlk (by rw [hbk, ← hb, hd])))
        have hnone : numY 10 (bys s) = -1 := by
          unfold numY numOf
          split
          · rename_i n hq
            split at hq
            · cases hq
            · rw [HH.out] at hq; cases hq
          · rfl
        have HN := Lib.hid hnone
        have HZ := Lib.hid (digZ_neg hd)
        clear hb hc hbk hd hB hnone
        go_wp2_with (first
          | (go_at_call 52; refine Hid.out ?_))
        refine Hid.mk_ ((digit10 b hb256).mono ?_)
        rintro e w1 ⟨rfl, rfl⟩
        rw [HZ.out]
        go_wp2
        go_ret
        exact ⟨by rw [HN.out]; rfl, rfl⟩
      | some d =>
        have hd16 : d < 10 := by
          unfold digV at hd
          simp only at hd
          generalize (if 48 ≤ b ∧ b ≤ 57 then b - 48 else if 97 ≤ b ∧ b ≤ 102 then b - 87 else if 65 ≤ b ∧ b ≤ 70 then b - 55 else 99) = v0 at hd
          by_cases hlt : v0 < 10
          · rw [if_pos hlt] at hd
            injection hd with hd
            omega
          · rw [if_neg hlt] at hd
            cases hd
        have HH := Lib.hid (H.out.trans (numGo_step hlk (by rw [hbk, ← hb, hd])))
        have HB2 : n * 10 + d + 1 ≤ 10 ^ (k + 1) := by rw [Nat.pow_succ]; omega
        have HZ := Lib.hid (digZ_pos hd)
        clear hb hc hbk hd hB
        go_wp2_with (first
          | (go_at_call 52; refine Hid.out ?_))
        refine Hid.mk_ ((digit10 b hb256).mono ?_)
        rintro e w1 ⟨rfl, rfl⟩
        rw [HZ.out]
        go_wp2
        go_round
        case rel => exact ⟨k + 1, n * 10 + d, by omega, by go_num, by first | go_num | (rw [Value.int.injEq]; exact ⟨rfl, by omega⟩), HH, HB2⟩
        case measure => simp [intOf]; omega
    · have hi1 : ¬ (k : Int) < (s.size : Int) := by omega
      have hge : numGo 10 0 (bys s) = some n := by rw [H.out, List.drop_eq_nil_of_le (by rw [HBL.out]; omega)]; rfl
      by_cases h0 : s.toList = []
      · have h0' : s.toList.isEmpty = true := by rw [h0]; rfl
        have hnone : numY 10 (bys s) = -1 := by
          have : bys s = [] := by rw [ByteArray.toList_eq] at h0; exact h0
          rw [this]; rfl
        have HN := Lib.hid hnone
        have H0 := Lib.hid h0
        clear hnone hge hB
        go_wp2
        go_ret
        exact ⟨by rw [HN.out]; rfl, rfl⟩
      · have h0' : s.toList.isEmpty = false := by simpa using h0
        have hsome : numY 10 (bys s) = (n : Int) := by
          unfold numY numOf
          have : bys s ≠ [] := fun e => h0 (by rw [ByteArray.toList_eq]; exact e)
          rw [if_neg (by simpa using this), hge]
        have HN := Lib.hid hsome
        have H0 := Lib.hid h0
        clear hsome hge hB h0
        go_wp2
        go_ret
        exact ⟨by rw [HN.out]; rfl, rfl⟩
end

end Go.Proofs.YtkicjbmljbfojaaDoor
