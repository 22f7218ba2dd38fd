/- digits of package escape. -/
import Derived.Test.YtkicjbmljbfojaaDoorEscU
namespace Go.Proofs.YtkicjbmljbfojaaDoor
open Go.RowKit
set_option maxRecDepth 100000

attribute [local go_sem] ext_refl_t ext_alloc_t ext_drew_t ext_drewN_t ext_alloc2_t ext_alloc3_t ext_alloc4_t ext_alloc5_t ext_alloc6_t ext_alloc7_t ext_alloc8_t ext_alloc1d_t ext_alloc2d_t ext_alloc3d_t ext_alloc4d_t
def hexS : ByteArray := ⟨#[48, 49, 50, 51, 52, 53, 54, 55, 56, 57, 97, 98, 99, 100, 101, 102]⟩
/-- The place of a byte among the small digits, or -1. -/
def hZ (b : Nat) : Int := if 48 ≤ b ∧ b ≤ 57 then (b : Int) - 48 else if 97 ≤ b ∧ b ≤ 102 then (b : Int) - 87 else -1
theorem hZ_all : ((List.range 256).all fun b => Lib.indexByte (bys hexS) (by_ b) == hZ b) = true := by kernel_rfl
theorem hZ_ix (b : Nat) (hb : b < 256) : Lib.indexByte (bys hexS) (by_ b) = hZ b := by
  have := List.all_eq_true.1 hZ_all b (List.mem_range.2 hb)
  simpa using this
/-- What digits returns. -/
def numZ (base : Nat) (l : List UInt8) : Int := (((numOf base l).getD 0 : Nat) : Int)
section
variable {w : World}
theorem hix_any (b : Nat) (hb : b < 256) : Calls Tryd.prog 34 #[.string hexS, .int .u8 (b : Int)] w fun e w' => e = .returned (.int .i64 (hZ b)) ∧ w' = w := by
  rw [← hZ_ix b hb]
  exact ix_any hexS b hb
theorem numGo_step {base n d : Nat} {l : List UInt8} {k : Nat} (h : k < l.length) (hd : digV (l[k]).toNat base = some d) : numGo base n (l.drop k) = numGo base (n * base + d) (l.drop (k + 1)) := by
  rw [List.drop_eq_getElem_cons h, numGo, hd]
theorem numGo_stop {base n : Nat} {l : List UInt8} {k : Nat} (h : k < l.length) (hd : digV (l[k]).toNat base = none) : numGo base n (l.drop k) = none := by
  rw [List.drop_eq_getElem_cons h, numGo, hd]
/-- The four kinds of bytes. -/
theorem digV_cases (b base : Nat) (hb : 10 ≤ base) (hb2 : base ≤ 16) :
    (48 ≤ b ∧ b ≤ 57 ∧ hZ b = ((b - 48 : Nat) : Int) ∧ digV b base = some (b - 48)) ∨
    (97 ≤ b ∧ b ≤ 102 ∧ hZ b = ((b - 87 : Nat) : Int) ∧ digV b base = if b - 87 < base then some (b - 87) else none) ∨
    (65 ≤ b ∧ b ≤ 70 ∧ hZ b = -1 ∧ digV b base = if b - 55 < base then some (b - 55) else none) ∨
    (hZ b = -1 ∧ digV b base = none ∧ (b < 65 ∨ 70 < b)) := by
  unfold digV hZ
  simp only
  by_cases h1 : 48 ≤ b ∧ b ≤ 57
  · left
    rw [if_pos h1, if_pos h1, if_pos (by omega)]
    exact ⟨h1.1, h1.2, by omega, rfl⟩
  · rw [if_neg h1, if_neg h1]
    by_cases h2 : 97 ≤ b ∧ b ≤ 102
    · right; left
      rw [if_pos h2, if_pos h2]
      exact ⟨h2.1, h2.2, by omega, rfl⟩
    · rw [if_neg h2, if_neg h2]
      by_cases h3 : 65 ≤ b ∧ b ≤ 70
      · right; right; left
        rw [if_pos h3]
        exact ⟨h3.1, h3.2, rfl, rfl⟩
      · right; right; right
        rw [if_neg h3, if_neg (by omega)]
        exact ⟨rfl, rfl, by omega⟩
set_option maxHeartbeats 3200000 in
theorem dig16_any (s : ByteArray) (hs : s.size ≤ 8) : Calls Tryd.prog 38 #[.string s, .int .i64 16] w fun e w' => e = .returned (.tuple #[.int .i64 (numZ 16 (bys s)), .bool (numOf 16 (bys s)).isSome]) ∧ w' = w := by
  have HBL := Lib.hid (bys_len s)
  have hix : ∀ (W : World) (b : Nat), b < 256 → Calls Tryd.prog 34 #[.string ⟨#[48, 49, 50, 51, 52, 53, 54, 55, 56, 57, 97, 98, 99, 100, 101, 102]⟩, .int .u8 (b : Int)] W fun e w' => e = .returned (.int .i64 (hZ b)) ∧ w' = W := fun W b hb => hix_any (w := W) b hb
  have HIX := Lib.hid hix
  clear hix
  go_enter Tryd.func38, Tryd.ntmps38
  go_wp2
  go_loop [6, 11] (fun v i => ∃ k n : Nat, k ≤ s.size ∧ i = .int .i64 k ∧ v = .int .i64 n ∧ Hid (numGo 16 0 (bys s) = numGo 16 n ((bys s).drop k)) ∧ n + 1 ≤ 16 ^ k) (fun _ i => s.size - (intOf i).toNat)
  case atStart => exact ⟨0, 0, Nat.zero_le _, rfl, rfl, Lib.hid (by rw [List.drop_zero]), Nat.le_refl _⟩
  case round =>
    obtain ⟨k, n, hk, rfl, rfl, H, hB⟩ := hrel
    have hpw : 16 ^ k ≤ 4294967296 := Nat.le_trans (Nat.pow_le_pow_right (by omega) (by omega : k ≤ 8)) (by decide)
    have hn32 : n < 4294967296 := by omega
    have hbn : n + 1 ≤ 16 ^ k := hB
    clear hpw
    by_cases hlt : k < s.size
    · have hi1 : (k : Int) < (s.size : Int) := by omega
      have hlk : k < (bys s).length := by rw [HBL.out]; exact hlt
      have hbk := bys_at s k hlt
      obtain ⟨c, hc⟩ : ∃ c, c = s[k]'hlt := ⟨_, rfl⟩
      rw [← hc] at hbk
      obtain ⟨b, hb⟩ : ∃ b, b = c.toNat := ⟨_, rfl⟩
      have hsb : (s[k]'hlt).toNat = b := by rw [hb, hc]
      have hb256 : b < 256 := by rw [hb]; exact UInt8.toNat_lt _
      rcases digV_cases b 16 (by omega) (by omega) with ⟨d1, d2, d3, d4⟩ | ⟨d1, d2, d3, d4⟩ | ⟨d1, d2, d3, d4⟩ | ⟨d3, d4, d5⟩
      · obtain ⟨d, hd⟩ : ∃ d, d = b - 48 := ⟨_, rfl⟩
        rw [← hd] at d4 d3
        have hd16 : d < 16 := by omega
        have hd16' : ¬ (16 : Int) ≤ (d : Int) := by omega
        have HH := Lib.hid (H.out.trans (numGo_step hlk (by rw [hbk, ← hb, d4])))
        have HB2 : n * 16 + d + 1 ≤ 16 ^ (k + 1) := by rw [Nat.pow_succ]; omega
        have D3 := Lib.hid d3
        have h65 : ¬ (65 : Int) ≤ (b : Int) := by omega
        clear hb hc hbk d1 d2 d4 d3 hB hbn hd
        go_wp2_with (first
          | (go_at_call 34; refine Hid.out ?_))
        refine Hid.mk_ ((HIX.out _ b hb256).mono ?_)
        rintro e w1 ⟨rfl, rfl⟩
        rw [D3.out]
        go_wp2
        go_round
        case rel => exact ⟨k + 1, n * 16 + d, by omega, by go_num, by go_num, HH, HB2⟩
        case measure => simp [intOf]; omega
      · skip
        obtain ⟨d, hd⟩ : ∃ d, d = b - 87 := ⟨_, rfl⟩
        rw [← hd] at d4
        have hd16 : d < 16 := by omega
        have HH := Lib.hid (H.out.trans (numGo_step hlk (by rw [hbk, ← hb, d4, if_pos hd16])))
        have HB2 : n * 16 + d + 1 ≤ 16 ^ (k + 1) := by rw [Nat.pow_succ]; omega
        have D3 := Lib.hid d3
        have h65 : (65 : Int) ≤ (b : Int) := by omega
        have h70 : ¬ (b : Int) ≤ 70 := by omega
        clear hb hc hbk d1 d2 d4 d3 hB
        go_wp2_with (first
          | (go_at_call 34; refine Hid.out ?_))
        refine Hid.mk_ ((HIX.out _ b hb256).mono ?_)
        rintro e w1 ⟨rfl, rfl⟩
        rw [D3.out]
        skip
        go_wp2
        go_round
        case rel => exact ⟨k + 1, n * 16 + d, by omega, by go_num, by first | go_num | (rw [Value.int.injEq]; exact ⟨rfl, by omega⟩), HH, HB2⟩
        case measure => simp [intOf]; omega
      · skip
        obtain ⟨d, hd⟩ : ∃ d, d = b - 55 := ⟨_, rfl⟩
        rw [← hd] at d4
        have hd16 : d < 16 := by omega
        have HH := Lib.hid (H.out.trans (numGo_step hlk (by rw [hbk, ← hb, d4, if_pos hd16])))
        have HB2 : n * 16 + d + 1 ≤ 16 ^ (k + 1) := by rw [Nat.pow_succ]; omega
        have D3 := Lib.hid d3
        have h65 : (65 : Int) ≤ (b : Int) := by omega
        have h70 : (b : Int) ≤ 70 := by omega
        clear hb hc hbk d1 d2 d4 d3 hB
        go_wp2_with (first
          | (go_at_call 34; refine Hid.out ?_))
        refine Hid.mk_ ((HIX.out _ b hb256).mono ?_)
        rintro e w1 ⟨rfl, rfl⟩
        rw [D3.out]
        skip
        go_wp2
        go_round
        case rel => exact ⟨k + 1, n * 16 + d, by omega, by go_num, by first | go_num | (rw [Value.int.injEq]; exact ⟨rfl, by omega⟩), HH, HB2⟩
        case measure => simp [intOf]; omega
      · have HH := Lib.hid (H.out.trans (numGo_stop hlk (by rw [hbk, ← hb, d4])))
        have hnone : numOf 16 (bys s) = none := by
          unfold numOf
          split
          · rfl
          · exact HH.out
        have HN := Lib.hid hnone
        have D3 := Lib.hid d3
        have h6 : (¬ (65 : Int) ≤ (b : Int)) ∨ ((65 : Int) ≤ (b : Int) ∧ ¬ (b : Int) ≤ 70) := by omega
        clear hb hc hbk d4 d3 d5 hB hbn hnone
        rcases h6 with h6 | ⟨h6, h7⟩
        all_goals
          go_wp2_with (first
            | (go_at_call 34; refine Hid.out ?_))
          refine Hid.mk_ ((HIX.out _ b hb256).mono ?_)
          rintro e w1 ⟨rfl, rfl⟩
          rw [D3.out]
          go_wp2
          go_ret2
          exact ⟨by unfold numZ; rw [HN.out]; rfl, rfl⟩
    · have hi1 : ¬ (k : Int) < (s.size : Int) := by omega
      have hge : numGo 16 0 (bys s) = some n := by rw [H.out, List.drop_eq_nil_of_le (by rw [HBL.out]; omega)]; rfl
      by_cases h0 : s.toList = []
      · have h0' : (!s.toList.isEmpty) = false := by rw [h0]; rfl
        have hnone : numOf 16 (bys s) = none := by
          have : bys s = [] := by rw [ByteArray.toList_eq] at h0; exact h0
          rw [this]; rfl
        have hk0 : n = 0 := by
          have : bys s = [] := by rw [ByteArray.toList_eq] at h0; exact h0
          rw [this] at hge
          injection hge with hge
          exact hge.symm
        have HN := Lib.hid hnone
        have HK := Lib.hid hk0
        have H0 := Lib.hid h0
        clear hnone hge hk0 hB hbn
        go_wp2
        go_ret2
        exact ⟨by unfold numZ; rw [HN.out, HK.out]; rfl, rfl⟩
      · have h0' : (!s.toList.isEmpty) = true := by simpa using h0
        have hsome : numOf 16 (bys s) = some n := by
          unfold numOf
          have : bys s ≠ [] := fun e => h0 (by rw [ByteArray.toList_eq]; exact e)
          rw [if_neg (by simpa using this)]
          exact hge
        have HN := Lib.hid hsome
        have H0 := Lib.hid h0
        clear hsome hge hB hbn h0
        go_wp2
        go_ret2
        exact ⟨by unfold numZ; rw [HN.out]; rfl, rfl⟩
set_option maxHeartbeats 3200000 in
theorem dig10_any (s : ByteArray) (hs : s.size ≤ 8) : Calls Tryd.prog 38 #[.string s, .int .i64 10] w fun e w' => e = .returned (.tuple #[.int .i64 (numZ 10 (bys s)), .bool (numOf 10 (bys s)).isSome]) ∧ w' = w := by
  have HBL := Lib.hid (bys_len s)
  have hix : ∀ (W : World) (b : Nat), b < 256 → Calls Tryd.prog 34 #[.string ⟨#[48, 49, 50, 51, 52, 53, 54, 55, 56, 57, 97, 98, 99, 100, 101, 102]⟩, .int .u8 (b : Int)] W fun e w' => e = .returned (.int .i64 (hZ b)) ∧ w' = W := fun W b hb => hix_any (w := W) b hb
  have HIX := Lib.hid hix
  clear hix
  go_enter Tryd.func38, Tryd.ntmps38
  go_wp2
  go_loop [6, 11] (fun v i => ∃ k n : Nat, k ≤ s.size ∧ i = .int .i64 k ∧ v = .int .i64 n ∧ Hid (numGo 10 0 (bys s) = numGo 10 n ((bys s).drop k)) ∧ n + 1 ≤ 10 ^ k) (fun _ i => s.size - (intOf i).toNat)
  case atStart => exact ⟨0, 0, Nat.zero_le _, rfl, rfl, Lib.hid (by rw [List.drop_zero]), Nat.le_refl _⟩
  case round =>
    obtain ⟨k, n, hk, rfl, rfl, H, hB⟩ := hrel
    have hpw : 10 ^ k ≤ 4294967296 := Nat.le_trans (Nat.pow_le_pow_right (by omega) (by omega : k ≤ 8)) (by decide)
    have hn32 : n < 4294967296 := by omega
    have hbn : n + 1 ≤ 10 ^ k := hB
    clear hpw
    by_cases hlt : k < s.size
    · have hi1 : (k : Int) < (s.size : Int) := by omega
      have hlk : k < (bys s).length := by rw [HBL.out]; exact hlt
      have hbk := bys_at s k hlt
      obtain ⟨c, hc⟩ : ∃ c, c = s[k]'hlt := ⟨_, rfl⟩
      rw [← hc] at hbk
      obtain ⟨b, hb⟩ : ∃ b, b = c.toNat := ⟨_, rfl⟩
      have hsb : (s[k]'hlt).toNat = b := by rw [hb, hc]
      have hb256 : b < 256 := by rw [hb]; exact UInt8.toNat_lt _
      rcases digV_cases b 10 (by omega) (by omega) with ⟨d1, d2, d3, d4⟩ | ⟨d1, d2, d3, d4⟩ | ⟨d1, d2, d3, d4⟩ | ⟨d3, d4, d5⟩
      · obtain ⟨d, hd⟩ : ∃ d, d = b - 48 := ⟨_, rfl⟩
        rw [← hd] at d4 d3
        have hd16 : d < 10 := by omega
        have hd16' : ¬ (10 : Int) ≤ (d : Int) := by omega
        have HH := Lib.hid (H.out.trans (numGo_step hlk (by rw [hbk, ← hb, d4])))
        have HB2 : n * 10 + d + 1 ≤ 10 ^ (k + 1) := by rw [Nat.pow_succ]; omega
        have D3 := Lib.hid d3
        have h65 : ¬ (65 : Int) ≤ (b : Int) := by omega
        clear hb hc hbk d1 d2 d4 d3 hB hbn hd
        go_wp2_with (first
          | (go_at_call 34; refine Hid.out ?_))
        refine Hid.mk_ ((HIX.out _ b hb256).mono ?_)
        rintro e w1 ⟨rfl, rfl⟩
        rw [D3.out]
        go_wp2
        go_round
        case rel => exact ⟨k + 1, n * 10 + d, by omega, by go_num, by go_num, HH, HB2⟩
        case measure => simp [intOf]; omega
      · skip
        have hd16 : ¬ b - 87 < 10 := by omega
        have HH := Lib.hid (H.out.trans (numGo_stop hlk (by rw [hbk, ← hb, d4, if_neg hd16])))
        have hnone : numOf 10 (bys s) = none := by
          unfold numOf
          split
          · rfl
          · exact HH.out
        have HN := Lib.hid hnone
        have D3 := Lib.hid d3
        have h65 : (65 : Int) ≤ (b : Int) := by omega
        have h70 : ¬ (b : Int) ≤ 70 := by omega
        clear hb hc hbk d1 d2 d4 d3 hB hnone
        go_wp2_with (first
          | (go_at_call 34; refine Hid.out ?_))
        refine Hid.mk_ ((HIX.out _ b hb256).mono ?_)
        rintro e w1 ⟨rfl, rfl⟩
        rw [D3.out]
        skip
        go_wp2
        go_ret2
        exact ⟨by unfold numZ; rw [HN.out]; rfl, rfl⟩
      · skip
        have hd16 : ¬ b - 55 < 10 := by omega
        have HH := Lib.hid (H.out.trans (numGo_stop hlk (by rw [hbk, ← hb, d4, if_neg hd16])))
        have hnone : numOf 10 (bys s) = none := by
          unfold numOf
          split
          · rfl
          · exact HH.out
        have HN := Lib.hid hnone
        have D3 := Lib.hid d3
        have h65 : (65 : Int) ≤ (b : Int) := by omega
        have h70 : (b : Int) ≤ 70 := by omega
        clear hb hc hbk d1 d2 d4 d3 hB hnone
        go_wp2_with (first
          | (go_at_call 34; refine Hid.out ?_))
        refine Hid.mk_ ((HIX.out _ b hb256).mono ?_)
        rintro e w1 ⟨rfl, rfl⟩
        rw [D3.out]
        skip
        go_wp2
        go_ret2
        exact ⟨by unfold numZ; rw [HN.out]; rfl, rfl⟩
      · have HH := Lib.hid (H.out.trans (numGo_stop hlk (by rw [hbk, ← hb, d4])))
        have hnone : numOf 10 (bys s) = none := by
          unfold numOf
          split
          · rfl
          · exact HH.out
        have HN := Lib.hid hnone
        have D3 := Lib.hid d3
        have h6 : (¬ (65 : Int) ≤ (b : Int)) ∨ ((65 : Int) ≤ (b : Int) ∧ ¬ (b : Int) ≤ 70) := by omega
        clear hb hc hbk d4 d3 d5 hB hbn hnone
        rcases h6 with h6 | ⟨h6, h7⟩
        all_goals
          go_wp2_with (first
            | (go_at_call 34; refine Hid.out ?_))
          refine Hid.mk_ ((HIX.out _ b hb256).mono ?_)
          rintro e w1 ⟨rfl, rfl⟩
          rw [D3.out]
          go_wp2
          go_ret2
          exact ⟨by unfold numZ; rw [HN.out]; rfl, rfl⟩
    · have hi1 : ¬ (k : Int) < (s.size : Int) := by omega
      have hge : numGo 10 0 (bys s) = some n := by rw [H.out, List.drop_eq_nil_of_le (by rw [HBL.out]; omega)]; rfl
      by_cases h0 : s.toList = []
      · have h0' : (!s.toList.isEmpty) = false := by rw [h0]; rfl
        have hnone : numOf 10 (bys s) = none := by
          have : bys s = [] := by rw [ByteArray.toList_eq] at h0; exact h0
          rw [this]; rfl
        have hk0 : n = 0 := by
          have : bys s = [] := by rw [ByteArray.toList_eq] at h0; exact h0
          rw [this] at hge
          injection hge with hge
          exact hge.symm
        have HN := Lib.hid hnone
        have HK := Lib.hid hk0
        have H0 := Lib.hid h0
        clear hnone hge hk0 hB hbn
        go_wp2
        go_ret2
        exact ⟨by unfold numZ; rw [HN.out, HK.out]; rfl, rfl⟩
      · have h0' : (!s.toList.isEmpty) = true := by simpa using h0
        have hsome : numOf 10 (bys s) = some n := by
          unfold numOf
          have : bys s ≠ [] := fun e => h0 (by rw [ByteArray.toList_eq]; exact e)
          rw [if_neg (by simpa using this)]
          exact hge
        have HN := Lib.hid hsome
        have H0 := Lib.hid h0
        clear hsome hge hB hbn h0
        go_wp2
        go_ret2
        exact ⟨by unfold numZ; rw [HN.out]; rfl, rfl⟩
end

end Go.Proofs.YtkicjbmljbfojaaDoor
