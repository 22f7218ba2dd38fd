/- digits at long texts; forbidden, encoded, readBackslash of package escape. -/
import Derived.Test.YtkicjbmljbfojaaDoorEscV
namespace Go.Proofs.YtkicjbmljbfojaaDoor
open Go.RowKit
set_option maxRecDepth 100000

attribute [local go_sem] ext_refl_t ext_alloc_t ext_drew_t ext_drewN_t ext_alloc2_t ext_alloc3_t ext_alloc4_t ext_alloc5_t ext_alloc6_t ext_alloc7_t ext_alloc8_t ext_alloc1d_t ext_alloc2d_t ext_alloc3d_t ext_alloc4d_t
section
variable {w : World}
def AnyPair (e : Ending) : Prop := ∃ (v : Int) (ok : Bool), e = .returned (.tuple #[.int .i64 v, .bool ok])
set_option maxHeartbeats 3200000 in
theorem digL_any (s : ByteArray) (base : Int) (hs : s.size ≤ 100000) : Calls Tryd.prog 38 #[.string s, .int .i64 base] w fun e w' => AnyPair e ∧ w' = w := by
  have hix : ∀ (W : World) (b : Nat), b < 256 → Calls Tryd.prog 34 #[.string ⟨#[48, 49, 50, 51, 52, 53, 54, 55, 56, 57, 97, 98, 99, 100, 101, 102]⟩, .int .u8 (b : Int)] W fun e w' => e = .returned (.int .i64 (hZ b)) ∧ w' = W := fun W b hb => hix_any (w := W) b hb
  have HIX := Lib.hid hix
  clear hix
  go_enter Tryd.func38, Tryd.ntmps38
  go_wp2
  go_loop [6, 11] (fun v i => ∃ (k : Nat) (z : Int), k ≤ s.size ∧ i = .int .i64 k ∧ v = .int .i64 z) (fun _ i => s.size - (intOf i).toNat)
  case atStart => exact ⟨0, 0, Nat.zero_le _, rfl, rfl⟩
  case round =>
    obtain ⟨k, n, hk, rfl, rfl⟩ := hrel
    by_cases hlt : k < s.size
    · have hi1 : (k : Int) < (s.size : Int) := by omega
      obtain ⟨b, hb⟩ : ∃ b, b = (s[k]'hlt).toNat := ⟨_, rfl⟩
      have hsb : (s[k]'hlt).toNat = b := hb.symm
      have hb256 : b < 256 := by rw [hb]; exact UInt8.toNat_lt _
      clear hb
      go_wp2_with (first
        | (go_at_call 34; refine Hid.out ?_))
      refine Hid.mk_ ((HIX.out _ b hb256).mono ?_)
      rintro e w1 ⟨rfl, rfl⟩
      obtain ⟨r, hr⟩ : ∃ r, r = hZ b := ⟨_, rfl⟩
      rw [← hr]
      clear hr
      go_wp2
      all_goals first
        | (go_ret2; exact ⟨⟨_, _, rfl⟩, rfl⟩)
        | (go_round
           case rel => exact ⟨k + 1, _, by omega, by go_num, rfl⟩
           case measure => simp [intOf]; omega)
    · have hi1 : ¬ (k : Int) < (s.size : Int) := by omega
      go_wp2
      go_ret2
      exact ⟨⟨_, _, rfl⟩, rfl⟩
theorem forb_any (n : Nat) (c : Nat) (h1 : 1 ≤ n) (h4 : n ≤ 4) (hc : c < 256) : Calls Tryd.prog 27 #[.int .i64 (n : Int), .int .u8 (c : Int)] w fun e w' => e = .returned (.bool (forb n (by_ c))) ∧ w' = w := by
  have hcc : (by_ c).toNat = c := by unfold by_; rw [UInt8.toNat_ofNat', Nat.mod_eq_of_lt hc]
  have hf : forb n (by_ c) = (if n = 4 then (c == 60 || c == 34) else if n = 1 then c == 10 else (c == 10 || c == 34)) := by
    have h := all_bytes (p := fun n b _ => n == 0 || forb n (by_ b) == (if n = 4 then (b == 60 || b == 34) else if n = 1 then b == 10 else (b == 10 || b == 34))) (by kernel_rfl) n h4 (by_ c) true
    rw [hcc] at h
    simp only [Bool.or_eq_true, beq_iff_eq] at h
    rcases h with h | h
    · omega
    · exact h
  have HF := Lib.hid hf
  clear hf hcc
  by_cases h10 : c = 10
  · subst h10
    obtain rfl | rfl | rfl | rfl : n = 1 ∨ n = 2 ∨ n = 3 ∨ n = 4 := by omega
    all_goals
      go_enter Tryd.func27, Tryd.ntmps27
      go_wp2
      go_ret
      exact ⟨by rw [HF.out]; rfl, rfl⟩
  by_cases h34 : c = 34
  · subst h34
    obtain rfl | rfl | rfl | rfl : n = 1 ∨ n = 2 ∨ n = 3 ∨ n = 4 := by omega
    all_goals
      go_enter Tryd.func27, Tryd.ntmps27
      go_wp2
      go_ret
      exact ⟨by rw [HF.out]; rfl, rfl⟩
  by_cases h60 : c = 60
  · subst h60
    obtain rfl | rfl | rfl | rfl : n = 1 ∨ n = 2 ∨ n = 3 ∨ n = 4 := by omega
    all_goals
      go_enter Tryd.func27, Tryd.ntmps27
      go_wp2
      go_ret
      exact ⟨by rw [HF.out]; rfl, rfl⟩
  have t1 : ((c : Int) == 10) = false := by rw [beq_eq_false_iff_ne]; omega
  have t2 : ((c : Int) == 34) = false := by rw [beq_eq_false_iff_ne]; omega
  have t3 : ((c : Int) == 60) = false := by rw [beq_eq_false_iff_ne]; omega
  have hz : forb n (by_ c) = false := by
    rw [HF.out, beq_eq_false_iff_ne.2 h10, beq_eq_false_iff_ne.2 h34, beq_eq_false_iff_ne.2 h60]
    split
    · rfl
    · split <;> rfl
  have HZ := Lib.hid hz
  clear hz h10 h34 h60
  obtain rfl | rfl | rfl | rfl : n = 1 ∨ n = 2 ∨ n = 3 ∨ n = 4 := by omega
  all_goals
    go_enter Tryd.func27, Tryd.ntmps27
    go_wp2
    go_ret
    exact ⟨by rw [HZ.out]; rfl, rfl⟩
end

end Go.Proofs.YtkicjbmljbfojaaDoor
