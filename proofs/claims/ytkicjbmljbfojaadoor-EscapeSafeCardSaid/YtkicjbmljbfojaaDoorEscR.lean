/- The reference's In, decimal, hex, entity. -/
import Derived.Test.YtkicjbmljbfojaaDoorEscU
import Derived.RegionTactic
namespace Go.Proofs.YtkicjbmljbfojaaDoor
open Go.RowKit
set_option maxRecDepth 100000

attribute [local go_sem] ext_refl_t ext_alloc_t ext_drew_t ext_drewN_t ext_alloc2_t ext_alloc3_t ext_alloc4_t ext_alloc5_t ext_alloc6_t ext_alloc7_t ext_alloc8_t ext_alloc1d_t ext_alloc2d_t ext_alloc3d_t ext_alloc4d_t

section
variable {w : World}
def inL (b : Nat) (l : List UInt8) : Bool := l.any fun x => x.toNat == b
theorem inL_step {b : Nat} {l : List UInt8} {k : Nat} (h : k < l.length) (hb : (l[k]).toNat ≠ b) : inL b (l.drop k) = inL b (l.drop (k + 1)) := by
  unfold inL
  rw [List.drop_eq_getElem_cons h, List.any_cons, beq_eq_false_iff_ne.2 hb, Bool.false_or]
theorem inL_hit {b : Nat} {l : List UInt8} {k : Nat} (h : k < l.length) (hb : (l[k]).toNat = b) : inL b (l.drop k) = true := by
  unfold inL
  rw [List.drop_eq_getElem_cons h, List.any_cons, beq_iff_eq.2 hb, Bool.true_or]
set_option maxHeartbeats 800000 in
theorem in_any (s : ByteArray) (b : Nat) (hs : s.size ≤ 9223372036854775807) : Calls Tryd.prog 18 #[.int .u8 (b : Int), .string s] w fun e w' => e = .returned (.bool (inL b (bys s))) ∧ w' = w := by
  have hbl := bys_len s
  have HBL := Lib.hid hbl
  clear hbl
  go_enter Tryd.func18, Tryd.ntmps18
  go_wp2
  go_loop [5] (fun i => ∃ k : Nat, k ≤ s.size ∧ i = .int .i64 k ∧ Hid (inL b (bys s) = inL b ((bys s).drop k))) (fun i => s.size - (intOf i).toNat)
  case atStart => exact ⟨0, Nat.zero_le _, rfl, Lib.hid (by rw [List.drop_zero])⟩
  case round =>
    obtain ⟨k, hk, rfl, H⟩ := hrel
    by_cases hlt : k < s.size
    · have hi1 : (k : Int) < (s.size : Int) := by omega
      have hlk : k < (bys s).length := by rw [HBL.out]; exact hlt
      by_cases he : (s[k]'hlt).toNat = b
      · have hq : (((s[k]'hlt).toNat : Int) == (b : Int)) = true := by rw [he]; exact beq_self_eq_true _
        have HH := Lib.hid (H.out.trans (inL_hit hlk (by rw [bys_at s k hlt]; exact he)))
        clear he
        go_wp2
        go_ret
        exact ⟨by rw [HH.out]; rfl, rfl⟩
      · have hq : (((s[k]'hlt).toNat : Int) == (b : Int)) = false := by rw [beq_eq_false_iff_ne]; omega
        have HH := Lib.hid (H.out.trans (inL_step hlk (by rw [bys_at s k hlt]; exact he)))
        clear he
        go_wp2
        go_round
        case rel => exact ⟨k + 1, by omega, by go_num, HH⟩
        case measure => simp [intOf]; omega
    · have hi1 : ¬ (k : Int) < (s.size : Int) := by omega
      have HH : Hid (inL b (bys s) = false) := Lib.hid (by rw [H.out, List.drop_eq_nil_of_le (by rw [HBL.out]; omega)]; rfl)
      go_wp2
      go_ret
      exact ⟨by rw [HH.out]; rfl, rfl⟩
theorem hexI (v : Nat) (hv : v < 16) (hb : v < ((⟨#[48, 49, 50, 51, 52, 53, 54, 55, 56, 57, 97, 98, 99, 100, 101, 102]⟩ : ByteArray)).size) : ((⟨#[48, 49, 50, 51, 52, 53, 54, 55, 56, 57, 97, 98, 99, 100, 101, 102]⟩ : ByteArray))[v] = hexC v := by
  have h : v = 0 ∨ v = 1 ∨ v = 2 ∨ v = 3 ∨ v = 4 ∨ v = 5 ∨ v = 6 ∨ v = 7 ∨ v = 8 ∨ v = 9 ∨ v = 10 ∨ v = 11 ∨ v = 12 ∨ v = 13 ∨ v = 14 ∨ v = 15 := by omega
  rcases h with rfl | rfl | rfl | rfl | rfl | rfl | rfl | rfl | rfl | rfl | rfl | rfl | rfl | rfl | rfl | rfl <;> rfl
set_option maxHeartbeats 800000 in
theorem rhex_any (b : Nat) (hb : b < 256) : Calls Tryd.prog 37 #[.int .i64 (b : Int)] w fun e w' => e = .returned (.string (str (hex2 b))) ∧ Ext w w' := by
  obtain ⟨q, hq⟩ : ∃ q, q = b / 16 := ⟨_, rfl⟩
  obtain ⟨r, hr⟩ : ∃ r, r = b % 16 := ⟨_, rfl⟩
  have e1 : IntKind.i64.wrap ((b : Int) / 16) = (q : Int) := by rw [IntWalk.i64_in _ (by omega)]; omega
  have e2 : IntKind.i64.wrap ((b : Int).tmod 16) = (r : Int) := by rw [Int.tmod_eq_emod_of_nonneg (by omega), IntWalk.i64_in _ (by omega)]; omega
  have e3 : (b : Int).tmod 16 = (r : Int) := by rw [Int.tmod_eq_emod_of_nonneg (by omega)]; omega
  have e4 : (b : Int) % 16 = (r : Int) := by omega
  have e5 : (b : Int) / 16 = (q : Int) := by omega
  have q16 : q < 16 := by omega
  have r16 : r < 16 := by omega
  have q1 : (q : Int) < 16 := by omega
  have r1 : (r : Int) < 16 := by omega
  have q0 : (0 : Int) ≤ (q : Int) := by omega
  have r0 : (0 : Int) ≤ (r : Int) := by omega
  have hfin : hex2 b = [hexC q, hexC r] := by unfold hex2; rw [hq, hr]
  have HF := Lib.hid hfin
  have x1 : ∀ hb, ((⟨#[48, 49, 50, 51, 52, 53, 54, 55, 56, 57, 97, 98, 99, 100, 101, 102]⟩ : ByteArray))[q]'hb = hexC q := fun hb => hexI q q16 hb
  have x2 : ∀ hb, ((⟨#[48, 49, 50, 51, 52, 53, 54, 55, 56, 57, 97, 98, 99, 100, 101, 102]⟩ : ByteArray))[r]'hb = hexC r := fun hb => hexI r r16 hb
  obtain ⟨u, hu⟩ : ∃ u, u = hexC q := ⟨_, rfl⟩
  obtain ⟨v, hv⟩ : ∃ v, v = hexC r := ⟨_, rfl⟩
  rw [← hu] at x1
  rw [← hv] at x2
  have HU := Lib.hid hu
  have HV := Lib.hid hv
  have hcv : (convert 34 9 (.slice (some ⟨w.heap.size, 0, none⟩) 2 2)).run Tryd.prog (w.alloc (.cells #[.int .u8 (u.toNat : Int), .int .u8 (v.toNat : Int)] 5)).drew = .ok (.string (str [u, v])) (w.alloc (.cells #[.int .u8 (u.toNat : Int), .int .u8 (v.toNat : Int)] 5)).drew :=
    conv_str ((OsB.new_ w w.heap.size (Nat.le_refl _) [u, v] (by simp) _ rfl 2 rfl).sl.ext (Ext.refl _).drew) 2
  clear hq hr hfin hu hv
  go_enter Tryd.func37, Tryd.ntmps37
  go_wp2
  go_region
  all_goals
    go_wp2
    go_ret
    exact ⟨by rw [HF.out, ← HU.out, ← HV.out]; rfl, ((Ext.refl _).alloc _).drew⟩
end

end Go.Proofs.YtkicjbmljbfojaaDoor
