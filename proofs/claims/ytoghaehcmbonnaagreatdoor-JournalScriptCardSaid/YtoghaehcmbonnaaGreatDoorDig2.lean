/- Digests: the reference's eight bytes, sums, seals, equality of bytes. -/
import Derived.Test.YtoghaehcmbonnaaGreatDoorDig
namespace Go.Proofs.YtoghaehcmbonnaaGreatDoor
open Go.RowKit
set_option maxRecDepth 100000

theorem eightL_take (n q : Nat) (hq : q < 8) : (eightL n).take (q + 1) = (eightL n).take q ++ [UInt8.ofNat (n / 256 ^ q % 256)] := by
  rw [List.take_succ_eq_append_getElem (by rw [eightL_len]; exact hq), eightL_at n q hq]
section
variable {w : World} {A : Option Addr} {m : Nat} {l : List UInt8}
set_option maxHeartbeats 3200000 in
theorem refEight_any (n : Nat) (hn : n < 18446744073709551616) {w : World} :
    Calls Tryz.prog 69 #[.int .u64 n] w fun e w' => ∃ A c, e = .returned (.slice A 8 c) ∧ SlB w' A 8 (eightL n) ∧ Ext w w' := by
  go_enter Tryz.func69, Tryz.ntmps69
  go_wp2
  go_loopw [0, 3, 4] (fun v o i wr => ∃ (q k m c : Nat) (A : Option Addr), q ≤ 8 ∧ k ≤ n ∧ i = .int .i64 q ∧ v = .int .u64 k ∧ k = n / 256 ^ q ∧ o = .slice A m c ∧ m ≤ 8 ∧ m = q ∧ OsB wr w.heap.size A m c ((eightL n).take q) ∧ Ext w wr) (fun _ _ i _ => 8 - (intOf i).toNat)
  case atStart => exact ⟨0, n, 0, 0, none, Nat.zero_le _, Nat.le_refl _, rfl, rfl, by simp, rfl, by omega, rfl, OsB.nil_, Ext.refl _⟩
  case round =>
    obtain ⟨q, k, m, c, A, hq, hkn, rfl, rfl, hk, rfl, hm8, hmq, ho, hE⟩ := hrel
    have HK := Lib.hid hk
    have HM := Lib.hid hmq
    clear hk hmq
    by_cases hlt : q < 8
    · have hk256 : k % 256 < 256 := Nat.mod_lt _ (by omega)
      go_wp2_with (first
        | (at_builtin; refine Hid.out ?_))
      refine Hid.mk_ ?_
      refine appB1 rfl _ _ rfl ho rfl (UInt8.ofNat (k % 256)) (by simp [UInt8.toNat_ofNat']) rfl (by omega) hE.size_le ?_
      intro A2 m2 c2 w2 ho2 hg2 hat2
      have hE2 : Ext w w2 := hE.grown hg2 ho.ge
      have ht : (eightL n).take q ++ [UInt8.ofNat (k % 256)] = (eightL n).take (q + 1) := by rw [eightL_take n q hlt, HK.out]
      rw [ht] at ho2
      have hm2 : m2 = q + 1 := by have := ho2.len; rw [List.length_take, eightL_len] at this; omega
      have HM2 := Lib.hid hm2
      have hm28 : m2 ≤ 8 := by omega
      clear ht hm2
      go_wp2
      go_roundw
      case rel => exact ⟨q + 1, k / 256, m2, c2, A2, by omega, by omega, by go_num, by go_num, by rw [HK.out, Nat.div_div_eq_div_mul, Nat.pow_succ], rfl, hm28, HM2.out, ho2, hE2⟩
      case measure => simp [intOf]; omega
    · have h8 : m = 8 := by rw [HM.out]; omega
      have hq8 : q = 8 := by omega
      subst h8
      have HQ := Lib.hid hq8
      clear hq8
      go_wp2
      go_ret
      have hs := ho.sl
      rw [HQ.out, List.take_of_length_le (by rw [eightL_len]; omega)] at hs
      exact ⟨A, c, rfl, hs, hE⟩

set_option maxHeartbeats 800000 in
theorem sealed_any (h c : Nat) (hh : h < 18446744073709551616) (hs : SlB w A m l) :
    Calls Tryz.prog 57 #[.int .u64 h, .slice A m c] w fun e w' => e = .returned (.int .u64 (sealN h l)) ∧ Ext w w' := by
  have hle := hs.le
  have HL := Lib.hid hs.len
  go_enter Tryz.func57, Tryz.ntmps57
  go_wp2_with (first
    | (go_at_call 76; refine Hid.out ?_))
  refine Hid.mk_ ((from_any h c hh hs).mono ?_)
  rintro e w1 ⟨rfl, rfl⟩
  go_wp2_with (first
    | (go_at_call 56; refine Hid.out ?_))
  refine Hid.mk_ ((eight_any m (by omega)).mono ?_)
  rintro e w2 ⟨A2, c2, rfl, hs2, hE2⟩
  go_wp2_with (first
    | (go_at_call 76; refine Hid.out ?_))
  refine Hid.mk_ ((from_any _ c2 (dig_lt hh l) hs2).mono ?_)
  rintro e w3 ⟨rfl, rfl⟩
  go_wp2
  go_ret
  exact ⟨by unfold sealN; rw [← HL.out]; rfl, hE2⟩
set_option maxHeartbeats 800000 in
theorem refSeal_any (h c : Nat) (hh : h < 18446744073709551616) (hs : SlB w A m l) :
    Calls Tryz.prog 70 #[.int .u64 h, .slice A m c] w fun e w' => e = .returned (.int .u64 (sealN h l)) ∧ Ext w w' := by
  have hle := hs.le
  have HL := Lib.hid hs.len
  go_enter Tryz.func70, Tryz.ntmps70
  go_wp2_with (first
    | (go_at_call 91; refine Hid.out ?_))
  refine Hid.mk_ ((refFrom_any h c hh hs).mono ?_)
  rintro e w1 ⟨rfl, rfl⟩
  go_wp2_with (first
    | (go_at_call 69; refine Hid.out ?_))
  refine Hid.mk_ ((refEight_any m (by omega)).mono ?_)
  rintro e w2 ⟨A2, c2, rfl, hs2, hE2⟩
  go_wp2_with (first
    | (go_at_call 91; refine Hid.out ?_))
  refine Hid.mk_ ((refFrom_any _ c2 (dig_lt hh l) hs2).mono ?_)
  rintro e w3 ⟨rfl, rfl⟩
  go_wp2
  go_ret
  exact ⟨by unfold sealN; rw [← HL.out]; rfl, hE2⟩
/-- The number with which digests begin. -/
def dStart : Nat := 109270082352485
theorem dStart_int : ((dStart : Nat) : Int) = 109270082352485 := rfl
/-- The sealed string. -/
def sealL (h : Nat) (l : List UInt8) : List UInt8 := l ++ eightL (sealN h l)
set_option maxHeartbeats 1600000 in
theorem seal_any (h c : Nat) (hh : h < 18446744073709551616) (hs : SlB w A m l) (hm : m ≤ 140737488351232) :
    Calls Tryz.prog 39 #[.int .u64 h, .slice A m c] w fun e w' => ∃ A2 m2 c2, e = .returned (.slice A2 m2 c2) ∧ OsB w' w.heap.size A2 m2 c2 (sealL h l) ∧ Ext w w' := by
  have hle := hs.le
  go_enter Tryz.func39, Tryz.ntmps39
  go_wp2_with (first
    | (at_builtin; refine Hid.out ?_))
  refine Hid.mk_ ?_
  refine appB rfl _ _ rfl (OsB.new_ w w.heap.size (Nat.le_refl _) [] (by simp) _ rfl 0 rfl) rfl (hs.ext ((Ext.refl _).alloc _)) rfl (by omega) (by simp) ?_
  intro A3 m3 c3 w3 ho3 hg3 hat3
  have hE3 : Ext w w3 := ((Ext.refl w).alloc _).grown hg3 (by intro k hk; simp [ob] at hk; omega)
  have hm3 : m3 ≤ 140737488351232 := by have h1 := ho3.len; have h2 := hs.len; simp only [List.nil_append] at h1; omega
  go_wp2_with (first
    | (go_at_call 57; refine Hid.out ?_))
  refine Hid.mk_ ((sealed_any h c hh (hs.ext hE3)).mono ?_)
  rintro e w4 ⟨rfl, hE4⟩
  go_wp2_with (first
    | (go_at_call 56; refine Hid.out ?_))
  refine Hid.mk_ ((eight_any _ (seal_lt hh l)).mono ?_)
  rintro e w5 ⟨A5, c5, rfl, hs5, hE5⟩
  have hE35 := hE4.trans hE5
  go_wp2_with (first
    | (at_builtin; refine Hid.out ?_))
  refine Hid.mk_ ?_
  refine appB rfl _ _ rfl (ho3.ext hE35) rfl hs5 rfl (by omega) (hE3.trans hE35).size_le ?_
  intro A6 m6 c6 w6 ho6 hg6 hat6
  have hE6 : Ext w w6 := (hE3.trans hE35).grown hg6 ho3.ge
  go_wp2
  go_ret
  exact ⟨A6, m6, c6, rfl, ho6, hE6⟩
set_option maxHeartbeats 1600000 in
theorem refSealS_any (h c : Nat) (hh : h < 18446744073709551616) (hs : SlB w A m l) (hm : m ≤ 140737488351232) :
    Calls Tryz.prog 49 #[.int .u64 h, .slice A m c] w fun e w' => ∃ A2 m2 c2, e = .returned (.slice A2 m2 c2) ∧ OsB w' w.heap.size A2 m2 c2 (sealL h l) ∧ Ext w w' := by
  have hle := hs.le
  go_enter Tryz.func49, Tryz.ntmps49
  go_wp2_with (first
    | (at_builtin; refine Hid.out ?_))
  refine Hid.mk_ ?_
  refine appB rfl _ _ rfl (OsB.new_ w w.heap.size (Nat.le_refl _) [] (by simp) _ rfl 0 rfl) rfl (hs.ext ((Ext.refl _).alloc _)) rfl (by omega) (by simp) ?_
  intro A3 m3 c3 w3 ho3 hg3 hat3
  have hE3 : Ext w w3 := ((Ext.refl w).alloc _).grown hg3 (by intro k hk; simp [ob] at hk; omega)
  have hm3 : m3 ≤ 140737488351232 := by have h1 := ho3.len; have h2 := hs.len; simp only [List.nil_append] at h1; omega
  go_wp2_with (first
    | (go_at_call 70; refine Hid.out ?_))
  refine Hid.mk_ ((refSeal_any h c hh (hs.ext hE3)).mono ?_)
  rintro e w4 ⟨rfl, hE4⟩
  go_wp2_with (first
    | (go_at_call 69; refine Hid.out ?_))
  refine Hid.mk_ ((refEight_any _ (seal_lt hh l)).mono ?_)
  rintro e w5 ⟨A5, c5, rfl, hs5, hE5⟩
  have hE35 := hE4.trans hE5
  go_wp2_with (first
    | (at_builtin; refine Hid.out ?_))
  refine Hid.mk_ ?_
  refine appB rfl _ _ rfl (ho3.ext hE35) rfl hs5 rfl (by omega) (hE3.trans hE35).size_le ?_
  intro A6 m6 c6 w6 ho6 hg6 hat6
  have hE6 : Ext w w6 := (hE3.trans hE35).grown hg6 ho3.ge
  go_wp2
  go_ret
  exact ⟨A6, m6, c6, rfl, ho6, hE6⟩
end
end Go.Proofs.YtoghaehcmbonnaaGreatDoor
