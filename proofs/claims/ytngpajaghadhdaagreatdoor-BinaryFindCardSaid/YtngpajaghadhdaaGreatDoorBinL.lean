/- The program's numbers of four bytes, Length. -/
import Derived.Test.YtngpajaghadhdaaGreatDoorBinEn
namespace Go.Proofs.YtngpajaghadhdaaGreatDoor
open Go.RowKit
set_option maxRecDepth 100000
attribute [local go_sem] ext_refl_t ext_alloc_t ext_drew_t ext_drewN_t ext_alloc2_t ext_alloc3_t ext_alloc4_t ext_alloc5_t ext_alloc6_t ext_alloc7_t ext_alloc8_t ext_alloc1d_t ext_alloc2d_t ext_alloc3d_t ext_alloc4d_t
theorem i64_or_nat (a b : Nat) (ha : a < 4294967296) (hb : b < 4294967296) : bits .or .i64 (a : Int) (b : Int) = ((a ||| b : Nat) : Int) := by
  have hx : a ||| b < 2 ^ 32 := Nat.or_lt_two_pow (by omega) (by omega)
  have e1 : (BitVec.ofInt 64 (a : Int)).toNat = a := by rw [BitVec.toNat_ofInt]; omega
  have e2 : (BitVec.ofInt 64 (b : Int)).toNat = b := by rw [BitVec.toNat_ofInt]; omega
  show IntKind.i64.wrap ((BitVec.ofInt 64 (a : Int) ||| BitVec.ofInt 64 (b : Int)).toNat : Int) = _
  rw [BitVec.toNat_or, e1, e2]
  obtain ⟨n, hn⟩ : ∃ n, n = a ||| b := ⟨_, rfl⟩
  rw [← hn] at hx ⊢
  have e : (n : Int) % 2 ^ 64 = n := Int.emod_eq_of_lt (by omega) (by omega)
  simp only [IntKind.wrap, IntKind.bits, IntKind.signed, e]
  rw [if_neg]
  simp
  omega
theorem or_mul_ (a b i m : Nat) (hm : m = 2 ^ i) (h : a < m) : b * m ||| a = b * m + a := by
  subst hm
  rw [← Nat.shiftLeft_eq, Nat.shiftLeft_add_eq_or_of_lt h]
theorem be4 (a b c d : Nat) (ha : a < 256) (hb : b < 256) (hc : c < 256) (hd : d < 256) : bits .or .i64 (bits .or .i64 (bits .or .i64 ((a : Int) * 16777216) ((b : Int) * 65536)) ((c : Int) * 256)) (d : Int) = ((a * 16777216 + b * 65536 + c * 256 + d : Nat) : Int) := by
  have e1 : bits .or .i64 ((a : Int) * 16777216) ((b : Int) * 65536) = ((a * 16777216 + b * 65536 : Nat) : Int) := by
    rw [show (a : Int) * 16777216 = ((a * 16777216 : Nat) : Int) by omega, show (b : Int) * 65536 = ((b * 65536 : Nat) : Int) by omega, i64_or_nat _ _ (by omega) (by omega), or_mul_ (b * 65536) a 24 16777216 (by decide) (by omega)]
  have e2 : bits .or .i64 ((a * 16777216 + b * 65536 : Nat) : Int) ((c : Int) * 256) = ((a * 16777216 + b * 65536 + c * 256 : Nat) : Int) := by
    rw [show (c : Int) * 256 = ((c * 256 : Nat) : Int) by omega, i64_or_nat _ _ (by omega) (by omega), show a * 16777216 + b * 65536 = (a * 256 + b) * 65536 by omega, or_mul_ (c * 256) (a * 256 + b) 16 65536 (by decide) (by omega)]
  have e3 : bits .or .i64 ((a * 16777216 + b * 65536 + c * 256 : Nat) : Int) (d : Int) = ((a * 16777216 + b * 65536 + c * 256 + d : Nat) : Int) := by
    rw [i64_or_nat _ _ (by omega) (by omega), show a * 16777216 + b * 65536 + c * 256 = (a * 65536 + b * 256 + c) * 256 by omega, or_mul_ d (a * 65536 + b * 256 + c) 8 256 (by decide) (by omega)]
  rw [e1, e2, e3]
section
variable {w : World}
set_option maxHeartbeats 3200000 in
theorem bnumber_any {A : Option Addr} {m : Nat} (c : Nat) {l : List UInt8} (hs : SlB w A m l) {i : Nat} (hi : i + 4 ≤ m) :
    Calls Tryz.prog 35 #[.slice A m c, .int .i64 (i : Int)] w fun e w' => e = .returned (.int .i64 (numAt l i : Int)) ∧ Ext w w' := by
  have HL := Lib.hid hs.len
  have hmb : m ≤ 140737488355328 := hs.le
  obtain ⟨b, off, rfl, _, hc⟩ := hs.at_ (show i < m by omega)
  have l0 : i < l.length := by have := HL.out; omega
  have l1 : i + 1 < l.length := by have := HL.out; omega
  have l2 : i + 2 < l.length := by have := HL.out; omega
  have l3 : i + 3 < l.length := by have := HL.out; omega
  have k0 := hc i l0
  have k1 := hc (i + 1) l1
  have k2 := hc (i + 2) l2
  have k3 := hc (i + 3) l3
  obtain ⟨y0, h0⟩ : ∃ y, y = l[i] := ⟨_, rfl⟩
  obtain ⟨y1, h1⟩ : ∃ y, y = l[i + 1] := ⟨_, rfl⟩
  obtain ⟨y2, h2⟩ : ∃ y, y = l[i + 2] := ⟨_, rfl⟩
  obtain ⟨y3, h3⟩ : ∃ y, y = l[i + 3] := ⟨_, rfl⟩
  rw [← h0] at k0
  rw [← h1] at k1
  rw [← h2] at k2
  rw [← h3] at k3
  have HN : Hid (numAt l i = y0.toNat * 16777216 + y1.toNat * 65536 + y2.toNat * 256 + y3.toNat) := by
    show _ = _
    unfold numAt
    simp only [List.getD_eq_getElem?_getD, List.getElem?_eq_getElem l0, List.getElem?_eq_getElem l1, List.getElem?_eq_getElem l2, List.getElem?_eq_getElem l3, Option.getD_some, ← h0, ← h1, ← h2, ← h3]
  have z0 := y0.toNat_lt
  have z1 := y1.toNat_lt
  have z2 := y2.toNat_lt
  have z3 := y3.toNat_lt
  have i1 : (i : Int) + 1 < (m : Int) := by omega
  have i2 : (i : Int) + 2 < (m : Int) := by omega
  have i3 : (i : Int) + 3 < (m : Int) := by omega
  have i0 : (i : Int) < (m : Int) := by omega
  have X0 := latersU k0
  have X1 := latersU k1
  have X2 := latersU k2
  have X3 := latersU k3
  clear hc hs h0 h1 h2 h3 l0 l1 l2 l3 k0 k1 k2 k3
  go_enter Tryz.func35, Tryz.ntmps35
  go_wp2
  refine wp_region_ext_lit (by kernel_rfl) (by kernel_rfl) ?_
  try dsimp only [List.append]
  repeat (go_big_quiet_step (fail))
  refine wpQuiet_nil ?_
  rintro w5 ⟨⟨_, h5⟩, rfl⟩
  try dsimp only
  go_wp2
  go_ret
  refine ⟨?_, h5⟩
  show Ending.returned (.int .i64 _) = _
  rw [be4 _ _ _ _ z0 z1 z2 z3, HN.out]
/-- What Length returns. -/
def LenR (l : List UInt8) : Int × Bool := if 8 ≤ l.length ∧ l.take 4 = magicB then ((numAt l 4 : Int), true) else (0, false)
theorem str_magic (l : List UInt8) : (str l = ⟨#[67, 81, 66, 49]⟩) ↔ l = magicB := by
  constructor
  · intro h
    have h2 : bys (str l) = bys ⟨#[67, 81, 66, 49]⟩ := by rw [h]
    rw [bys_str] at h2
    exact h2
  · rintro rfl; rfl
set_option maxHeartbeats 3200000 in
theorem blength_any {A : Option Addr} {m : Nat} (c : Nat) {l : List UInt8} (hs : SlB w A m l) (hmc : m ≤ c) :
    Calls Tryz.prog 8 #[.slice A m c] w fun e w' => e = .returned (.tuple #[.int .i64 (LenR l).1, .bool (LenR l).2]) ∧ Ext w w' := by
  have HL := Lib.hid hs.len
  have hmb : m ≤ 140737488355328 := hs.le
  go_enter Tryz.func8, Tryz.ntmps8
  by_cases h8 : m < 8
  · have hi : (m : Int) < 8 := by omega
    have HR : Hid (LenR l = (0, false)) := by
      show _ = _
      unfold LenR
      rw [if_neg (by have := HL.out; omega)]
    go_wp2
    go_ret2
    rw [HR.out]
    exact ⟨rfl, Ext.refl _⟩
  · have hi : ¬ (m : Int) < 8 := by omega
    obtain ⟨A2, _, _, hr3, hs3, _⟩ := cut_run hs (i := 0) (j := 4) (by omega) (by omega) hmc
    simp only [Nat.sub_zero, List.drop_zero] at hr3 hs3
    have q1 : ∀ W, (Instr.sliceAt 22 (.slice A m c) none (some (.int .i64 4)) none).run Tryz.prog W = .ok (.slice A2 4 c) W := fun W => (hr3 W .i64 4 trivial rfl).1
    have q2 : ∀ W, (Instr.slice 22 (.slice A m c) none (some (.int .i64 4)) none).run Tryz.prog W = .ok (.slice A2 4 c) W := fun W => (hr3 W .i64 4 trivial rfl).2
    have hcv := conv_str hs3 c
    have i4 : (4 : Int) ≤ (m : Int) := by omega
    have HS := Lib.hid hs
    clear hr3 hs3 hs
    by_cases hmg : l.take 4 = magicB
    · have HR : Hid (LenR l = ((numAt l 4 : Int), true)) := by
        show _ = _
        unfold LenR
        rw [if_pos ⟨by have := HL.out; omega, hmg⟩]
      rw [hmg, show str magicB = ⟨#[67, 81, 66, 49]⟩ from rfl] at hcv
      clear hmg
      go_wp2_with (first
        | (go_at_call 35; refine Hid.out ?_))
      refine Hid.mk_ ((bnumber_any c HS.out (i := 4) (by omega)).mono ?_)
      rintro e w1 ⟨rfl, hE1⟩
      go_wp2
      go_ret2
      rw [HR.out]
      exact ⟨rfl, hE1⟩
    · have HR : Hid (LenR l = (0, false)) := by
        show _ = _
        unfold LenR
        rw [if_neg (fun h => hmg h.2)]
      obtain ⟨s, hse⟩ : ∃ s, s = str (l.take 4) := ⟨_, rfl⟩
      have hne : (s.toList == [67, 81, 66, 49]) = false := by
        rw [beq_eq_false_iff_ne]
        intro e
        refine hmg ?_
        rw [hse] at e
        rw [ByteArray.toList_eq, show (str (l.take 4)).data.toList = l.take 4 from bys_str _] at e
        exact e
      rw [← hse] at hcv
      clear hmg hse
      go_wp2
      go_ret2
      rw [HR.out]
      exact ⟨rfl, Ext.refl _⟩
end
end Go.Proofs.YtngpajaghadhdaaGreatDoor
