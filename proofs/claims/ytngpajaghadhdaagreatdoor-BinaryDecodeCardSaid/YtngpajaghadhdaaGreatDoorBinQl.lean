/- Length of the reference. -/
import Derived.Test.YtngpajaghadhdaaGreatDoorBinQe
namespace Go.Proofs.YtngpajaghadhdaaGreatDoor
open Go.RowKit
set_option maxRecDepth 100000
attribute [local go_sem] ext_refl_t ext_alloc_t ext_drew_t ext_drewN_t ext_alloc2_t ext_alloc3_t ext_alloc4_t ext_alloc5_t ext_alloc6_t ext_alloc7_t ext_alloc8_t ext_alloc1d_t ext_alloc2d_t ext_alloc3d_t ext_alloc4d_t
section
variable {w : World}
set_option maxHeartbeats 3200000 in
theorem rlength_any {A : Option Addr} {m : Nat} (c : Nat) {l : List UInt8} (hs : SlB w A m l) (hmc : m ≤ c) :
    Calls Tryz.prog 9 #[.slice A m c] w fun e w' => e = .returned (.tuple #[.int .i64 (LenR l).1, .bool (LenR l).2]) ∧ Ext w w' := by
  have HL := Lib.hid hs.len
  have hmb : m ≤ 140737488355328 := hs.le
  go_enter Tryz.func9, Tryz.ntmps9
  by_cases h8 : m < 8
  · have hi : (m : Int) < 8 := by omega
    have HR : Hid (LenR l = (0, false)) := by
      show _ = _
      unfold LenR
      rw [if_neg (by have := HL.out; omega)]
    go_wp2
    go_ret2
    rw [HR.out]
    exact ⟨rfl, Ext.refl _⟩
  · have hi : ¬ (m : Int) < 8 := by omega
    obtain ⟨A2, _, _, hr3, hs3, _⟩ := cut_run hs (i := 0) (j := 4) (by omega) (by omega) hmc
    simp only [Nat.sub_zero, List.drop_zero] at hr3 hs3
    have q1 : ∀ W, (Instr.sliceAt 22 (.slice A m c) none (some (.int .i64 4)) none).run Tryz.prog W = .ok (.slice A2 4 c) W := fun W => (hr3 W .i64 4 trivial rfl).1
    have q2 : ∀ W, (Instr.slice 22 (.slice A m c) none (some (.int .i64 4)) none).run Tryz.prog W = .ok (.slice A2 4 c) W := fun W => (hr3 W .i64 4 trivial rfl).2
    have hcv := conv_str hs3 c
    have i4 : (4 : Int) ≤ (m : Int) := by omega
    clear hr3 hs3
    by_cases hmg : l.take 4 = magicB
    · have HR : Hid (LenR l = ((numAt l 4 : Int), true)) := by
        show _ = _
        unfold LenR
        rw [if_pos ⟨by have := HL.out; omega, hmg⟩]
      rw [hmg, show str magicB = ⟨#[67, 81, 66, 49]⟩ from rfl] at hcv
      clear hmg
      obtain ⟨b, off, rfl, _, hc⟩ := hs.at_ (show 4 < m by omega)
      have l0 : 4 < l.length := by have := HL.out; omega
      have l1 : 5 < l.length := by have := HL.out; omega
      have l2 : 6 < l.length := by have := HL.out; omega
      have l3 : 7 < l.length := by have := HL.out; omega
      have k0 := hc 4 l0
      have k1 := hc 5 l1
      have k2 := hc 6 l2
      have k3 := hc 7 l3
      obtain ⟨y0, h0⟩ : ∃ y, y = l[4] := ⟨_, rfl⟩
      obtain ⟨y1, h1⟩ : ∃ y, y = l[5] := ⟨_, rfl⟩
      obtain ⟨y2, h2⟩ : ∃ y, y = l[6] := ⟨_, rfl⟩
      obtain ⟨y3, h3⟩ : ∃ y, y = l[7] := ⟨_, rfl⟩
      rw [← h0] at k0
      rw [← h1] at k1
      rw [← h2] at k2
      rw [← h3] at k3
      have HN : Hid (numAt l 4 = y0.toNat * 16777216 + y1.toNat * 65536 + y2.toNat * 256 + y3.toNat) := by
        show _ = _
        unfold numAt
        simp only [List.getD_eq_getElem?_getD, List.getElem?_eq_getElem l0, List.getElem?_eq_getElem l1, List.getElem?_eq_getElem l2, List.getElem?_eq_getElem l3, Option.getD_some, ← h0, ← h1, ← h2, ← h3]
      have z0 := y0.toNat_lt
      have z1 := y1.toNat_lt
      have z2 := y2.toNat_lt
      have z3 := y3.toNat_lt
      have i1 : (5 : Int) < (m : Int) := by omega
      have i2 : (6 : Int) < (m : Int) := by omega
      have i3 : (7 : Int) < (m : Int) := by omega
      have i0 : (4 : Int) < (m : Int) := by omega
      have w3 : wrap64 ((y3.toNat : Int)) = (y3.toNat : Int) := by unfold wrap64; omega
      have w4 : wrap64 ((y0.toNat : Int) * 16777216 + (y1.toNat : Int) * 65536 + (y2.toNat : Int) * 256 + (y3.toNat : Int)) = (y0.toNat : Int) * 16777216 + (y1.toNat : Int) * 65536 + (y2.toNat : Int) * 256 + (y3.toNat : Int) := by unfold wrap64; omega
      have X0 := latersU k0
      have X1 := latersU k1
      have X2 := latersU k2
      have X3 := latersU k3
      clear hc hs h0 h1 h2 h3 l0 l1 l2 l3 k0 k1 k2 k3
      go_wp2
      refine wp_region_ext_lit (by kernel_rfl) (by kernel_rfl) ?_
      try dsimp only [List.append]
      repeat (go_big_quiet_step (fail))
      refine wpQuiet_nil ?_
      rintro w5 ⟨⟨_, h5⟩, rfl⟩
      try dsimp only
      go_wp2
      go_ret2
      have hsum : (y0.toNat : Int) * 16777216 + (y1.toNat : Int) * 65536 + (y2.toNat : Int) * 256 + (y3.toNat : Int) = ((numAt l 4 : Nat) : Int) := by rw [HN.out]; omega
      rw [HR.out, hsum]
      exact ⟨rfl, h5⟩
    · have HR : Hid (LenR l = (0, false)) := by
        show _ = _
        unfold LenR
        rw [if_neg (fun h => hmg h.2)]
      obtain ⟨s, hse⟩ : ∃ s, s = str (l.take 4) := ⟨_, rfl⟩
      have hne : (s.toList == [67, 81, 66, 49]) = false := by
        rw [beq_eq_false_iff_ne]
        intro e
        refine hmg ?_
        rw [hse] at e
        rw [ByteArray.toList_eq, show (str (l.take 4)).data.toList = l.take 4 from bys_str _] at e
        exact e
      rw [← hse] at hcv
      clear hmg hse
      go_wp2
      go_ret2
      rw [HR.out]
      exact ⟨rfl, Ext.refl _⟩
end
end Go.Proofs.YtngpajaghadhdaaGreatDoor
