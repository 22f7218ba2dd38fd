/- Apply and Sizes of the reference. -/
import Derived.Test.YtghndnacmpckbaaGreatDoorPatRq
import Derived.Test.YtghndnacmpckbaaGreatDoorRefText
namespace Go.Proofs.YtghndnacmpckbaaGreatDoor
open Go.RowKit
set_option maxRecDepth 100000
attribute [local go_sem] ext_refl_t ext_alloc_t ext_drew_t ext_drewN_t ext_alloc2_t ext_alloc3_t ext_alloc4_t ext_alloc5_t ext_alloc6_t ext_alloc7_t ext_alloc8_t ext_alloc1d_t ext_alloc2d_t ext_alloc3d_t ext_alloc4d_t
theorem hexT_str (n : Nat) : hexT n = str (lowH n 16) := by
  have h := congrArg str (hexT_bys n)
  rwa [str_bys] at h
theorem strs_beq {a b : List UInt8} (h : a ≠ b) : ((str a).toList == (str b).toList) = false := by
  rw [ByteArray.toList_eq, ByteArray.toList_eq]
  show (bys (str a) == bys (str b)) = false
  rw [bys_str, bys_str]
  exact beq_eq_false_iff_ne.2 h
section
variable {w : World}
set_option maxHeartbeats 12800000 in
theorem rapply_any {A B : Option Addr} {m k : Nat} (c d : Nat) {x p : List UInt8} (hx : SlB w A m x) (hmc : m ≤ c) (hm : m ≤ 1000000) (hp : SlB w B k p) (hkd : k ≤ d) (hk : k ≤ 1000000) :
    Calls Tryz.prog 9 #[.slice A m c, .slice B k d] w fun e w' => (∃ (A' : Option Addr) (m' c' : Nat) (l : List UInt8) (code : Nat), e = .returned (.tuple #[.slice A' m' c', .int .i64 (code : Int)]) ∧ SlB w' A' m' l ∧ ApR x p (l, code)) ∧ Ext w w' := by
  go_enter Tryz.func9, Tryz.ntmps9
  go_wp2_with (first
    | (go_at_call 19; refine Hid.out ?_))
  refine Hid.mk_ ((rread_any d hp hkd hk).mono ?_)
  rintro e w1 ⟨⟨cells, code, rfl, hO⟩, hE1⟩
  rcases hO with ⟨h0, rfl, rfl⟩ | ⟨h0, ⟨hd, rfl, rfl⟩ | ⟨dd, a, b, Ad, md, cd, L, hd, hLm, rfl, hs, hw, hc, rfl⟩⟩
  · obtain ⟨oc, hoc⟩ : ∃ oc, oc = (openR pkey p).2 := ⟨_, rfl⟩
    rw [← hoc] at h0
    have HR : Hid (ApR x p ([], oc)) := .inl ⟨by rw [← hoc]; exact h0, by rw [hoc]⟩
    rw [← hoc]
    have hzb : ((oc : Int) != 0) = true := by rw [bne_iff_ne]; omega
    unfold zeroRC
    clear hoc h0
    go_wp2
    go_ret2
    exact ⟨⟨none, 0, 0, [], oc, rfl, SlB.nil_, HR.out⟩, hE1.alloc _⟩
  · have HR : Hid (ApR x p ([], 4)) := .inr ⟨h0, none, hd, rfl⟩
    unfold zeroRC
    clear hd h0
    go_wp2
    go_ret2
    exact ⟨⟨none, 0, 0, [], 4, rfl, SlB.nil_, HR.out⟩, hE1.alloc _⟩
  · obtain ⟨old, os, new, ns, ops⟩ := dd
    have HD := Lib.hid hd
    have H0 := Lib.hid h0
    have HXL := Lib.hid hx.len
    have HLM := Lib.hid hLm
    have HA16 : Hid (str os = hexT a) := by show _ = _; rw [hexT_str]; exact congrArg str hd.2.os
    have HB16 : Hid (str ns = hexT b) := by show _ = _; rw [hexT_str]; exact congrArg str hd.2.ns
    clear hd h0 hLm
    dsimp only at *
    rw [HA16.out, HB16.out]
    obtain ⟨W6, hW6⟩ : ∃ W6, W6 = w1.alloc (Obj.cells #[.int .i64 old, .int .i64 new, .string (hexT a), .string (hexT b), .slice Ad md cd] 25) := ⟨_, rfl⟩
    have hb6 : Blk W6 w1.heap.size 25 #[.int .i64 old, .int .i64 new, .string (hexT a), .string (hexT b), .slice Ad md cd] := by rw [hW6]; exact Blk.new w1 _ _
    have hE6 : Ext w1 W6 := by rw [hW6]; exact (Ext.refl w1).alloc _
    obtain ⟨g6, hg6⟩ : ∃ g6, g6 = w1.heap.size := ⟨_, rfl⟩
    go_upto_region 4 with fail
    rw [← hW6, ← hg6]
    rw [← hg6] at hb6
    clear hW6 hg6
    have hE06 := hE1.trans hE6
    obtain ⟨ra, hra⟩ : ∃ ra, ra = hexT a := ⟨_, rfl⟩
    obtain ⟨rb, hrb⟩ : ∃ rb, rb = hexT b := ⟨_, rfl⟩
    rw [← hra, ← hrb] at hb6 ⊢
    have X0 := latersU (show W6.cell? ⟨g6, 0, none⟩ = some (.int .i64 old) from hb6.cell 0)
    have X2 := latersU (show W6.cell? ⟨g6, 2, none⟩ = some (.string ra) from hb6.cell 2)
    by_cases hl : (m : Int) = old
    case neg =>
      have hbn : (old != (m : Int)) = true := by rw [bne_iff_ne]; exact fun h => hl h.symm
      have HR : Hid (ApR x p ([], 17)) := .inr ⟨H0.out, _, HD.out, .inl ⟨fun h => hl (by rw [HXL.out]; exact h.1), rfl⟩⟩
      clear hl hra hrb
      refine wp_region_ext_lit (by kernel_rfl) (by kernel_rfl) ?_
      try dsimp only [List.append]
      repeat (go_big_quiet_step (fail))
      refine wpQuiet_nil ?_
      rintro w5 ⟨⟨_, h5⟩, rfl⟩
      try dsimp only
      clear X0 X2
      go_wp2
      go_ret2
      exact ⟨⟨none, 0, 0, [], 17, rfl, SlB.nil_, HR.out⟩, hE06.trans h5⟩
    case pos =>
    have hbn : (old != (m : Int)) = false := by rw [hl]; simp
    have HLO := Lib.hid hl
    obtain ⟨sx, hsx⟩ : ∃ sx, sx = sumN x := ⟨_, rfl⟩
    have HSXL : Hid (sx < 18446744073709551616) := by show _ < _; rw [hsx]; exact sumN_lt x
    have HV : Hid (∀ u : ExtOf W6, Calls Tryz.prog 21 #[.slice A m c] u.1 fun e w' => e = .returned (.int .u64 (sx : Int)) ∧ Ext u.1 w') := fun u => by
      rw [hsx]
      exact refSum_any c ((hx.ext hE06).ext u.ext)
    obtain ⟨rx, hrx⟩ : ∃ rx, rx = hexT sx := ⟨_, rfl⟩
    have HVT : Hid (∀ u : ExtOf W6, Calls Tryz.prog 20 #[.int .u64 (sx : Int)] u.1 fun e w' => e = .returned (.string rx) ∧ Ext u.1 w') := fun u => by
      rw [hrx]
      exact ref3Text_any sx HSXL.out
    by_cases hq : sx = a
    case neg =>
      have hne : lowH a 16 ≠ lowH sx 16 := fun h => hq (lowH_inj 16 sx a (by simpa using HSXL.out) (by simpa using HD.out.2.lt.1) h.symm)
      have hbq : (ra.toList == rx.toList) = false := by rw [hra, hrx, hexT_str, hexT_str]; exact strs_beq hne
      have hbq2 : (ra.toList != rx.toList) = true := by rw [bne, hbq]; rfl
      have hbq3 : ra ≠ rx := fun h => by rw [h] at hbq; simp at hbq
      have HR : Hid (ApR x p ([], 17)) := .inr ⟨H0.out, _, HD.out, .inl ⟨fun h => hq (by rw [hsx]; exact h.2), rfl⟩⟩
      clear hq hsx hl hra hrb hrx hne
      refine wp_region_ext_lit (by kernel_rfl) (by kernel_rfl) ?_
      try dsimp only [List.append]
      repeat (go_big_quiet_step (first | (go_at_call 21; exact Calls.quiet_ext (HV.out _)) | (go_at_call 20; exact Calls.quiet_ext (HVT.out _))))
      refine wpQuiet_nil ?_
      rintro w5 ⟨⟨_, h5⟩, rfl⟩
      try dsimp only
      clear X0 X2
      go_wp2
      go_ret2
      exact ⟨⟨none, 0, 0, [], 17, rfl, SlB.nil_, HR.out⟩, hE06.trans h5⟩
    case pos =>
    have HQ : Hid (((x.length : Int) = old) ∧ sumN x = a) := ⟨by rw [← HXL.out]; exact hl, by rw [← hsx]; exact hq⟩
    have hrr : ra = rx := by rw [hra, hrx, hq]
    subst hrr
    clear hsx hl hra hrx hq
    refine wp_region_ext_lit (by kernel_rfl) (by kernel_rfl) ?_
    try dsimp only [List.append]
    repeat (go_big_quiet_step (first | (go_at_call 21; exact Calls.quiet_ext (HV.out _)) | (go_at_call 20; exact Calls.quiet_ext (HVT.out _))))
    refine wpQuiet_nil ?_
    rintro w5 ⟨⟨_, h5⟩, rfl⟩
    try dsimp only
    have hE65 : Ext W6 w5 := h5
    have hE05 := hE06.trans hE65
    have hb5 := hb6.below hE65 hb6.lt
    have hs5 := (hs.ext hE6).ext hE65
    have e4 : w5.cell? ⟨g6, 4, none⟩ = some (.slice Ad md cd) := hb5.cell 4
    have HB5 := Lib.hid hb5
    have HRB := Lib.hid hrb
    clear X0 X2 HV HVT hbn hb6 h5 hE1 hb5 hrb
    have hok : ∀ y ∈ L.map ROp.p, OpOk x.length y := by
      rw [HLM.out, HQ.out.1]
      exact HD.out.2.each
    have hsum : sumO (L.map ROp.p) ≤ 1000000 := by
      rw [HLM.out]
      have h1 := HD.out.2.sum
      have h2 := HD.out.2.new.2
      dsimp only at h1 h2
      omega
    go_wp2_with (first
      | (go_at_call 22; refine Hid.out ?_))
    refine Hid.mk_ ((rrun_any c cd (hx.ext hE05) hmc hm hs5 (fun y hy => ((hw y hy).ext hE6).ext hE65) hok hsum).mono ?_)
    rintro e w7 ⟨⟨Ao, mo, co, rfl, ho7⟩, hE7⟩
    rw [HLM.out] at ho7
    have hE07 := hE05.trans hE7
    obtain ⟨out, hout⟩ : ∃ out, out = ops.flatMap (runO x) := ⟨_, rfl⟩
    rw [← hout] at ho7
    have HOUT := Lib.hid hout
    obtain ⟨so, hso⟩ : ∃ so, so = sumN out := ⟨_, rfl⟩
    have HSOL : Hid (so < 18446744073709551616) := by show _ < _; rw [hso]; exact sumN_lt out
    obtain ⟨ro, hro⟩ : ∃ ro, ro = hexT so := ⟨_, rfl⟩
    have HO := Lib.hid ho7
    have HV : Hid (∀ u : ExtOf w7, Calls Tryz.prog 21 #[.slice Ao mo co] u.1 fun e w' => e = .returned (.int .u64 (so : Int)) ∧ Ext u.1 w') := fun u => by
      rw [hso]
      exact refSum_any co (HO.out.sl.ext u.ext)
    have HVT : Hid (∀ u : ExtOf w7, Calls Tryz.prog 20 #[.int .u64 (so : Int)] u.1 fun e w' => e = .returned (.string ro) ∧ Ext u.1 w') := fun u => by
      rw [hro]
      exact ref3Text_any so HSOL.out
    have hb9 := HB5.out.below hE7 HB5.out.lt
    have X3 := latersU (show w7.cell? ⟨g6, 3, none⟩ = some (.string rb) from hb9.cell 3)
    clear hb9 hout ho7 e4 hok hsum
    by_cases hb : so = b
    · have HR : Hid (ApR x p (out, 0)) := .inr ⟨H0.out, _, HD.out, .inr ⟨HQ.out, .inr ⟨by show sumN (ops.flatMap (runO x)) = b; rw [← HOUT.out, ← hso]; exact hb, by rw [HOUT.out]⟩⟩⟩
      have hrr : rb = ro := by rw [HRB.out, hro, hb]
      subst hrr
      clear hso hb hro
      go_upto_region 7 with fail
      refine wp_region_ext_lit (by kernel_rfl) (by kernel_rfl) ?_
      try dsimp only [List.append]
      repeat (go_big_quiet_step (first | (go_at_call 21; exact Calls.quiet_ext (HV.out _)) | (go_at_call 20; exact Calls.quiet_ext (HVT.out _))))
      refine wpQuiet_nil ?_
      rintro w9 ⟨⟨_, h9⟩, rfl⟩
      try dsimp only
      clear X3
      go_wp2
      go_ret2
      exact ⟨⟨Ao, mo, co, out, 0, rfl, HO.out.sl.ext h9, HR.out⟩, hE07.trans h9⟩
    · have HR : Hid (ApR x p ([], 5)) := .inr ⟨H0.out, _, HD.out, .inr ⟨HQ.out, .inl ⟨fun h => hb (by rw [hso, HOUT.out]; exact h), rfl⟩⟩⟩
      have hne : lowH so 16 ≠ lowH b 16 := fun h => hb (lowH_inj 16 so b (by simpa using HSOL.out) (by simpa using HD.out.2.lt.2) h)
      have hbq : (ro.toList == rb.toList) = false := by rw [hro, HRB.out, hexT_str, hexT_str]; exact strs_beq hne
      have hbq2 : (ro.toList != rb.toList) = true := by rw [bne, hbq]; rfl
      have hbq3 : ro ≠ rb := fun h => by rw [h] at hbq; simp at hbq
      clear hso hb hro hne
      go_upto_region 7 with fail
      refine wp_region_ext_lit (by kernel_rfl) (by kernel_rfl) ?_
      try dsimp only [List.append]
      repeat (go_big_quiet_step (first | (go_at_call 21; exact Calls.quiet_ext (HV.out _)) | (go_at_call 20; exact Calls.quiet_ext (HVT.out _))))
      refine wpQuiet_nil ?_
      rintro w9 ⟨⟨_, h9⟩, rfl⟩
      try dsimp only
      clear X3
      go_wp2
      go_ret2
      exact ⟨⟨none, 0, 0, [], 5, rfl, SlB.nil_, HR.out⟩, hE07.trans h9⟩
end
end Go.Proofs.YtghndnacmpckbaaGreatDoor
