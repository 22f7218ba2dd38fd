/- The reference's Frame. -/
import Derived.Test.YtoghaehcmbonnaaGreatDoorJrnR
import Derived.Test.YtoghaehcmbonnaaGreatDoorJrnF
import Derived.Test.YtoghaehcmbonnaaGreatDoorJrnH
import Derived.Test.YtoghaehcmbonnaaGreatDoorJrnM
import Derived.Test.YtoghaehcmbonnaaGreatDoorJrnB
import Derived.Test.YtoghaehcmbonnaaGreatDoorDig2
namespace Go.Proofs.YtoghaehcmbonnaaGreatDoor
open Go.RowKit
set_option maxRecDepth 100000
attribute [local go_sem] ext_refl_t ext_alloc_t ext_drew_t ext_drewN_t ext_alloc2_t ext_alloc3_t ext_alloc4_t ext_alloc5_t ext_alloc6_t ext_alloc7_t ext_alloc8_t ext_alloc1d_t ext_alloc2d_t ext_alloc3d_t ext_alloc4d_t
section
variable {w : World}
set_option maxHeartbeats 3200000 in
theorem rframe_any (x : Ev) (hg : GoodE x) (hs : sumE x ≤ 2000) (k : Nat) (hk : k < 18446744073709551616) :
    Calls Tryz.prog 31 #[evV x, .int .u64 k] w fun e w' => ∃ A m c, e = .returned (.slice A m c) ∧ SlB w' A m (frameH (encE x).length ++ sealL k (encE x)) ∧ Ext w w' := by
  have hel := encE_len x
  unfold sumE at hs
  obtain ⟨le, hle2⟩ : ∃ le, le = encE x := ⟨_, rfl⟩
  have HENC : Hid (∀ W : World, Calls Tryz.prog 30 #[evV x] W fun e w' => ∃ A m c, e = .returned (.slice A m c) ∧ OsB w' W.heap.size A m c le ∧ Ext W w') := fun W => by rw [hle2]; exact rjenc_any x hg (by omega)
  have hle : le.length ≤ 2072 := by rw [hle2]; omega
  rw [← hle2]
  clear hle2 hg hs hel
  obtain ⟨kd, who, nam, id, txt, xa, xb, xt⟩ := x
  unfold evV at HENC
  unfold evV
  have hE1 : Ext w (w.alloc (Obj.cells #[.int .i64 kd, .string who, .string nam, .string id, .string txt, .int .i64 xa, .int .i64 xb, .int .i64 xt] 46)) := (Ext.refl w).alloc _
  go_enter Tryz.func31, Tryz.ntmps31
  go_wp2_with (first
    | (go_at_call 30; refine Hid.out ?_))
  refine Hid.mk_ ((HENC.out _).mono ?_)
  rintro e w2 ⟨A2, m2, c2, rfl, ho2, hE2⟩
  have hm2 : m2 ≤ 2072 := by rw [ho2.len]; exact hle
  obtain ⟨s, hsd⟩ : ∃ s, s = str (eight8 m2) := ⟨_, rfl⟩
  have hs8 : s.size = 8 := by rw [hsd, str_size, eight8_length]
  have q1b : s.size + 1 ≤ 9223372036854775807 := by rw [hs8]; omega
  have q1c : ¬ 9223372036854775807 < s.size + 1 := by rw [hs8]; omega
  have q2b : s.size + 1 + s.size ≤ 9223372036854775807 := by rw [hs8]; omega
  have q2c : ¬ 9223372036854775807 < s.size + 1 + s.size := by rw [hs8]; omega
  have q3b : s.size + 1 + s.size + 1 ≤ 9223372036854775807 := by rw [hs8]; omega
  have q3c : ¬ 9223372036854775807 < s.size + 1 + s.size + 1 := by rw [hs8]; omega
  have q1 : s.size + ((⟨#[61]⟩ : ByteArray)).size ≤ 9223372036854775807 := by rw [hs8]; show 8 + 1 ≤ _; omega
  have q1d : ¬ 9223372036854775807 < s.size + ((⟨#[61]⟩ : ByteArray)).size := by rw [hs8]; show ¬ _ < 8 + 1; omega
  have q2 : (s ++ (⟨#[61]⟩ : ByteArray)).size + s.size ≤ 9223372036854775807 := by rw [ByteArray.size_append, hs8]; show 8 + 1 + 8 ≤ _; omega
  have q2d : ¬ 9223372036854775807 < (s ++ (⟨#[61]⟩ : ByteArray)).size + s.size := by rw [ByteArray.size_append, hs8]; show ¬ _ < 8 + 1 + 8; omega
  have q3 : (s ++ (⟨#[61]⟩ : ByteArray) ++ s).size + ((⟨#[10]⟩ : ByteArray)).size ≤ 9223372036854775807 := by rw [ByteArray.size_append, ByteArray.size_append, hs8]; show 8 + 1 + 8 + 1 ≤ _; omega
  have q3d : ¬ 9223372036854775807 < (s ++ (⟨#[61]⟩ : ByteArray) ++ s).size + ((⟨#[10]⟩ : ByteArray)).size := by rw [ByteArray.size_append, ByteArray.size_append, hs8]; show ¬ _ < 8 + 1 + 8 + 1; omega
  have hTs : bys (s ++ (⟨#[61]⟩ : ByteArray) ++ s ++ (⟨#[10]⟩ : ByteArray)) = frameH m2 := by
    rw [bys_appJ, bys_appJ, bys_appJ, hsd, bys_str]
    unfold frameH
    simp [bys]
  have hTz : (s ++ (⟨#[61]⟩ : ByteArray) ++ s ++ (⟨#[10]⟩ : ByteArray)).size = 18 := by rw [ByteArray.size_append, ByteArray.size_append, ByteArray.size_append, hs8]; rfl
  have HSD := Lib.hid hsd
  have HTS := Lib.hid hTs
  have HTZ := Lib.hid hTz
  clear hsd hs8 hTs hTz
  go_wp2_with (first
    | (go_at_call 48; refine Hid.out ?_))
  refine Hid.mk_ ((reight_any m2 (by omega)).mono ?_)
  rintro e w3 ⟨rfl, hE3⟩
  rw [← HSD.out]
  go_wp2_with (first
    | (go_at_call 48; refine Hid.out ?_))
  refine Hid.mk_ ((reight_any m2 (by omega)).mono ?_)
  rintro e w4 ⟨rfl, hE4⟩
  rw [← HSD.out]
  obtain ⟨C, w5, hcv, hE5, hcb, hlC⟩ := conv3 (s ++ (⟨#[61]⟩ : ByteArray) ++ s ++ (⟨#[10]⟩ : ByteArray)) w4
  rw [HTZ.out] at hcv
  rw [HTS.out] at hcb
  have hE25 := (hE3.trans hE4).trans hE5
  have HM2 := Lib.hid ho2.len
  clear hlC
  go_wp2_with (first
    | (go_at_call 49; refine Hid.out ?_))
  refine Hid.mk_ ((refSealS_any k c2 hk (ho2.sl.ext hE25) (by omega)).mono ?_)
  rintro e w6 ⟨A6, m6, c6, rfl, ho6, hE6⟩
  have hm6 : m6 = le.length + 8 := by
    have h1 := ho6.len
    unfold sealL at h1
    rw [List.length_append, eightL_len] at h1
    exact h1
  have hcb6 := hcb.ext hE6
  have hE06 := ((hE1.trans hE2).trans hE25).trans hE6
  have hb4 : w.heap.size ≤ w4.heap.size := (((hE1.trans hE2).trans hE3).trans hE4).size_le
  have HM6 := Lib.hid hm6
  clear hcv hcb hm6
  go_wp2_with (first
    | (at_builtin; refine Hid.out ?_))
  refine Hid.mk_ ?_
  refine appConv rfl _ _ rfl hcb6 (by rw [frameH_length]) rfl ho6.sl rfl (by have := HM6.out; omega) (by rw [frameH_length]; have := HM6.out; omega) ?_
  intro A7 m7 c7 w7 hs7 hg7
  have HS := Lib.hid hs7
  have hE7 : Ext w w7 := hE06.grown hg7 (fun j hj => by injection hj with hj; rw [← hj]; exact hb4)
  clear hs7 hg7 hcb6 ho6 ho2
  go_wp2
  go_ret
  exact ⟨A7, m7, c7, rfl, by rw [← HM2.out]; exact HS.out, hE7⟩
end
end Go.Proofs.YtoghaehcmbonnaaGreatDoor
