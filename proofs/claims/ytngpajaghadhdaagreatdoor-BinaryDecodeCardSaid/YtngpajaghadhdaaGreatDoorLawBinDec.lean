/- Decode returns the catalog with any bytes as its encoding, or ErrForm, and Length the second number. No condition. -/
import Derived.Test.YtngpajaghadhdaaGreatDoorBinAw
import Derived.Test.YtngpajaghadhdaaGreatDoorBinQl
import Derived.Test.YtngpajaghadhdaaGreatDoorBinDk
import Derived.Test.YtngpajaghadhdaaGreatDoorREq
import Derived.Test.YtngpajaghadhdaaGreatDoorCatCard
import Derived.Test.YtngpajaghadhdaaGreatDoorReadB
import Derived.ProofKit
import Derived.OpenShut
import Derived.ShutString
import Derived.ChangeOld
import Derived.SizedLaws
namespace Go.Proofs.YtngpajaghadhdaaGreatDoor
open Go.ChangeShapes Go.WideShapes Go.ChangeAt Go.RowKit
set_option maxRecDepth 100000
attribute [local go_sem] ext_refl_t ext_alloc_t ext_drew_t ext_drewN_t ext_alloc2_t ext_alloc3_t ext_alloc4_t ext_alloc5_t ext_alloc6_t ext_alloc7_t ext_alloc8_t ext_alloc1d_t ext_alloc2d_t ext_alloc3d_t ext_alloc4d_t
def laidL2 : List (String × DataW Unit) := Rows.binaryDecodeRow.laid
theorem tabs2 {W : World} (h : laidMetH Tryz.prog laidL2 W) : Tabs W := tabs_of_laid h
section
variable {w : World}
set_option maxHeartbeats 12800000 in
theorem bdeclaw_walk (hT : Tabs w) {A : Option Addr} {m : Nat} (c : Nat) {l : List UInt8} (hs : SlB w A m l) (hmc : m ≤ c) :
    Calls Tryz.prog 3 #[.slice A m c] w fun e w' => e = .returned (.bool true) ∧ Ext w w' := by
  have HIDV : Hid (∀ y : Cat, catV y = .agg #[.string y.tag, .slice y.c.A y.c.m y.c.c, .slice y.d.A y.d.m y.d.c, .slice y.e.A y.e.m y.e.c]) := fun _ => rfl
  go_enter Tryz.func3, Tryz.ntmps3
  go_wp2_with (first
    | (go_at_call 5; refine Hid.out ?_))
  refine Hid.mk_ ((awake_bin hT).mono ?_)
  rintro e w1 ⟨rfl, hE1⟩
  by_cases hm3 : 3000 < m
  · have hi : (3000 : Int) < (m : Int) := by omega
    go_wp2
    go_ret
    exact ⟨rfl, hE1⟩
  have hi : ¬ (3000 : Int) < (m : Int) := by omega
  go_wp2_with (first
    | (go_at_call 6; refine Hid.out ?_))
  refine Hid.mk_ ((bdecode_any c (hs.ext hE1) hmc (by omega) (hT.ext hE1)).mono ?_)
  rintro e w2 ⟨⟨y, code, rfl, hD, hyW, _⟩, hE2⟩
  rw [HIDV.out y]
  have HD := Lib.hid hD
  clear hD
  have hE02 := hE1.trans hE2
  obtain ⟨w3, hw3⟩ : ∃ W : World, W = w2.alloc (Obj.cells #[.string y.tag, .slice y.c.A y.c.m y.c.c, .slice y.d.A y.d.m y.d.c, .slice y.e.A y.e.m y.e.c] 28) := ⟨_, rfl⟩
  have hb3 : Blk w3 w2.heap.size 28 #[.string y.tag, .slice y.c.A y.c.m y.c.c, .slice y.d.A y.d.m y.d.c, .slice y.e.A y.e.m y.e.c] := by rw [hw3]; exact Blk.new w2 _ _
  have hEw3 : Ext w2 w3 := by rw [hw3]; exact (Ext.refl _).alloc _
  obtain ⟨g3, hg3⟩ : ∃ k, k = w2.heap.size := ⟨_, rfl⟩
  rw [← hg3] at hb3
  have hE03 := hE02.trans hEw3
  go_wp2_with (first
    | (go_at_call 7; refine Hid.out ?_))
  rw [← hw3, ← hg3]
  clear hw3 hg3
  refine Hid.mk_ ((rdecode_any c (hs.ext hE03) hmc (by omega)).mono ?_)
  rintro e w4 ⟨⟨z, code2, rfl, hD2, hzW, _⟩, hE4⟩
  rw [HIDV.out z]
  obtain ⟨hyz, hcc⟩ := HD.out.uniq hD2
  subst hcc
  have HYZ := Lib.hid hyz
  clear hyz hD2
  have hE04 := hE03.trans hE4
  have hb3' := hb3.below hE4 hb3.lt
  obtain ⟨w5, hw5⟩ : ∃ W : World, W = w4.alloc (Obj.cells #[.string z.tag, .slice z.c.A z.c.m z.c.c, .slice z.d.A z.d.m z.d.c, .slice z.e.A z.e.m z.e.c] 28) := ⟨_, rfl⟩
  have hb5 : Blk w5 w4.heap.size 28 #[.string z.tag, .slice z.c.A z.c.m z.c.c, .slice z.d.A z.d.m z.d.c, .slice z.e.A z.e.m z.e.c] := by rw [hw5]; exact Blk.new w4 _ _
  have hEw5 : Ext w4 w5 := by rw [hw5]; exact (Ext.refl _).alloc _
  obtain ⟨g5, hg5⟩ : ∃ k, k = w4.heap.size := ⟨_, rfl⟩
  rw [← hg5] at hb5
  have hE05 := hE04.trans hEw5
  have hb3'' := hb3'.below hEw5 hb3'.lt
  obtain ⟨zz, ok, hLR⟩ : ∃ zz ok, LenR l = (zz, ok) := ⟨_, _, rfl⟩
  have hl1 := blength_any c (hs.ext hE05) hmc
  rw [hLR] at hl1
  go_wp2_with (first
    | (go_at_call 8; refine Hid.out ?_))
  rw [← hw5, ← hg5]
  clear hw5 hg5
  refine Hid.mk_ (hl1.mono ?_)
  clear hl1
  rintro e w6 ⟨rfl, hE6⟩
  have hE06 := hE05.trans hE6
  have hl2 := rlength_any c (hs.ext hE06) hmc
  rw [hLR] at hl2
  dsimp only
  go_wp2_with (first
    | (go_at_call 9; refine Hid.out ?_))
  refine Hid.mk_ ((hl2).mono ?_)
  rintro e w7 ⟨rfl, hE7⟩
  dsimp only
  clear hl2 hLR
  have hE57 := hE6.trans hE7
  have hE07 := hE06.trans hE7
  have hby := hb3''.below hE57 hb3''.lt
  have hbz := hb5.below hE57 hb5.lt
  have a0 : w7.cell? ⟨g3, 0, none⟩ = some (.string y.tag) := hby.cell 0
  have a1 : w7.cell? ⟨g3, 1, none⟩ = some (.slice y.c.A y.c.m y.c.c) := hby.cell 1
  have a2 : w7.cell? ⟨g3, 2, none⟩ = some (.slice y.d.A y.d.m y.d.c) := hby.cell 2
  have a3 : w7.cell? ⟨g3, 3, none⟩ = some (.slice y.e.A y.e.m y.e.c) := hby.cell 3
  have b0 : w7.cell? ⟨g5, 0, none⟩ = some (.string z.tag) := hbz.cell 0
  have b1 : w7.cell? ⟨g5, 1, none⟩ = some (.slice z.c.A z.c.m z.c.c) := hbz.cell 1
  have b2 : w7.cell? ⟨g5, 2, none⟩ = some (.slice z.d.A z.d.m z.d.c) := hbz.cell 2
  have b3 : w7.cell? ⟨g5, 3, none⟩ = some (.slice z.e.A z.e.m z.e.c) := hbz.cell 3
  have hq := reqC_any (hyW.ext (((hEw3.trans hE4).trans hEw5).trans hE57)) (hzW.ext (hEw5.trans hE57))
  rw [show eqC y.p z.p = true by rw [HYZ.out]; exact eqC_iff.2 rfl, HIDV.out y, HIDV.out z] at hq
  have hzz : (zz == zz) = true := by simp
  have hok : (ok == ok) = true := by simp
  have hcd : (code == code) = true := by simp
  clear hby hbz hb3 hb3' hb3'' hb5
  go_wp2_with (first
    | (go_at_call 10; refine Hid.out ?_))
  refine Hid.mk_ ((hq).mono ?_)
  rintro e w8 ⟨rfl, hE8⟩
  clear hq a0 a1 a2 a3 b0 b1 b2 b3
  go_wp2
  go_ret
  exact ⟨rfl, hE07.trans hE8⟩
end

set_option maxRecDepth 100000 in
theorem liftedBinaryDecode (os : Os) (started : os.Started) (H : Type) (enc : TypeId × Value → H) :
    ReturnsInHanded {} Tryz.checked os 3 .any (fun w args => (Rows.binaryDecodeSpec.pre enc Tryz.prog Tryz.f3 [] false w args ∧ laidMetH Tryz.prog laidL2 w) ∧ sizedMet enc Tryz.prog Tryz.f3 (OpenSpec.ofChange Rows.binaryDecodeSpec) false w args) (Rows.binaryDecodeSpec.post enc Tryz.prog Tryz.f3 false true false false) := by
  refine returnsInHanded_of_change_and (C := Tryz.checked) (X := fun w _ => laidMetH Tryz.prog laidL2 w) (fun _ _ _ hh h => h.of_heap hh) ownK started (by kernel_rfl) Tryz.func3
    (ChangeSpec.witness_shaped (enc := enc) (C := Tryz.checked) (os := os) (X := fun w _ => laidMetH Tryz.prog laidL2 w) false (World.laidAll Tryz.prog os laidL2) #[.slice none 0 0] 8 (World.laidAll_os _ _ _)
      (World.shaped_of_ZipB (by kernel_rfl) (by kernel_rfl)) (by kernel_rfl) (by kernel_rfl) (by kernel_rfl)
      (by rw [MakeChecks.laidMetH_plain _ _ _ (by kernel_rfl)]; exact laidMet_laidAll _ (by kernel_rfl) (by kernel_rfl))) ?_
  intro W base args ds gs before hval0 hW hcnd hsz0 hL _
  have hT := tabs2 hL
  have hval : ∀ (j : Nat) t v, Tryz.f3.params[j]? = some t → args[j]? = some v → Value.okWide Tryz.prog W .any base t v := hval0
  have hW' := hW
  obtain ⟨p, q, hA0, hV, rfl, hfz, hnd⟩ := hW
  have hA : DataW.TrodAll enc Tryz.prog W 0 (fun _ => true) true Tryz.f3.params.toList args.toList ds p := hA0
  have hsz : (DataW.weightsEach Tryz.prog (Tryz.f3.params.toList ++ Rows.binaryDecodeSpec.plain.varTypes Tryz.prog) (ds ++ gs)).all (· ≤ reachBytes) = true := hsz0
  rw [Tryz.params3] at hA hval hsz
  obtain ⟨v0, vs0, d0, ds0, p0, q0, hargs0, rfl, rfl, h0, r0⟩ := trodAll_cons hA
  obtain ⟨rfl, rfl, rfl⟩ := trodAll_nil r0
  obtain rfl : args = #[v0] := by cases args; simp_all
  obtain ⟨rfl, rfl⟩ := trodVars_none hV
  have k0 := h0
  have lt0 : ∀ x ∈ p0, x.block < W.heap.size := by obtain ⟨m, hm⟩ := k0; exact DataW.trod_lt m _ _ _ hm
  obtain ⟨A0, m0, c0, l0, rfl, w0, hc0, hb0⟩ := opn_top_bytes (hval 0 22 v0 rfl rfl) h0 (WOk.top hsz (j := 0) rfl rfl)
  clear hA0 hval0
  refine (bdeclaw_walk hT c0 w0 hc0).mono fun e W' ⟨he, bel⟩ => ?_
  subst he
  exact ⟨_, rfl, _, _, _, [], _, [], hW', trodAll_mk1 (shut_bool Tryz.underlying4 _), (trodAll_cons_mk (Below.trod laidK (by kernel_rfl) (of_decide_eq_true (by kernel_rfl)) k0 bel lt0) trodAll_mk0), rfl, Below.frame bel _, fun h => by cases h⟩
theorem BinaryDecode_row : Rows.BinaryDecodeSaid :=
  OpenClaim.holds_of_wide 3 Tryz.f3 rfl rfl rfl rfl rfl rfl rfl ⟨rfl, rfl, rfl, rfl, rfl⟩ rfl rfl rfl rfl rfl (by kernel_rfl) Tryz.func3 (by kernel_rfl)
    (of_decide_eq_true (by kernel_rfl)) (by unfold Func.isWrapper; rw [if_neg (of_decide_eq_false (by kernel_rfl))]; exact ⟨rfl, rfl⟩)
    (fun os started H enc _ => liftedBinaryDecode os started H enc)
theorem BinaryDecode_holds : Rows.BinaryDecodeCardSaid :=
  Claim7.holds_tied_plain_at .later [] Rows.binaryDecodeCard.laidKinds true Rows.binaryDecodeCard.stood.harness Rows.binaryDecodeCard.stood.looks
    BinaryDecode_row (fun _ h => by cases h) (by kernel_rfl) (fun _ h => by cases h) binaryDecode_row_tie rfl ⟨rfl, rfl⟩ (by kernel_rfl) rfl
    (fun f fn hf hfn => by
      obtain rfl : f = 3 := Option.some.inj ((show Tryz.prog.funcNamed Rows.binaryDecodeRow.func = some 3 by kernel_rfl).symm.trans hf) |>.symm
      obtain rfl : fn = Tryz.f3 := (Option.some.inj (Tryz.func3.symm.trans hfn)).symm
      exact ⟨by kernel_rfl, fun j t ht => by
        rw [Tryz.params3] at ht
        have hm : t ∈ [22] := by simpa using Array.mem_of_getElem? ht
        have hall : ([22].all fun u => !Tryz.prog.wantsStandIn u) = true := by kernel_rfl
        exact (show Tryz.prog.wantsStandIn t = false by simpa using List.all_eq_true.1 hall t hm)⟩)
    (by kernel_rfl)
#print axioms BinaryDecode_holds

end Go.Proofs.YtngpajaghadhdaaGreatDoor
