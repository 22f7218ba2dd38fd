/- Decode returns every valid catalog from its encoding; bytes that are decoded are the encoding of the result. No condition. -/
import Derived.Test.YtngpajaghadhdaaDoorBinAw
import Derived.Test.YtngpajaghadhdaaDoorBinDk
import Derived.Test.YtngpajaghadhdaaDoorRVal
import Derived.Test.YtngpajaghadhdaaDoorREq
import Derived.Test.YtngpajaghadhdaaDoorCatCard
import Derived.Test.YtngpajaghadhdaaDoorReadB
import Derived.ProofKit
import Derived.OpenShut
import Derived.ShutString
import Derived.ChangeOld
import Derived.SizedLaws
namespace Go.Proofs.YtngpajaghadhdaaDoor
open Go.ChangeShapes Go.WideShapes Go.ChangeAt Go.RowKit
set_option maxRecDepth 100000
attribute [local go_sem] ext_refl_t ext_alloc_t ext_drew_t ext_drewN_t ext_alloc2_t ext_alloc3_t ext_alloc4_t ext_alloc5_t ext_alloc6_t ext_alloc7_t ext_alloc8_t ext_alloc1d_t ext_alloc2d_t ext_alloc3d_t ext_alloc4d_t
def laidL2 : List (String × DataW Unit) := Rows.binaryInverseRow.laid
theorem tabs2 {W : World} (h : laidMetH Tryd.prog laidL2 W) : Tabs W := tabs_of_laid h
theorem dec_own {c y : Cp} {code : Int} (hv : validC c = true) (h : DecR (encC c) y code) : code = 0 ∧ y = c := by
  rcases h with ⟨rfl, hv', he⟩ | ⟨rfl, _, hn⟩
  · exact ⟨rfl, encC_inj (validC_short hv') (validC_short hv) he⟩
  · exact absurd rfl (hn c hv)
theorem eqC_refl (c : Cp) : eqC c c = true := eqC_iff.2 rfl
section
variable {w : World}
set_option maxHeartbeats 12800000 in
theorem binv_walk {x : Cat} (hx : CatW w x) (hT : Tabs w) {A : Option Addr} {m : Nat} (c : Nat) {l : List UInt8} (hs : SlB w A m l) (hmc : m ≤ c) :
    Calls Tryd.prog 5 #[catV x, .slice A m c] w fun e w' => e = .returned (.bool true) ∧ Ext w w' := by
  have HIDV : Hid (∀ y : Cat, catV y = .agg #[.string y.tag, .slice y.c.A y.c.m y.c.c, .slice y.d.A y.d.m y.d.c, .slice y.e.A y.e.m y.e.c]) := fun _ => rfl
  rw [HIDV.out x]
  have HLL := Lib.hid hs.len
  have hmle := hs.le
  obtain ⟨W0, hW0⟩ : ∃ W0, W0 = w.alloc (Obj.cells #[.string x.tag, .slice x.c.A x.c.m x.c.c, .slice x.d.A x.d.m x.d.c, .slice x.e.A x.e.m x.e.c] 26) := ⟨_, rfl⟩
  have hb0 : Blk W0 w.heap.size 26 #[.string x.tag, .slice x.c.A x.c.m x.c.c, .slice x.d.A x.d.m x.d.c, .slice x.e.A x.e.m x.e.c] := by rw [hW0]; exact Blk.new w _ _
  have hE0 : Ext w W0 := by rw [hW0]; exact (Ext.refl w).alloc _
  have hawk := awake_bin (hT.ext hE0)
  obtain ⟨g, hg⟩ : ∃ g, g = w.heap.size := ⟨_, rfl⟩
  go_enter Tryd.func5, Tryd.ntmps5
  go_wp2_with (first
    | (go_at_call 8; refine Hid.out ?_))
  rw [← hW0, ← hg]
  rw [← hg] at hb0
  refine Hid.mk_ (hawk.mono ?_)
  rintro e w1 ⟨rfl, hE1⟩
  have hE01 := hE0.trans hE1
  have X00 := laters (show W0.cell? ⟨g, 0, none⟩ = some (.string x.tag) from hb0.cell 0)
  have X01 := laters (show W0.cell? ⟨g, 1, none⟩ = some (.slice x.c.A x.c.m x.c.c) from hb0.cell 1)
  have X02 := laters (show W0.cell? ⟨g, 2, none⟩ = some (.slice x.d.A x.d.m x.d.c) from hb0.cell 2)
  have X03 := laters (show W0.cell? ⟨g, 3, none⟩ = some (.slice x.e.A x.e.m x.e.c) from hb0.cell 3)
  clear hW0 hg hawk hb0
  have hfc := few_any (hx.ext hE01)
  rw [HIDV.out x] at hfc
  go_wp2_with (first
    | (go_at_call 9; refine Hid.out ?_))
  refine Hid.mk_ ((hfc).mono ?_)
  rintro e w2 ⟨rfl, hE2⟩
  clear hfc
  have hE12 := hE1.trans hE2
  have hE02 := hE01.trans hE2
  cases hf1 : fewC x.p with
  | false =>
    clear hf1
    go_wp2
    go_ret
    exact ⟨rfl, hE02⟩
  | true =>
  clear hf1
  by_cases hm3 : 3000 < m
  · have hi : (3000 : Int) < (m : Int) := by omega
    go_wp2
    go_ret
    exact ⟨rfl, hE02⟩
  have hi : ¬ (3000 : Int) < (m : Int) := by omega
  have hvc := rvalid_any (hx.ext hE02)
  rw [HIDV.out x] at hvc
  go_wp2_with (first
    | (go_at_call 12; refine Hid.out ?_))
  refine Hid.mk_ ((hvc).mono ?_)
  rintro e w3 ⟨rfl, hE3⟩
  clear hvc
  have hE13 := hE12.trans hE3
  have hE03 := hE02.trans hE3
  cases hv : validC x.p with
  | false =>
    clear hv
    have hsS := hs.ext hE03
    have hTS := hT.ext hE03
    go_wp2_with (first
      | (go_at_call 18; refine Hid.out ?_))
    refine Hid.mk_ ((bdecode_any c hsS hmc (by omega) hTS).mono ?_)
    rintro e wd ⟨⟨y, code, rfl, hD, hyW⟩, hEd⟩
    have hE0d := (hE03).trans hEd
    rw [HIDV.out y]
    obtain ⟨wB, hwB⟩ : ∃ wB, wB = wd.alloc (Obj.cells #[.string y.tag, .slice y.c.A y.c.m y.c.c, .slice y.d.A y.d.m y.d.c, .slice y.e.A y.e.m y.e.c] 26) := ⟨_, rfl⟩
    have hbB : Blk wB wd.heap.size 26 #[.string y.tag, .slice y.c.A y.c.m y.c.c, .slice y.d.A y.d.m y.d.c, .slice y.e.A y.e.m y.e.c] := by rw [hwB]; exact Blk.new wd _ _
    have hEB : Ext wd wB := by rw [hwB]; exact (Ext.refl _).alloc _
    have hE0B := hE0d.trans hEB
    obtain ⟨gB, hgB⟩ : ∃ gB, gB = wd.heap.size := ⟨_, rfl⟩
    rw [← hgB] at hbB
    have s90 := laters (show wB.cell? ⟨gB, 0, none⟩ = some (.string y.tag) from (hbB).cell 0)
    have s91 := laters (show wB.cell? ⟨gB, 1, none⟩ = some (.slice y.c.A y.c.m y.c.c) from (hbB).cell 1)
    have s92 := laters (show wB.cell? ⟨gB, 2, none⟩ = some (.slice y.d.A y.d.m y.d.c) from (hbB).cell 2)
    have s93 := laters (show wB.cell? ⟨gB, 3, none⟩ = some (.slice y.e.A y.e.m y.e.c) from (hbB).cell 3)
    rcases hD with ⟨hc0, hyv, hye⟩ | ⟨hc4, hyz, _⟩
    · subst hc0
      have HYV := Lib.hid hyv
      have HYE := Lib.hid hye
      clear hyv hye hbB
      have henc := bencode_any (hyW.ext hEB) (hT.ext hE0B)
      rw [HIDV.out y] at henc
      go_wp2_with (first
        | (go_at_call 10; refine Hid.out ?_))
      rw [← hwB, ← hgB]
      clear hwB hgB
      refine Hid.mk_ (henc.mono ?_)
      rintro e wf ⟨⟨AF, mF, cF, codeF, LF, rfl, hoF, hRF⟩, hEF⟩
      obtain ⟨rfl, hLF⟩ : codeF = 0 ∧ LF = l := by
        rcases hRF with ⟨_, a, b⟩ | ⟨h, _, _⟩
        · exact ⟨a, by rw [b, HYE.out]⟩
        · rw [HYV.out] at h; cases h
      rw [hLF] at hoF
      clear hLF hRF henc
      have hE0F := hE0B.trans hEF
      have hcv := conv_str hoF.sl cF
      have hcw := conv_str (hs.ext hE0F) c
      have hvc := rvalid_any (hyW.ext (hEB.trans hEF))
      rw [HIDV.out y, HYV.out] at hvc
      go_wp2_with (first
        | (go_at_call 12; refine Hid.out ?_))
      refine Hid.mk_ (hvc.mono ?_)
      rintro e wh ⟨rfl, hEh⟩
      clear hcv hcw hvc
      go_wp2
      go_ret
      exact ⟨rfl, hE0F.trans hEh⟩
    · subst hc4
      have HYZ := Lib.hid hyz
      clear hyz hbB
      have hq := reqC_any (hyW.ext hEB) (catZ_W wB)
      rw [HIDV.out y, HIDV.out catZ] at hq
      rw [show eqC y.p catZ.p = true by rw [HYZ.out]; exact eqC_refl _] at hq
      go_wp2_with (first
        | (go_at_call 19; refine Hid.out ?_))
      rw [← hwB]
      clear hwB hgB
      refine Hid.mk_ (hq.mono ?_)
      rintro e wf ⟨rfl, hEF⟩
      clear hq
      go_wp2
      go_ret
      exact ⟨rfl, hE0B.trans hEF⟩
  | true =>
    have HV := Lib.hid hv
    clear hv
    have he1 := bencode_any (hx.ext hE03) (hT.ext hE03)
    rw [HIDV.out x] at he1
    go_wp2_with (first
      | (go_at_call 10; refine Hid.out ?_))
    refine Hid.mk_ ((he1).mono ?_)
    rintro e w4 ⟨⟨AE, mE, cE, code, L, rfl, ho, hR⟩, hE4⟩
    obtain ⟨rfl, hL⟩ : code = 0 ∧ L = encC x.p := by
      rcases hR with ⟨_, a, b⟩ | ⟨h, _, _⟩
      · exact ⟨a, b⟩
      · rw [HV.out] at h; cases h
    have hmb : mE ≤ 400000000 := by rw [ho.len, hL, encC_len]; exact totE_le (validC_short HV.out)
    have HLE := Lib.hid hL
    clear hL hR he1
    have hE04 := hE03.trans hE4
    go_wp2_with (first
      | (go_at_call 18; refine Hid.out ?_))
    refine Hid.mk_ ((bdecode_any cE ho.sl ho.cap (by omega) (hT.ext hE04)).mono ?_)
    rintro e w5 ⟨⟨z, code, rfl, hD, hzW⟩, hE5⟩
    rw [HIDV.out z]
    rw [HLE.out] at hD
    obtain ⟨rfl, hzx⟩ := dec_own HV.out hD
    have HZX := Lib.hid hzx
    clear hD hzx
    have hE05 := hE04.trans hE5
    obtain ⟨wA, hwA⟩ : ∃ wA, wA = w5.alloc (Obj.cells #[.string z.tag, .slice z.c.A z.c.m z.c.c, .slice z.d.A z.d.m z.d.c, .slice z.e.A z.e.m z.e.c] 26) := ⟨_, rfl⟩
    have hbA : Blk wA w5.heap.size 26 #[.string z.tag, .slice z.c.A z.c.m z.c.c, .slice z.d.A z.d.m z.d.c, .slice z.e.A z.e.m z.e.c] := by rw [hwA]; exact Blk.new w5 _ _
    have hEA : Ext w5 wA := by rw [hwA]; exact (Ext.refl _).alloc _
    have hE0A := hE05.trans hEA
    have hE15 := (hE13.trans hE4).trans hE5
    have hq := reqC_any (hzW.ext hEA) (hx.ext hE0A)
    rw [HIDV.out z, HIDV.out x] at hq
    rw [show eqC z.p x.p = true by rw [HZX.out]; exact eqC_refl _] at hq
    clear hbA
    go_wp2_with (first
      | (go_at_call 19; refine Hid.out ?_))
    rw [← hwA]
    clear hwA
    refine Hid.mk_ (hq.mono ?_)
    rintro e w6 ⟨rfl, hE6⟩
    clear hq
    have hE06 := hE0A.trans hE6
    have hsS := hs.ext hE06
    have hTS := hT.ext hE06
    go_wp2_with (first
      | (go_at_call 18; refine Hid.out ?_))
    refine Hid.mk_ ((bdecode_any c hsS hmc (by omega) hTS).mono ?_)
    rintro e wd ⟨⟨y, code, rfl, hD, hyW⟩, hEd⟩
    have hE0d := (hE06).trans hEd
    rw [HIDV.out y]
    obtain ⟨wB, hwB⟩ : ∃ wB, wB = wd.alloc (Obj.cells #[.string y.tag, .slice y.c.A y.c.m y.c.c, .slice y.d.A y.d.m y.d.c, .slice y.e.A y.e.m y.e.c] 26) := ⟨_, rfl⟩
    have hbB : Blk wB wd.heap.size 26 #[.string y.tag, .slice y.c.A y.c.m y.c.c, .slice y.d.A y.d.m y.d.c, .slice y.e.A y.e.m y.e.c] := by rw [hwB]; exact Blk.new wd _ _
    have hEB : Ext wd wB := by rw [hwB]; exact (Ext.refl _).alloc _
    have hE0B := hE0d.trans hEB
    obtain ⟨gB, hgB⟩ : ∃ gB, gB = wd.heap.size := ⟨_, rfl⟩
    rw [← hgB] at hbB
    have s90 := laters (show wB.cell? ⟨gB, 0, none⟩ = some (.string y.tag) from (hbB).cell 0)
    have s91 := laters (show wB.cell? ⟨gB, 1, none⟩ = some (.slice y.c.A y.c.m y.c.c) from (hbB).cell 1)
    have s92 := laters (show wB.cell? ⟨gB, 2, none⟩ = some (.slice y.d.A y.d.m y.d.c) from (hbB).cell 2)
    have s93 := laters (show wB.cell? ⟨gB, 3, none⟩ = some (.slice y.e.A y.e.m y.e.c) from (hbB).cell 3)
    rcases hD with ⟨hc0, hyv, hye⟩ | ⟨hc4, hyz, _⟩
    · subst hc0
      have HYV := Lib.hid hyv
      have HYE := Lib.hid hye
      clear hyv hye hbB
      have henc := bencode_any (hyW.ext hEB) (hT.ext hE0B)
      rw [HIDV.out y] at henc
      go_wp2_with (first
        | (go_at_call 10; refine Hid.out ?_))
      rw [← hwB, ← hgB]
      clear hwB hgB
      refine Hid.mk_ (henc.mono ?_)
      rintro e wf ⟨⟨AF, mF, cF, codeF, LF, rfl, hoF, hRF⟩, hEF⟩
      obtain ⟨rfl, hLF⟩ : codeF = 0 ∧ LF = l := by
        rcases hRF with ⟨_, a, b⟩ | ⟨h, _, _⟩
        · exact ⟨a, by rw [b, HYE.out]⟩
        · rw [HYV.out] at h; cases h
      rw [hLF] at hoF
      clear hLF hRF henc
      have hE0F := hE0B.trans hEF
      have hcv := conv_str hoF.sl cF
      have hcw := conv_str (hs.ext hE0F) c
      have hvc := rvalid_any (hyW.ext (hEB.trans hEF))
      rw [HIDV.out y, HYV.out] at hvc
      go_wp2_with (first
        | (go_at_call 12; refine Hid.out ?_))
      refine Hid.mk_ (hvc.mono ?_)
      rintro e wh ⟨rfl, hEh⟩
      clear hcv hcw hvc
      go_wp2
      go_ret
      exact ⟨rfl, hE0F.trans hEh⟩
    · subst hc4
      have HYZ := Lib.hid hyz
      clear hyz hbB
      have hq := reqC_any (hyW.ext hEB) (catZ_W wB)
      rw [HIDV.out y, HIDV.out catZ] at hq
      rw [show eqC y.p catZ.p = true by rw [HYZ.out]; exact eqC_refl _] at hq
      go_wp2_with (first
        | (go_at_call 19; refine Hid.out ?_))
      rw [← hwB]
      clear hwB hgB
      refine Hid.mk_ (hq.mono ?_)
      rintro e wf ⟨rfl, hEF⟩
      clear hq
      go_wp2
      go_ret
      exact ⟨rfl, hE0B.trans hEF⟩
end

set_option maxRecDepth 100000 in
theorem liftedBinaryInverse (os : Os) (started : os.Started) (H : Type) (enc : TypeId × Value → H) :
    ReturnsInHanded {} Tryd.checked os 5 .any (fun w args => (Rows.binaryInverseSpec.pre enc Tryd.prog Tryd.f5 [] false w args ∧ laidMetH Tryd.prog laidL2 w) ∧ sizedMet enc Tryd.prog Tryd.f5 (OpenSpec.ofChange Rows.binaryInverseSpec) false w args) (Rows.binaryInverseSpec.post enc Tryd.prog Tryd.f5 false true false false) := by
  refine returnsInHanded_of_change_and (C := Tryd.checked) (X := fun w _ => laidMetH Tryd.prog laidL2 w) (fun _ _ _ hh h => h.of_heap hh) ownK started (by kernel_rfl) Tryd.func5
    (ChangeSpec.witness_shaped (enc := enc) (C := Tryd.checked) (os := os) (X := fun w _ => laidMetH Tryd.prog laidL2 w) false (World.laidAll Tryd.prog os laidL2) #[.agg #[.string ⟨#[]⟩, .slice none 0 0, .slice none 0 0, .slice none 0 0], .slice none 0 0] 8 (World.laidAll_os _ _ _)
      (World.shaped_of_ZipB (by kernel_rfl) (by kernel_rfl)) (by kernel_rfl) (by kernel_rfl) (by kernel_rfl)
      (by rw [MakeChecks.laidMetH_plain _ _ _ (by kernel_rfl)]; exact laidMet_laidAll _ (by kernel_rfl) (by kernel_rfl))) ?_
  intro W base args ds gs before hval0 hW hcnd hsz0 hL _
  have hT := tabs2 hL
  have hval : ∀ (j : Nat) t v, Tryd.f5.params[j]? = some t → args[j]? = some v → Value.okWide Tryd.prog W .any base t v := hval0
  have hW' := hW
  obtain ⟨p, q, hA0, hV, rfl, hfz, hnd⟩ := hW
  have hA : DataW.TrodAll enc Tryd.prog W 0 (fun _ => true) true Tryd.f5.params.toList args.toList ds p := hA0
  have hsz : (DataW.weightsEach Tryd.prog (Tryd.f5.params.toList ++ Rows.binaryInverseSpec.plain.varTypes Tryd.prog) (ds ++ gs)).all (· ≤ reachBytes) = true := hsz0
  rw [Tryd.params5] at hA hval hsz
  obtain ⟨v0, vs0, d0, ds0, p0, q0, hargs0, rfl, rfl, h0, r0⟩ := trodAll_cons hA
  obtain ⟨v1, vs1, d1, ds1, p1, q1, hargs1, rfl, rfl, h1, r1⟩ := trodAll_cons r0
  obtain ⟨rfl, rfl, rfl⟩ := trodAll_nil r1
  obtain rfl : args = #[v0, v1] := by cases args; simp_all
  obtain ⟨rfl, rfl⟩ := trodVars_none hV
  have k0 := h0
  have lt0 : ∀ x ∈ p0, x.block < W.heap.size := by obtain ⟨m, hm⟩ := k0; exact DataW.trod_lt m _ _ _ hm
  have k1 := h1
  have lt1 : ∀ x ∈ p1, x.block < W.heap.size := by obtain ⟨m, hm⟩ := k1; exact DataW.trod_lt m _ _ _ hm
  obtain ⟨x0, rfl, g0⟩ := opn_top_agg opn_cat ((okWide_struct Tryd.underlying26 (hval 0 26 v0 rfl rfl)).imp fun _ hh => hh.1) h0 (WOk.top hsz (j := 0) rfl rfl)
  obtain ⟨A1, m1, c1, l1, rfl, w1, hc1, hb1⟩ := opn_top_bytes (hval 1 29 v1 rfl rfl) h1 (WOk.top hsz (j := 1) rfl rfl)
  clear hA0 hval0
  refine (binv_walk g0 hT c1 w1 hc1).mono fun e W' ⟨he, bel⟩ => ?_
  subst he
  exact ⟨_, rfl, _, _, _, [], _, [], hW', trodAll_mk1 (shut_bool Tryd.underlying4 _), (trodAll_cons_mk (Below.trod laidK (by kernel_rfl) (of_decide_eq_true (by kernel_rfl)) k0 bel lt0) (trodAll_cons_mk (Below.trod laidK (by kernel_rfl) (of_decide_eq_true (by kernel_rfl)) k1 bel lt1) trodAll_mk0)), rfl, Below.frame bel _, fun h => by cases h⟩
theorem BinaryInverse_row : Rows.BinaryInverseSaid :=
  OpenClaim.holds_of_wide 5 Tryd.f5 rfl rfl rfl rfl rfl rfl rfl ⟨rfl, rfl, rfl, rfl, rfl⟩ rfl rfl rfl rfl rfl (by kernel_rfl) Tryd.func5 (by kernel_rfl)
    (of_decide_eq_true (by kernel_rfl)) (by unfold Func.isWrapper; rw [if_neg (of_decide_eq_false (by kernel_rfl))]; exact ⟨rfl, rfl⟩)
    (fun os started H enc _ => liftedBinaryInverse os started H enc)
theorem BinaryInverse_holds : Rows.BinaryInverseCardSaid :=
  Claim7.holds_tied_plain_at .later [] Rows.binaryInverseCard.laidKinds true Rows.binaryInverseCard.stood.harness Rows.binaryInverseCard.stood.looks
    BinaryInverse_row (fun _ h => by cases h) (by kernel_rfl) (fun _ h => by cases h) binaryInverse_row_tie rfl ⟨rfl, rfl⟩ (by kernel_rfl) rfl
    (fun f fn hf hfn => by
      obtain rfl : f = 5 := Option.some.inj ((show Tryd.prog.funcNamed Rows.binaryInverseRow.func = some 5 by kernel_rfl).symm.trans hf) |>.symm
      obtain rfl : fn = Tryd.f5 := (Option.some.inj (Tryd.func5.symm.trans hfn)).symm
      exact ⟨by kernel_rfl, fun j t ht => by
        rw [Tryd.params5] at ht
        have hm : t ∈ [26, 29] := by simpa using Array.mem_of_getElem? ht
        have hall : ([26, 29].all fun u => !Tryd.prog.wantsStandIn u) = true := by kernel_rfl
        exact (show Tryd.prog.wantsStandIn t = false by simpa using List.all_eq_true.1 hall t hm)⟩)
    (by kernel_rfl)
#print axioms BinaryInverse_holds

end Go.Proofs.YtngpajaghadhdaaDoor
