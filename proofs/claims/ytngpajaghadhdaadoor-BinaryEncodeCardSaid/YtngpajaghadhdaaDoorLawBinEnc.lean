/- Encode returns the encoding of any catalog, or ErrArg. No condition. -/
import Derived.Test.YtngpajaghadhdaaDoorBinRE
import Derived.Test.YtngpajaghadhdaaDoorCatCard
import Derived.ProofKit
import Derived.OpenShut
import Derived.ShutString
import Derived.ChangeOld
import Derived.SizedLaws
namespace Go.Proofs.YtngpajaghadhdaaDoor
open Go.ChangeShapes Go.WideShapes Go.ChangeAt Go.RowKit
set_option maxRecDepth 100000
attribute [local go_sem] ext_refl_t ext_alloc_t ext_drew_t ext_drewN_t ext_alloc2_t ext_alloc3_t ext_alloc4_t ext_alloc5_t ext_alloc6_t ext_alloc7_t ext_alloc8_t ext_alloc1d_t ext_alloc2d_t ext_alloc3d_t ext_alloc4d_t
def laidL2 : List (String × DataW Unit) := Rows.binaryEncodeRow.laid
theorem tabs2 {W : World} (h : laidMetH Tryd.prog laidL2 W) : Tabs W := tabs_of_laid h
theorem EncR.uniq {c : Cp} {code code' : Int} {L L' : List UInt8} (h : EncR c code L) (h' : EncR c code' L') : code' = code ∧ L' = L := by
  rcases h with ⟨h1, rfl, rfl⟩ | ⟨h1, rfl, rfl⟩ <;> rcases h' with ⟨h2, rfl, rfl⟩ | ⟨h2, rfl, rfl⟩ <;> first
    | exact ⟨rfl, rfl⟩
    | (rw [h1] at h2; cases h2)
def catX : Cat := ⟨⟨#[120]⟩, [], [], [], ⟨none, 0, 0⟩, ⟨none, 0, 0⟩, ⟨none, 0, 0⟩⟩
theorem catX_W (w : World) : CatW w catX := ⟨by show (1 : Nat) ≤ _; omega, HW.nil_ strF_len, HW.nil_ fdC_len, HW.nil_ entC_len⟩
theorem catX_enc {code : Int} {L : List UInt8} (h : EncR catX.p code L) : code = 0 ∧ L = [67, 81, 66, 49, 0, 0, 0, 14, 1, 1, 120, 0, 0, 0] := by
  have hv : validC catX.p = true := by decide
  rcases h with ⟨_, rfl, rfl⟩ | ⟨h1, _, _⟩
  · refine ⟨rfl, ?_⟩
    have hs : sortE catX.p.es = [] := List.eq_nil_of_length_eq_zero (by rw [sortE_len]; rfl)
    have ht : totE catX.p = 14 := by decide
    unfold encC dirE
    rw [hs, ht]
    decide
  · rw [hv] at h1; cases h1
theorem str_enc : str [67, 81, 66, 49, 0, 0, 0, 14, 1, 1, 120, 0, 0, 0] = ⟨#[67, 81, 66, 49, 0, 0, 0, 14, 1, 1, 120, 0, 0, 0]⟩ := rfl
section
variable {w : World}
set_option maxHeartbeats 3200000 in
theorem awake_bin (hT : Tabs w) :
    Calls Tryd.prog 8 #[] w fun e w' => e = .returned (.bool true) ∧ Ext w w' := by
  have henc := bencode_any (catX_W w) hT
  rw [show catV catX = .agg #[.string ⟨#[120]⟩, .slice none 0 0, .slice none 0 0, .slice none 0 0] from rfl] at henc
  go_enter Tryd.func8, Tryd.ntmps8
  go_wp2_with (first
    | (go_at_call 10; refine Hid.out ?_))
  refine Hid.mk_ ((henc).mono ?_)
  rintro e w1 ⟨⟨A, m, c, code, L, rfl, ho, hR⟩, hE⟩
  obtain ⟨rfl, rfl⟩ := catX_enc hR
  have hcv := conv_str ho.sl c
  rw [str_enc] at hcv
  clear henc hR ho
  go_wp2
  go_ret
  exact ⟨rfl, hE⟩
set_option maxHeartbeats 6400000 in
theorem enclaw_walk {x : Cat} (hx : CatW w x) (hT : Tabs w) :
    Calls Tryd.prog 3 #[catV x] w fun e w' => e = .returned (.bool true) ∧ Ext w w' := by
  have HIDV : Hid (∀ y : Cat, catV y = .agg #[.string y.tag, .slice y.c.A y.c.m y.c.c, .slice y.d.A y.d.m y.d.c, .slice y.e.A y.e.m y.e.c]) := fun _ => rfl
  rw [HIDV.out x]
  obtain ⟨W0, hW0⟩ : ∃ W0, W0 = w.alloc (Obj.cells #[.string x.tag, .slice x.c.A x.c.m x.c.c, .slice x.d.A x.d.m x.d.c, .slice x.e.A x.e.m x.e.c] 26) := ⟨_, rfl⟩
  have hb0 : Blk W0 w.heap.size 26 #[.string x.tag, .slice x.c.A x.c.m x.c.c, .slice x.d.A x.d.m x.d.c, .slice x.e.A x.e.m x.e.c] := by rw [hW0]; exact Blk.new w _ _
  have hE0 : Ext w W0 := by rw [hW0]; exact (Ext.refl w).alloc _
  have hawk := awake_bin (hT.ext hE0)
  obtain ⟨g, hg⟩ : ∃ g, g = w.heap.size := ⟨_, rfl⟩
  go_enter Tryd.func3, Tryd.ntmps3
  go_wp2_with (first
    | (go_at_call 8; refine Hid.out ?_))
  rw [← hW0, ← hg]
  rw [← hg] at hb0
  refine Hid.mk_ (hawk.mono ?_)
  rintro e w1 ⟨rfl, hE1⟩
  have hE01 := hE0.trans hE1
  have X00 := laters (show W0.cell? ⟨g, 0, none⟩ = some (.string x.tag) from hb0.cell 0)
  have X01 := laters (show W0.cell? ⟨g, 1, none⟩ = some (.slice x.c.A x.c.m x.c.c) from hb0.cell 1)
  have X02 := laters (show W0.cell? ⟨g, 2, none⟩ = some (.slice x.d.A x.d.m x.d.c) from hb0.cell 2)
  have X03 := laters (show W0.cell? ⟨g, 3, none⟩ = some (.slice x.e.A x.e.m x.e.c) from hb0.cell 3)
  clear hW0 hg hawk hb0
  have hfc := few_any (hx.ext hE01)
  rw [HIDV.out x] at hfc
  go_wp2_with (first
    | (go_at_call 9; refine Hid.out ?_))
  refine Hid.mk_ ((hfc).mono ?_)
  rintro e w2 ⟨rfl, hE2⟩
  clear hfc
  have hE12 := hE1.trans hE2
  have hE02 := hE01.trans hE2
  cases hf1 : fewC x.p with
  | false =>
    clear hf1
    go_wp2
    go_ret
    exact ⟨rfl, hE02⟩
  | true =>
  clear hf1
  have he1 := bencode_any (hx.ext hE02) (hT.ext hE02)
  rw [HIDV.out x] at he1
  go_wp2_with (first
    | (go_at_call 10; refine Hid.out ?_))
  refine Hid.mk_ ((he1).mono ?_)
  rintro e w3 ⟨⟨A, m, c, code, L, rfl, ho, hR⟩, hE3⟩
  have hE13 := hE12.trans hE3
  have hE03 := hE02.trans hE3
  have HR := Lib.hid hR
  clear he1 hR
  have he2 := rencode_any (hx.ext hE03)
  rw [HIDV.out x] at he2
  go_wp2_with (first
    | (go_at_call 11; refine Hid.out ?_))
  refine Hid.mk_ ((he2).mono ?_)
  rintro e w4 ⟨⟨A2, m2, c2, code2, L2, rfl, ho2, hR⟩, hE4⟩
  obtain ⟨rfl, rfl⟩ := HR.out.uniq hR
  have hE04 := hE03.trans hE4
  have hcv1 := conv_str (ho.ext hE4).sl c
  have hcv2 := conv_str ho2.sl c2
  obtain ⟨sL, hsL⟩ : ∃ s, s = str L2 := ⟨_, rfl⟩
  rw [← hsL] at hcv1 hcv2
  have hcc : (code2 == code2) = true := by simp
  clear he2 hR hsL ho ho2
  go_wp2
  go_ret
  exact ⟨rfl, hE04⟩
end

set_option maxRecDepth 100000 in
theorem liftedBinaryEncode (os : Os) (started : os.Started) (H : Type) (enc : TypeId × Value → H) :
    ReturnsInHanded {} Tryd.checked os 3 .any (fun w args => (Rows.binaryEncodeSpec.pre enc Tryd.prog Tryd.f3 [] false w args ∧ laidMetH Tryd.prog laidL2 w) ∧ sizedMet enc Tryd.prog Tryd.f3 (OpenSpec.ofChange Rows.binaryEncodeSpec) false w args) (Rows.binaryEncodeSpec.post enc Tryd.prog Tryd.f3 false true false false) := by
  refine returnsInHanded_of_change_and (C := Tryd.checked) (X := fun w _ => laidMetH Tryd.prog laidL2 w) (fun _ _ _ hh h => h.of_heap hh) ownK started (by kernel_rfl) Tryd.func3
    (ChangeSpec.witness_shaped (enc := enc) (C := Tryd.checked) (os := os) (X := fun w _ => laidMetH Tryd.prog laidL2 w) false (World.laidAll Tryd.prog os laidL2) #[.agg #[.string ⟨#[]⟩, .slice none 0 0, .slice none 0 0, .slice none 0 0]] 8 (World.laidAll_os _ _ _)
      (World.shaped_of_ZipB (by kernel_rfl) (by kernel_rfl)) (by kernel_rfl) (by kernel_rfl) (by kernel_rfl)
      (by rw [MakeChecks.laidMetH_plain _ _ _ (by kernel_rfl)]; exact laidMet_laidAll _ (by kernel_rfl) (by kernel_rfl))) ?_
  intro W base args ds gs before hval0 hW hcnd hsz0 hL _
  have hT := tabs2 hL
  have hval : ∀ (j : Nat) t v, Tryd.f3.params[j]? = some t → args[j]? = some v → Value.okWide Tryd.prog W .any base t v := hval0
  have hW' := hW
  obtain ⟨p, q, hA0, hV, rfl, hfz, hnd⟩ := hW
  have hA : DataW.TrodAll enc Tryd.prog W 0 (fun _ => true) true Tryd.f3.params.toList args.toList ds p := hA0
  have hsz : (DataW.weightsEach Tryd.prog (Tryd.f3.params.toList ++ Rows.binaryEncodeSpec.plain.varTypes Tryd.prog) (ds ++ gs)).all (· ≤ reachBytes) = true := hsz0
  rw [Tryd.params3] at hA hval hsz
  obtain ⟨v0, vs0, d0, ds0, p0, q0, hargs0, rfl, rfl, h0, r0⟩ := trodAll_cons hA
  obtain ⟨rfl, rfl, rfl⟩ := trodAll_nil r0
  obtain rfl : args = #[v0] := by cases args; simp_all
  obtain ⟨rfl, rfl⟩ := trodVars_none hV
  have k0 := h0
  have lt0 : ∀ x ∈ p0, x.block < W.heap.size := by obtain ⟨m, hm⟩ := k0; exact DataW.trod_lt m _ _ _ hm
  obtain ⟨x0, rfl, g0⟩ := opn_top_agg opn_cat ((okWide_struct Tryd.underlying26 (hval 0 26 v0 rfl rfl)).imp fun _ hh => hh.1) h0 (WOk.top hsz (j := 0) rfl rfl)
  clear hA0 hval0
  refine (enclaw_walk g0 hT).mono fun e W' ⟨he, bel⟩ => ?_
  subst he
  exact ⟨_, rfl, _, _, _, [], _, [], hW', trodAll_mk1 (shut_bool Tryd.underlying4 _), (trodAll_cons_mk (Below.trod laidK (by kernel_rfl) (of_decide_eq_true (by kernel_rfl)) k0 bel lt0) trodAll_mk0), rfl, Below.frame bel _, fun h => by cases h⟩
theorem BinaryEncode_row : Rows.BinaryEncodeSaid :=
  OpenClaim.holds_of_wide 3 Tryd.f3 rfl rfl rfl rfl rfl rfl rfl ⟨rfl, rfl, rfl, rfl, rfl⟩ rfl rfl rfl rfl rfl (by kernel_rfl) Tryd.func3 (by kernel_rfl)
    (of_decide_eq_true (by kernel_rfl)) (by unfold Func.isWrapper; rw [if_neg (of_decide_eq_false (by kernel_rfl))]; exact ⟨rfl, rfl⟩)
    (fun os started H enc _ => liftedBinaryEncode os started H enc)
theorem BinaryEncode_holds : Rows.BinaryEncodeCardSaid :=
  Claim7.holds_tied_plain_at .later [] Rows.binaryEncodeCard.laidKinds true Rows.binaryEncodeCard.stood.harness Rows.binaryEncodeCard.stood.looks
    BinaryEncode_row (fun _ h => by cases h) (by kernel_rfl) (fun _ h => by cases h) binaryEncode_row_tie rfl ⟨rfl, rfl⟩ (by kernel_rfl) rfl
    (fun f fn hf hfn => by
      obtain rfl : f = 3 := Option.some.inj ((show Tryd.prog.funcNamed Rows.binaryEncodeRow.func = some 3 by kernel_rfl).symm.trans hf) |>.symm
      obtain rfl : fn = Tryd.f3 := (Option.some.inj (Tryd.func3.symm.trans hfn)).symm
      exact ⟨by kernel_rfl, fun j t ht => by
        rw [Tryd.params3] at ht
        have hm : t ∈ [26] := by simpa using Array.mem_of_getElem? ht
        have hall : ([26].all fun u => !Tryd.prog.wantsStandIn u) = true := by kernel_rfl
        exact (show Tryd.prog.wantsStandIn t = false by simpa using List.all_eq_true.1 hall t hm)⟩)
    (by kernel_rfl)
#print axioms BinaryEncode_holds

end Go.Proofs.YtngpajaghadhdaaDoor
