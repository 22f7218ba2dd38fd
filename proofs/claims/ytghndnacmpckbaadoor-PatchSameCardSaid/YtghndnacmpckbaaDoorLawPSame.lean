/- The patch from bytes to themselves has 8 to 250 bytes and returns them; Apply refuses the empty patch and the first seven bytes of a patch with ErrForm. No condition. -/
import Derived.Test.YtghndnacmpckbaaDoorPatL
import Derived.Test.YtghndnacmpckbaaDoorReadB
import Derived.ProofKit
import Derived.OpenShut
import Derived.ShutString
import Derived.ChangeOld
import Derived.SizedLaws
namespace Go.Proofs.YtghndnacmpckbaaDoor
open Go.ChangeShapes Go.WideShapes Go.ChangeAt Go.RowKit
set_option maxRecDepth 100000

set_option maxHeartbeats 3200000 in
theorem same_walk {w : World} {A : Option Addr} {m c : Nat} {x : List UInt8} (ha : SlB w A m x) (hmc : m ≤ c) (hT : Tb w) :
    Calls Tryd.prog 6 #[.slice A m c] w fun e w' => e = .returned (.bool true) ∧ Ext w w' := by
  have HX := Lib.hid ha.len
  by_cases hm : 1000 < m
  · have hm' : (1000 : Int) < (m : Int) := by omega
    go_enter Tryd.func6, Tryd.ntmps6
    go_wp2_with (first
      | (go_at_call 8; refine Hid.out ?_))
    refine Hid.mk_ ((awake_pat hT).mono ?_)
    rintro e w1 ⟨rfl, hE1⟩
    go_wp2_with (first
      | (go_at_call 8; refine Hid.out ?_))
    refine Hid.mk_ ((awake_pat (hT.ext hE1)).mono ?_)
    rintro e w2 ⟨rfl, hE2⟩
    go_wp2
    go_ret
    exact ⟨rfl, hE1.trans hE2⟩
  · have hm' : ¬ (1000 : Int) < (m : Int) := by omega
    go_enter Tryd.func6, Tryd.ntmps6
    go_wp2_with (first
      | (go_at_call 8; refine Hid.out ?_))
    refine Hid.mk_ ((awake_pat hT).mono ?_)
    rintro e w1 ⟨rfl, hE1⟩
    have ha1 := ha.ext hE1
    go_wp2_with (first
      | (go_at_call 10; refine Hid.out ?_))
    refine Hid.mk_ ((make_any c c ha1 ha1 hmc hmc (by omega) (by omega) (hT.ext hE1).tz).mono ?_)
    rintro e w2 ⟨⟨A2, m2, c2, b, e1, rfl, ho2, hMk⟩, hE2⟩
    have hE02 := hE1.trans hE2
    have hx6 : x.length ≤ 1000000 := by rw [← HX.out]; omega
    have h8 := mk_sealed_ge (encP (mkC x x b e1))
    have h250 := @mk_len x x b e1
    rw [mid_same hMk] at h250
    rw [← ho2.len] at h8 h250
    have h250 : m2 ≤ 250 := h250
    go_wp2_with (first
      | (go_at_call 11; refine Hid.out ?_))
    refine Hid.mk_ ((papply_any c c2 (ha.ext hE02) hmc (by omega) ho2.sl ho2.cap (by omega) (hT.ext hE02)).mono ?_)
    rintro e w3 ⟨⟨A3, m3, c3, l3, code, rfl, ho3, hA3⟩, hE3⟩
    obtain ⟨rfl, rfl⟩ := Prod.mk.inj (ap_make hMk hx6 hx6 hA3)
    have hE03 := hE02.trans hE3
    have i1 : ¬ (250 : Int) < (m2 : Int) := by omega
    have i2 : ¬ (m2 : Int) < 8 := by omega
    clear hA3 hMk
    go_wp2_with (first
      | (go_at_call 12; refine Hid.out ?_))
    refine Hid.mk_ ((same3B c3 c ho3.sl (ha.ext hE03)).mono ?_)
    rintro e w4 ⟨rfl, hE4⟩
    rw [decide_eq_true rfl]
    have hE04 := hE03.trans hE4
    go_wp2_with (first
      | (go_at_call 11; refine Hid.out ?_))
    refine Hid.mk_ ((papply_any c 0 (ha.ext hE04) hmc (by omega) (SlB.nil_ (w := w4)) (by omega) (by omega) (hT.ext hE04)).mono ?_)
    rintro e w5 ⟨⟨A5, m5, c5, l5, code5, rfl, ho5, hA5⟩, hE5⟩
    obtain ⟨rfl, rfl⟩ := Prod.mk.inj (ap_bad (open_short (by decide)) (by decide) hA5)
    have hE05 := hE04.trans hE5
    have hs5 := ((ho2.sl.ext hE3).ext hE4).ext hE5
    obtain ⟨A6, hx1, hx2, hx3, hsm, hobm⟩ := cut_run hs5 (i := 0) (j := 7) (by omega) (by omega) ho2.cap
    have q1 : ∀ W, (Instr.sliceAt 22 (.slice A2 m2 c2) none (some (.int .i64 7)) none).run Tryd.prog W = .ok (.slice A6 (7 - 0) (c2 - 0)) W := fun W => (hx3 W .i64 7 rfl rfl).1
    have q2 : ∀ W, (Instr.slice 22 (.slice A2 m2 c2) none (some (.int .i64 7)) none).run Tryd.prog W = .ok (.slice A6 (7 - 0) (c2 - 0)) W := fun W => (hx3 W .i64 7 rfl rfl).2
    rw [Nat.sub_zero, Nat.sub_zero] at q1 q2
    rw [Nat.sub_zero, List.drop_zero] at hsm
    have hc2 : 7 ≤ c2 := by have := ho2.cap; omega
    have hl7 := hsm.len
    have HS7 := Lib.hid (show ((sealL pkey (encP (mkC l3 l3 b e1))).take 7).length < 8 by omega)
    clear hx1 hx2 hx3 hA5 hs5 hl7 i1 i2
    go_wp2_with (first
      | (go_at_call 11; refine Hid.out ?_))
    refine Hid.mk_ ((papply_any c c2 (ha.ext hE05) hmc (by omega) hsm hc2 (by omega) (hT.ext hE05)).mono ?_)
    rintro e w6 ⟨⟨A7, m7, c7, l7, code7, rfl, ho7, hA7⟩, hE6⟩
    obtain ⟨rfl, rfl⟩ := Prod.mk.inj (ap_bad (open_short HS7.out) (by decide) hA7)
    clear q1 q2 hA7
    go_wp2
    go_ret
    exact ⟨rfl, hE05.trans hE6⟩

set_option maxRecDepth 100000 in
theorem liftedPatchSame (os : Os) (started : os.Started) (H : Type) (enc : TypeId × Value → H) :
    ReturnsInHanded {} Tryd.checked os 6 .any (fun w args => (Rows.patchSameSpec.pre enc Tryd.prog Tryd.f6 [] false w args ∧ laidMetH Tryd.prog laidL w) ∧ sizedMet enc Tryd.prog Tryd.f6 (OpenSpec.ofChange Rows.patchSameSpec) false w args) (Rows.patchSameSpec.post enc Tryd.prog Tryd.f6 false true false false) := by
  refine returnsInHanded_of_change_and (C := Tryd.checked) (X := fun w _ => laidMetH Tryd.prog laidL w) (fun _ _ _ hh h => h.of_heap hh) ownK started (by kernel_rfl) Tryd.func6
    (ChangeSpec.witness_shaped (enc := enc) (C := Tryd.checked) (os := os) (X := fun w _ => laidMetH Tryd.prog laidL w) false (World.laidAll Tryd.prog os laidL) #[.slice none 0 0] 8 (World.laidAll_os _ _ _)
      (World.shaped_of_ZipB (by kernel_rfl) (by kernel_rfl)) (by kernel_rfl) (by kernel_rfl) (by kernel_rfl)
      (by rw [MakeChecks.laidMetH_plain _ _ _ (by kernel_rfl)]; exact laidMet_laidAll _ (by kernel_rfl) (by kernel_rfl))) ?_
  intro W base args ds gs before hval0 hW hcnd hsz0 hL _
  have hT := tb_of_laid hL
  have hval : ∀ (j : Nat) t v, Tryd.f6.params[j]? = some t → args[j]? = some v → Value.okWide Tryd.prog W .any base t v := hval0
  have hW' := hW
  obtain ⟨p, q, hA0, hV, rfl, hfz, hnd⟩ := hW
  have hA : DataW.TrodAll enc Tryd.prog W 0 (fun _ => true) true Tryd.f6.params.toList args.toList ds p := hA0
  have hsz : (DataW.weightsEach Tryd.prog (Tryd.f6.params.toList ++ Rows.patchSameSpec.plain.varTypes Tryd.prog) (ds ++ gs)).all (· ≤ reachBytes) = true := hsz0
  rw [Tryd.params6] at hA hval hsz
  obtain ⟨v0, vs0, d0, ds0, p0, q0, hargs0, rfl, rfl, h0, r0⟩ := trodAll_cons hA
  obtain ⟨rfl, rfl, rfl⟩ := trodAll_nil r0
  obtain rfl : args = #[v0] := by cases args; simp_all
  obtain ⟨rfl, rfl⟩ := trodVars_none hV
  have k0 := h0
  have lt0 : ∀ x ∈ p0, x.block < W.heap.size := by obtain ⟨m, hm⟩ := k0; exact DataW.trod_lt m _ _ _ hm
  obtain ⟨A0, m0, c0, l0, rfl, w0, hc0, hb0⟩ := opn_top_bytes (hval 0 22 v0 rfl rfl) h0 (WOk.top hsz (j := 0) rfl rfl)
  clear hA0 hval0
  refine (same_walk w0 hc0 hT).mono fun e W' ⟨he, bel⟩ => ?_
  subst he
  exact ⟨_, rfl, _, _, _, [], _, [], hW', trodAll_mk1 (shut_bool Tryd.underlying4 _), (trodAll_cons_mk (Below.trod laidK (by kernel_rfl) (of_decide_eq_true (by kernel_rfl)) k0 bel lt0) trodAll_mk0), rfl, Below.frame bel _, fun h => by cases h⟩
theorem PatchSame_row : Rows.PatchSameSaid :=
  OpenClaim.holds_of_wide 6 Tryd.f6 rfl rfl rfl rfl rfl rfl rfl ⟨rfl, rfl, rfl, rfl, rfl⟩ rfl rfl rfl rfl rfl (by kernel_rfl) Tryd.func6 (by kernel_rfl)
    (of_decide_eq_true (by kernel_rfl)) (by unfold Func.isWrapper; rw [if_neg (of_decide_eq_false (by kernel_rfl))]; exact ⟨rfl, rfl⟩)
    (fun os started H enc _ => liftedPatchSame os started H enc)
theorem PatchSame_holds : Rows.PatchSameCardSaid :=
  Claim7.holds_tied_plain_at .later [] Rows.patchSameCard.laidKinds true Rows.patchSameCard.stood.harness Rows.patchSameCard.stood.looks
    PatchSame_row (fun _ h => by cases h) (by kernel_rfl) (fun _ h => by cases h) patchSame_row_tie rfl ⟨rfl, rfl⟩ (by kernel_rfl) rfl
    (fun f fn hf hfn => by
      obtain rfl : f = 6 := Option.some.inj ((show Tryd.prog.funcNamed Rows.patchSameRow.func = some 6 by kernel_rfl).symm.trans hf) |>.symm
      obtain rfl : fn = Tryd.f6 := (Option.some.inj (Tryd.func6.symm.trans hfn)).symm
      exact ⟨by kernel_rfl, fun j t ht => by
        rw [Tryd.params6] at ht
        have hm : t ∈ [22] := by simpa using Array.mem_of_getElem? ht
        have hall : ([22].all fun u => !Tryd.prog.wantsStandIn u) = true := by kernel_rfl
        exact (show Tryd.prog.wantsStandIn t = false by simpa using List.all_eq_true.1 hall t hm)⟩)
    (by kernel_rfl)
#print axioms PatchSame_holds

end Go.Proofs.YtghndnacmpckbaaDoor
