/- A patch that Make returned gives the new bytes from the old ones, by Apply and by the specification, and Sizes returns the numbers of bytes. No condition. -/
import Derived.Test.YtghndnacmpckbaaDoorPatRa
import Derived.Test.YtghndnacmpckbaaDoorReadB
import Derived.ProofKit
import Derived.OpenShut
import Derived.ShutString
import Derived.ChangeOld
import Derived.SizedLaws
namespace Go.Proofs.YtghndnacmpckbaaDoor
open Go.ChangeShapes Go.WideShapes Go.ChangeAt Go.RowKit
set_option maxRecDepth 100000

set_option maxHeartbeats 3200000 in
theorem pmake_walk {w : World} {A B : Option Addr} {m k c d : Nat} {x y : List UInt8} (ha : SlB w A m x) (hb : SlB w B k y) (hmc : m ≤ c) (hkd : k ≤ d) (hT : Tb w) :
    Calls Tryd.prog 7 #[.slice A m c, .slice B k d] w fun e w' => e = .returned (.bool true) ∧ Ext w w' := by
  have HX := Lib.hid ha.len
  have HY := Lib.hid hb.len
  have HF := Lib.hid (fun W => few_pat (w := W) (A := A) (B := B) (m := m) (k := k) c d)
  by_cases hf : m ≤ 1000 ∧ k ≤ 1000
  case neg =>
    have hfe : (decide (m ≤ 1000) && decide (k ≤ 1000)) = false := by simp; omega
    rw [hfe] at HF
    clear hfe hf
    go_enter Tryd.func7, Tryd.ntmps7
    go_wp2_with (first
      | (go_at_call 8; refine Hid.out ?_))
    refine Hid.mk_ ((awake_pat hT).mono ?_)
    rintro e w1 ⟨rfl, hE1⟩
    go_wp2_with (first
      | (go_at_call 9; refine Hid.out ?_))
    refine Hid.mk_ ((HF.out _).mono ?_)
    rintro e w2 ⟨rfl, hE2⟩
    go_wp2_with (first
      | (go_at_call 8; refine Hid.out ?_))
    refine Hid.mk_ ((awake_pat ((hT.ext hE1).ext hE2)).mono ?_)
    rintro e w3 ⟨rfl, hE3⟩
    go_wp2
    go_ret
    exact ⟨rfl, (hE1.trans hE2).trans hE3⟩
  case pos =>
    obtain ⟨hm, hk⟩ := hf
    rw [decide_eq_true hm, decide_eq_true hk] at HF
    go_enter Tryd.func7, Tryd.ntmps7
    go_wp2_with (first
      | (go_at_call 8; refine Hid.out ?_))
    refine Hid.mk_ ((awake_pat hT).mono ?_)
    rintro e w1 ⟨rfl, hE1⟩
    go_wp2_with (first
      | (go_at_call 9; refine Hid.out ?_))
    refine Hid.mk_ ((HF.out _).mono ?_)
    rintro e w2 ⟨rfl, hE2⟩
    have hE02 := hE1.trans hE2
    go_wp2_with (first
      | (go_at_call 10; refine Hid.out ?_))
    refine Hid.mk_ ((make_any c d (ha.ext hE02) (hb.ext hE02) hmc hkd (by omega) (by omega) (hT.ext hE02).tz).mono ?_)
    rintro e w3 ⟨⟨A2, m2, c2, b, e1, rfl, ho2, hMk⟩, hE3⟩
    have hE03 := hE02.trans hE3
    have HX6 : Hid (x.length ≤ 1000000) := by show _ ≤ _; have := HX.out; omega
    have HY6 : Hid (y.length ≤ 1000000) := by show _ ≤ _; have := HY.out; omega
    have hm2 : m2 ≤ 1000000 := by have h1 := ho2.len; have h2 := (made_len hMk).2; have h3 := HY.out; omega
    have HMK := Lib.hid hMk
    clear hMk HF
    go_wp2_with (first
      | (go_at_call 11; refine Hid.out ?_))
    refine Hid.mk_ ((papply_any c c2 (ha.ext hE03) hmc (by omega) ho2.sl ho2.cap hm2 (hT.ext hE03)).mono ?_)
    rintro e w4 ⟨⟨A3, m3, c3, l3, code, rfl, ho3, hA3⟩, hE4⟩
    obtain ⟨h1, h2⟩ := Prod.mk.inj (ap_make HMK.out HX6.out HY6.out hA3)
    subst h2
    have H1 := Lib.hid h1
    clear hA3 h1
    have hE04 := hE03.trans hE4
    go_wp2_with (first
      | (go_at_call 13; refine Hid.out ?_))
    refine Hid.mk_ ((rapply_any c c2 (ha.ext hE04) hmc (by omega) (ho2.sl.ext hE4) ho2.cap hm2).mono ?_)
    rintro e w5 ⟨⟨A4, m4, c4, l4, code4, rfl, hs4, hA4⟩, hE5⟩
    obtain ⟨h1, h2⟩ := Prod.mk.inj (ap_make HMK.out HX6.out HY6.out hA4)
    subst h2
    have H2 := Lib.hid h1
    clear hA4 h1
    have hE05 := hE04.trans hE5
    go_wp2_with (first
      | (go_at_call 14; refine Hid.out ?_))
    refine Hid.mk_ ((psizes_any c2 ((ho2.sl.ext hE4).ext hE5) ho2.cap hm2 (hT.ext hE05)).mono ?_)
    rintro e w6 ⟨⟨o, n, code6, rfl, hS6⟩, hE6⟩
    obtain ⟨h1, h2, h3⟩ := sz_make HMK.out HX6.out HY6.out hS6
    rw [← HX.out] at h1
    rw [← HY.out] at h2
    subst h1 h2 h3
    have hE06 := hE05.trans hE6
    have hs3 := ((ho3.sl.ext hE5).ext hE6)
    have hs4' := hs4.ext hE6
    have hy6 := hb.ext hE06
    clear hS6 ho3 hs4 ho2
    go_wp2_with (first
      | (go_at_call 12; refine Hid.out ?_))
    refine Hid.mk_ ((same3B c3 d hs3 hy6).mono ?_)
    rintro e w7 ⟨rfl, hE7⟩
    rw [decide_eq_true H1.out]
    go_wp2_with (first
      | (go_at_call 12; refine Hid.out ?_))
    refine Hid.mk_ ((same3B c4 d (hs4'.ext hE7) (hy6.ext hE7)).mono ?_)
    rintro e w8 ⟨rfl, hE8⟩
    rw [decide_eq_true H2.out]
    go_wp2
    go_ret
    exact ⟨rfl, (hE06.trans hE7).trans hE8⟩

set_option maxRecDepth 100000 in
theorem liftedPatchMake (os : Os) (started : os.Started) (H : Type) (enc : TypeId × Value → H) :
    ReturnsInHanded {} Tryd.checked os 7 .any (fun w args => (Rows.patchMakeSpec.pre enc Tryd.prog Tryd.f7 [] false w args ∧ laidMetH Tryd.prog laidL w) ∧ sizedMet enc Tryd.prog Tryd.f7 (OpenSpec.ofChange Rows.patchMakeSpec) false w args) (Rows.patchMakeSpec.post enc Tryd.prog Tryd.f7 false true false false) := by
  refine returnsInHanded_of_change_and (C := Tryd.checked) (X := fun w _ => laidMetH Tryd.prog laidL w) (fun _ _ _ hh h => h.of_heap hh) ownK started (by kernel_rfl) Tryd.func7
    (ChangeSpec.witness_shaped (enc := enc) (C := Tryd.checked) (os := os) (X := fun w _ => laidMetH Tryd.prog laidL w) false (World.laidAll Tryd.prog os laidL) #[.slice none 0 0, .slice none 0 0] 8 (World.laidAll_os _ _ _)
      (World.shaped_of_ZipB (by kernel_rfl) (by kernel_rfl)) (by kernel_rfl) (by kernel_rfl) (by kernel_rfl)
      (by rw [MakeChecks.laidMetH_plain _ _ _ (by kernel_rfl)]; exact laidMet_laidAll _ (by kernel_rfl) (by kernel_rfl))) ?_
  intro W base args ds gs before hval0 hW hcnd hsz0 hL _
  have hT := tb_of_laid hL
  have hval : ∀ (j : Nat) t v, Tryd.f7.params[j]? = some t → args[j]? = some v → Value.okWide Tryd.prog W .any base t v := hval0
  have hW' := hW
  obtain ⟨p, q, hA0, hV, rfl, hfz, hnd⟩ := hW
  have hA : DataW.TrodAll enc Tryd.prog W 0 (fun _ => true) true Tryd.f7.params.toList args.toList ds p := hA0
  have hsz : (DataW.weightsEach Tryd.prog (Tryd.f7.params.toList ++ Rows.patchMakeSpec.plain.varTypes Tryd.prog) (ds ++ gs)).all (· ≤ reachBytes) = true := hsz0
  rw [Tryd.params7] at hA hval hsz
  obtain ⟨v0, vs0, d0, ds0, p0, q0, hargs0, rfl, rfl, h0, r0⟩ := trodAll_cons hA
  obtain ⟨v1, vs1, d1, ds1, p1, q1, hargs1, rfl, rfl, h1, r1⟩ := trodAll_cons r0
  obtain ⟨rfl, rfl, rfl⟩ := trodAll_nil r1
  obtain rfl : args = #[v0, v1] := by cases args; simp_all
  obtain ⟨rfl, rfl⟩ := trodVars_none hV
  have k0 := h0
  have lt0 : ∀ x ∈ p0, x.block < W.heap.size := by obtain ⟨m, hm⟩ := k0; exact DataW.trod_lt m _ _ _ hm
  have k1 := h1
  have lt1 : ∀ x ∈ p1, x.block < W.heap.size := by obtain ⟨m, hm⟩ := k1; exact DataW.trod_lt m _ _ _ hm
  obtain ⟨A0, m0, c0, l0, rfl, w0, hc0, hb0⟩ := opn_top_bytes (hval 0 22 v0 rfl rfl) h0 (WOk.top hsz (j := 0) rfl rfl)
  obtain ⟨A1, m1, c1, l1, rfl, w1, hc1, hb1⟩ := opn_top_bytes (hval 1 22 v1 rfl rfl) h1 (WOk.top hsz (j := 1) rfl rfl)
  clear hA0 hval0
  refine (pmake_walk w0 w1 hc0 hc1 hT).mono fun e W' ⟨he, bel⟩ => ?_
  subst he
  exact ⟨_, rfl, _, _, _, [], _, [], hW', trodAll_mk1 (shut_bool Tryd.underlying4 _), (trodAll_cons_mk (Below.trod laidK (by kernel_rfl) (of_decide_eq_true (by kernel_rfl)) k0 bel lt0) (trodAll_cons_mk (Below.trod laidK (by kernel_rfl) (of_decide_eq_true (by kernel_rfl)) k1 bel lt1) trodAll_mk0)), rfl, Below.frame bel _, fun h => by cases h⟩
theorem PatchMake_row : Rows.PatchMakeSaid :=
  OpenClaim.holds_of_wide 7 Tryd.f7 rfl rfl rfl rfl rfl rfl rfl ⟨rfl, rfl, rfl, rfl, rfl⟩ rfl rfl rfl rfl rfl (by kernel_rfl) Tryd.func7 (by kernel_rfl)
    (of_decide_eq_true (by kernel_rfl)) (by unfold Func.isWrapper; rw [if_neg (of_decide_eq_false (by kernel_rfl))]; exact ⟨rfl, rfl⟩)
    (fun os started H enc _ => liftedPatchMake os started H enc)
theorem PatchMake_holds : Rows.PatchMakeCardSaid :=
  Claim7.holds_tied_plain_at .later [] Rows.patchMakeCard.laidKinds true Rows.patchMakeCard.stood.harness Rows.patchMakeCard.stood.looks
    PatchMake_row (fun _ h => by cases h) (by kernel_rfl) (fun _ h => by cases h) patchMake_row_tie rfl ⟨rfl, rfl⟩ (by kernel_rfl) rfl
    (fun f fn hf hfn => by
      obtain rfl : f = 7 := Option.some.inj ((show Tryd.prog.funcNamed Rows.patchMakeRow.func = some 7 by kernel_rfl).symm.trans hf) |>.symm
      obtain rfl : fn = Tryd.f7 := (Option.some.inj (Tryd.func7.symm.trans hfn)).symm
      exact ⟨by kernel_rfl, fun j t ht => by
        rw [Tryd.params7] at ht
        have hm : t ∈ [22] := by simpa using Array.mem_of_getElem? ht
        have hall : ([22].all fun u => !Tryd.prog.wantsStandIn u) = true := by kernel_rfl
        exact (show Tryd.prog.wantsStandIn t = false by simpa using List.all_eq_true.1 hall t hm)⟩)
    (by kernel_rfl)
#print axioms PatchMake_holds

end Go.Proofs.YtghndnacmpckbaaDoor
