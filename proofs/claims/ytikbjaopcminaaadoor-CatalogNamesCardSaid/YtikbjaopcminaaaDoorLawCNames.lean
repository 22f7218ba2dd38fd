/- A text is a name, a tag, a text as specified. No condition. -/
import Derived.Test.YtikbjaopcminaaaDoorCatAw
import Derived.Test.YtikbjaopcminaaaDoorRTag
import Derived.Test.YtikbjaopcminaaaDoorCatCard
import Derived.ProofKit
import Derived.OpenShut
import Derived.ShutString
import Derived.ChangeOld
import Derived.SizedLaws
namespace Go.Proofs.YtikbjaopcminaaaDoor
open Go.ChangeShapes Go.WideShapes Go.ChangeAt Go.RowKit
set_option maxRecDepth 100000

set_option maxHeartbeats 1600000 in
theorem names_walk {w : World} (s : ByteArray) (hT : Tabs w) :
    Calls Tryd.prog 3 #[.string s] w fun e w' => e = .returned (.bool true) ∧ Ext w w' := by
  by_cases h1 : 5000 < s.size
  · have h1' : (5000 : Int) < (s.size : Int) := by omega
    go_enter Tryd.func3, Tryd.ntmps3
    go_wp2_with (first
      | (go_at_call 12; refine Hid.out ?_))
    refine Hid.mk_ ((awake_cat hT).mono ?_)
    rintro e w1 ⟨rfl, hE1⟩
    go_wp2
    go_ret
    exact ⟨rfl, hE1⟩
  · have h1' : ¬ (5000 : Int) < (s.size : Int) := by omega
    have HS := Lib.hid (show s.size ≤ 5000 by omega)
    clear h1
    go_enter Tryd.func3, Tryd.ntmps3
    go_wp2_with (first
      | (go_at_call 12; refine Hid.out ?_))
    refine Hid.mk_ ((awake_cat hT).mono ?_)
    rintro e w1 ⟨rfl, hE1⟩
    go_wp2_with (first
      | (go_at_call 13; refine Hid.out ?_))
    refine Hid.mk_ ((validName_any s (Nat.le_trans HS.out (by omega))).mono ?_)
    rintro e w2 ⟨rfl, hE2⟩
    go_wp2_with (first
      | (go_at_call 14; refine Hid.out ?_))
    refine Hid.mk_ ((refName_any s (Nat.le_trans HS.out (by omega))).mono ?_)
    rintro e w3 ⟨rfl, hE3⟩
    obtain ⟨x, hx⟩ : ∃ x, x = nameL (bys s) := ⟨_, rfl⟩
    rw [← hx]
    clear hx
    have hxx : (x == x) = true := by simp
    have hE13 := (hE1.trans hE2).trans hE3
    go_wp2_with (first
      | (go_at_call 15; refine Hid.out ?_))
    refine Hid.mk_ ((validTag_any s (Nat.le_trans HS.out (by omega))).mono ?_)
    rintro e w4 ⟨rfl, hE4⟩
    go_wp2_with (first
      | (go_at_call 16; refine Hid.out ?_))
    refine Hid.mk_ ((refTag_any s (Nat.le_trans HS.out (by omega))).mono ?_)
    rintro e w5 ⟨rfl, hE5⟩
    obtain ⟨y, hy⟩ : ∃ y, y = tagL (bys s) := ⟨_, rfl⟩
    rw [← hy]
    clear hy
    have hyy : (y == y) = true := by simp
    have hE15 := (hE13.trans hE4).trans hE5
    go_wp2_with (first
      | (go_at_call 17; refine Hid.out ?_))
    refine Hid.mk_ ((validText_any s (hT.ext hE15)).mono ?_)
    rintro e w6 ⟨rfl, hE6⟩
    go_wp2_with (first
      | (go_at_call 18; refine Hid.out ?_))
    refine Hid.mk_ ((refText_any s).mono ?_)
    rintro e w7 ⟨rfl, hE7⟩
    obtain ⟨z, hz⟩ : ∃ z, z = textL (bys s) := ⟨_, rfl⟩
    rw [← hz]
    clear hz
    have hzz : (z == z) = true := by simp
    go_wp2
    go_ret
    exact ⟨ret_bool (by simp), (hE15.trans hE6).trans hE7⟩

set_option maxRecDepth 100000 in
theorem liftedCatalogNames (os : Os) (started : os.Started) (H : Type) (enc : TypeId × Value → H) :
    ReturnsInHanded {} Tryd.checked os 3 .any (fun w args => (Rows.catalogNamesSpec.pre enc Tryd.prog Tryd.f3 [] false w args ∧ laidMetH Tryd.prog laidL w) ∧ sizedMet enc Tryd.prog Tryd.f3 (OpenSpec.ofChange Rows.catalogNamesSpec) false w args) (Rows.catalogNamesSpec.post enc Tryd.prog Tryd.f3 false true false false) := by
  refine returnsInHanded_of_change_and (C := Tryd.checked) (X := fun w _ => laidMetH Tryd.prog laidL w) (fun _ _ _ hh h => h.of_heap hh) ownK started (by kernel_rfl) Tryd.func3
    (ChangeSpec.witness_shaped (enc := enc) (C := Tryd.checked) (os := os) (X := fun w _ => laidMetH Tryd.prog laidL w) false (World.laidAll Tryd.prog os laidL) #[.string ⟨#[]⟩] 8 (World.laidAll_os _ _ _)
      (World.shaped_of_ZipB (by kernel_rfl) (by kernel_rfl)) (by kernel_rfl) (by kernel_rfl) (by kernel_rfl)
      (by rw [MakeChecks.laidMetH_plain _ _ _ (by kernel_rfl)]; exact laidMet_laidAll _ (by kernel_rfl) (by kernel_rfl))) ?_
  intro W base args ds gs before hval0 hW hcnd hsz0 hL _
  have hT := tabs_of_laid hL
  have hval : ∀ (j : Nat) t v, Tryd.f3.params[j]? = some t → args[j]? = some v → Value.okWide Tryd.prog W .any base t v := hval0
  have hW' := hW
  obtain ⟨p, q, hA0, hV, rfl, hfz, hnd⟩ := hW
  have hA : DataW.TrodAll enc Tryd.prog W 0 (fun _ => true) true Tryd.f3.params.toList args.toList ds p := hA0
  have hsz : (DataW.weightsEach Tryd.prog (Tryd.f3.params.toList ++ Rows.catalogNamesSpec.plain.varTypes Tryd.prog) (ds ++ gs)).all (· ≤ reachBytes) = true := hsz0
  rw [Tryd.params3] at hA hval hsz
  obtain ⟨v0, vs0, d0, ds0, p0, q0, hargs0, rfl, rfl, h0, r0⟩ := trodAll_cons hA
  obtain ⟨rfl, rfl, rfl⟩ := trodAll_nil r0
  obtain rfl : args = #[v0] := by cases args; simp_all
  obtain ⟨rfl, rfl⟩ := trodVars_none hV
  obtain ⟨s0, rfl, rfl, rfl, ws0⟩ := Go.ChangeMaps.open_string Tryd.underlying9 (hval 0 9 v0 rfl rfl) h0
  clear hA0 hval0
  refine (names_walk s0 hT).mono fun e W' ⟨he, bel⟩ => ?_
  subst he
  exact ⟨_, rfl, _, _, _, [], _, [], hW', trodAll_mk1 (shut_bool Tryd.underlying4 _), (trodAll_cons_mk (Go.ChangeMaps.shut_string Tryd.underlying9 ws0) trodAll_mk0), rfl, Below.frame bel _, fun h => by cases h⟩
theorem CatalogNames_row : Rows.CatalogNamesSaid :=
  OpenClaim.holds_of_wide 3 Tryd.f3 rfl rfl rfl rfl rfl rfl rfl ⟨rfl, rfl, rfl, rfl, rfl⟩ rfl rfl rfl rfl rfl (by kernel_rfl) Tryd.func3 (by kernel_rfl)
    (of_decide_eq_true (by kernel_rfl)) (by unfold Func.isWrapper; rw [if_neg (of_decide_eq_false (by kernel_rfl))]; exact ⟨rfl, rfl⟩)
    (fun os started H enc _ => liftedCatalogNames os started H enc)
theorem CatalogNames_holds : Rows.CatalogNamesCardSaid :=
  Claim7.holds_tied_plain_at .later [] Rows.catalogNamesCard.laidKinds true Rows.catalogNamesCard.stood.harness Rows.catalogNamesCard.stood.looks
    CatalogNames_row (fun _ h => by cases h) (by kernel_rfl) (fun _ h => by cases h) catalogNames_row_tie rfl ⟨rfl, rfl⟩ (by kernel_rfl) rfl
    (fun f fn hf hfn => by
      obtain rfl : f = 3 := Option.some.inj ((show Tryd.prog.funcNamed Rows.catalogNamesRow.func = some 3 by kernel_rfl).symm.trans hf) |>.symm
      obtain rfl : fn = Tryd.f3 := (Option.some.inj (Tryd.func3.symm.trans hfn)).symm
      exact ⟨by kernel_rfl, fun j t ht => by
        rw [Tryd.params3] at ht
        have hm : t ∈ [9] := by simpa using Array.mem_of_getElem? ht
        have hall : ([9].all fun u => !Tryd.prog.wantsStandIn u) = true := by kernel_rfl
        exact (show Tryd.prog.wantsStandIn t = false by simpa using List.all_eq_true.1 hall t hm)⟩)
    (by kernel_rfl)
#print axioms CatalogNames_holds

end Go.Proofs.YtikbjaopcminaaaDoor
