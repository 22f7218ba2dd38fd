/- Proper fields stay proper; what was set is found, and what was dropped is not; dropping a new field restores the fields. No condition. -/
import Derived.Test.YtikbjaopcminaaaDoorCatF2
import Derived.ProofKit
import Derived.OpenShut
import Derived.ShutString
import Derived.ChangeOld
import Derived.SizedLaws
namespace Go.Proofs.YtikbjaopcminaaaDoor
open Go.ChangeShapes Go.WideShapes Go.ChangeAt Go.RowKit
set_option maxRecDepth 100000
attribute [local go_sem] ext_refl_t ext_alloc_t ext_drew_t ext_drewN_t ext_alloc2_t ext_alloc3_t ext_alloc4_t ext_alloc5_t ext_alloc6_t ext_alloc7_t ext_alloc8_t ext_alloc1d_t ext_alloc2d_t ext_alloc3d_t ext_alloc4d_t
def laidL2 : List (String × DataW Unit) := Rows.catalogSetsRow.laid
theorem tabs2 {W : World} (h : laidMetH Tryd.prog laidL2 W) : Tabs W := tabs_of_laid h
set_option maxHeartbeats 12800000 in
theorem setslaw_walk {w : World} {A : Option Addr} {m c : Nat} {l : List Fd} (hs : FdsW w ⟨A, m, c⟩ l) (n v : ByteArray) (hn : GoodStr n) (hv : GoodStr v) (hT : Tabs w) :
    Calls Tryd.prog 11 #[.slice A m c, .string n, .string v] w fun e w' => e = .returned (.bool true) ∧ Ext w w' := by
  have HL : Hid (m = l.length) := hs.sl.len
  have HG := Lib.hid hs.good
  have hcap : m ≤ c := hs.cap
  go_enter Tryd.func11, Tryd.ntmps11
  go_wp2_with (first
    | (go_at_call 12; refine Hid.out ?_))
  refine Hid.mk_ ((awake_cat hT).mono ?_)
  rintro e w1 ⟨rfl, hE1⟩
  go_wp2_with (first
    | (go_at_call 50; refine Hid.out ?_))
  refine Hid.mk_ ((rfields_any (hs.ext hE1)).mono ?_)
  rintro e w2 ⟨rfl, hE2⟩
  have hE02 := hE1.trans hE2
  cases hf1 : fieldsP l with
  | false =>
    clear hf1
    go_wp2
    go_ret
    exact ⟨rfl, hE02⟩
  | true =>
  by_cases h19 : 19 < m
  · have h19i : (19 : Int) < (m : Int) := by omega
    clear hf1
    go_wp2
    go_ret
    exact ⟨rfl, hE02⟩
  have h19i : ¬ (19 : Int) < (m : Int) := by omega
  have hm19 : m ≤ 19 := by omega
  have HF1 := Lib.hid hf1
  clear h19 hf1
  go_wp2_with (first
    | (go_at_call 14; refine Hid.out ?_))
  refine Hid.mk_ ((refName_any n (Nat.le_trans hn (by omega))).mono ?_)
  rintro e w3 ⟨rfl, hE3⟩
  have hE03 := hE02.trans hE3
  cases hf1 : nameL (bys n) with
  | false =>
    clear hf1
    go_wp2
    go_ret
    exact ⟨rfl, hE03⟩
  | true =>
  have HF2 := Lib.hid hf1
  clear hf1
  go_wp2_with (first
    | (go_at_call 18; refine Hid.out ?_))
  refine Hid.mk_ ((refText_any v).mono ?_)
  rintro e w4 ⟨rfl, hE4⟩
  have hE04 := hE03.trans hE4
  cases hf1 : textL (bys v) with
  | false =>
    clear hf1
    go_wp2
    go_ret
    exact ⟨rfl, hE04⟩
  | true =>
  have HF3 := Lib.hid hf1
  clear hf1
  have hfe := fewEntry_any (entF_W (hs.ext hE04))
  unfold entF entV at hfe
  go_wp2_with (first
    | (go_at_call 20; refine Hid.out ?_))
  refine Hid.mk_ ((hfe).mono ?_)
  rintro e w5 ⟨rfl, hE5⟩
  clear hfe
  have hE05 := hE04.trans hE5
  cases hf1 : fewE _ with
  | false =>
    clear hf1
    go_wp2
    go_ret
    exact ⟨rfl, hE05⟩
  | true =>
  clear hf1
  have HSL : Hid (SlC fdC 2 w A m l) := hs.sl
  go_wp2_with (first
    | (go_at_call 46; refine Hid.out ?_))
  refine Hid.mk_ ((psetF_any (hs.ext hE05) n v (by show m ≤ 4000; omega)).mono ?_)
  rintro e w6 ⟨⟨A2, m2, c2, L2, rfl, hR2, ho2⟩, hE6⟩
  have HW2 : Hid (FdsW w6 ⟨A2, m2, c2⟩ L2) := ho2.fds (by have h1 := ho2.len; have h2 := hR2.len; have h3 := HL.out; omega) (hR2.good HG.out hn hv)
  have HM2 : Hid (m2 ≤ 20) := by show _ ≤ _; have h1 := ho2.len; have h2 := hR2.len; have h3 := HL.out; omega
  have HALL : Hid (fieldsP L2 = true ∧ FldR L2 n (some v) ∧ dropFd L2 n = dropFd l n) := hR2.sets HF1.out (by have := HL.out; omega) HF2.out HF3.out
  have HG2 : Hid (∀ x ∈ L2, GoodFd x) := hR2.good HG.out hn hv
  have hE06 := hE05.trans hE6
  clear hR2 ho2 hs
  go_wp2_with (first
    | (go_at_call 43; refine Hid.out ?_))
  refine Hid.mk_ ((pfield_any HW2.out.sl n).mono ?_)
  rintro e w7 ⟨⟨o, ho, rfl⟩, hE7⟩
  obtain rfl := ho.uniq HALL.out.2.1
  have HV1 : Hid (FldV (some v) = .tuple #[.string v, .bool true]) := rfl
  rw [HV1.out]
  have hE07 := hE06.trans hE7
  clear ho
  go_wp2_with (first
    | (go_at_call 48; refine Hid.out ?_))
  refine Hid.mk_ ((pdropF_any (HW2.out.ext hE7) n (Nat.le_trans HM2.out (by omega))).mono ?_)
  rintro e w8 ⟨⟨A4, m4, c4, rfl, ho4⟩, hE8⟩
  have HW4 : Hid (FdsW w8 ⟨A4, m4, c4⟩ (dropFd L2 n)) := ho4.fds (by have h1 := ho4.len; have h2 := dropFd_len L2 n; have h3 := HW2.out.sl.len; have h5 := HM2.out; dsimp only at h3; omega) (dropFd_good HG2.out)
  have hE68 := hE7.trans hE8
  have hE08 := hE07.trans hE8
  clear ho4
  go_wp2_with (first
    | (go_at_call 43; refine Hid.out ?_))
  refine Hid.mk_ ((pfield_any HW4.out.sl n).mono ?_)
  rintro e w9 ⟨⟨o, ho, rfl⟩, hE9⟩
  obtain rfl := ho.uniq (fldR_dropped L2 n)
  have HV2 : Hid (FldV none = .tuple #[.string ⟨#[]⟩, .bool false]) := rfl
  rw [HV2.out]
  have hE69 := hE68.trans hE9
  have hE09 := hE08.trans hE9
  have hb1 : (v.toList == v.toList) = true := by simp
  clear ho
  have hq1 := rfields_any (HW2.out.ext hE69)
  rw [HALL.out.1] at hq1
  go_wp2_with (first
    | (go_at_call 50; refine Hid.out ?_))
  refine Hid.mk_ ((hq1).mono ?_)
  rintro e wa ⟨rfl, hEa⟩
  have hE9a := hE9.trans hEa
  have hE0a := hE09.trans hEa
  clear hq1
  go_wp2_with (first
    | (go_at_call 49; refine Hid.out ?_))
  refine Hid.mk_ ((rdropF_any (HSL.out.ext hE0a) n (by omega)).mono ?_)
  rintro e wb ⟨⟨A5, m5, c5, rfl, ho5⟩, hEb⟩
  have HW5 : Hid (FdsW wb ⟨A5, m5, c5⟩ (dropFd l n)) := ho5.fds (by have h1 := ho5.len; have h2 := dropFd_len l n; have h3 := HL.out; omega) (dropFd_good HG.out)
  have hE9b := hE9a.trans hEb
  have hE0b := hE0a.trans hEb
  clear ho5
  have hq2 := rsameF_any (HW4.out.ext hE9b) HW5.out
  rw [decide_eq_true HALL.out.2.2] at hq2
  go_wp2_with (first
    | (go_at_call 45; refine Hid.out ?_))
  refine Hid.mk_ ((hq2).mono ?_)
  rintro e wc ⟨rfl, hEc⟩
  have hE9c := hE9b.trans hEc
  have hE0c := hE0b.trans hEc
  clear hq2
  have hq3 := rfields_any (HW4.out.ext hE9c)
  rw [dropFd_ok HALL.out.1 n] at hq3
  go_wp2_with (first
    | (go_at_call 50; refine Hid.out ?_))
  refine Hid.mk_ ((hq3).mono ?_)
  rintro e wd ⟨rfl, hEd⟩
  go_wp2
  go_ret
  exact ⟨rfl, hE0c.trans hEd⟩

set_option maxRecDepth 100000 in
theorem liftedCatalogSets (os : Os) (started : os.Started) (H : Type) (enc : TypeId × Value → H) :
    ReturnsInHanded {} Tryd.checked os 11 .any (fun w args => (Rows.catalogSetsSpec.pre enc Tryd.prog Tryd.f11 [] false w args ∧ laidMetH Tryd.prog laidL2 w) ∧ sizedMet enc Tryd.prog Tryd.f11 (OpenSpec.ofChange Rows.catalogSetsSpec) false w args) (Rows.catalogSetsSpec.post enc Tryd.prog Tryd.f11 false true false false) := by
  refine returnsInHanded_of_change_and (C := Tryd.checked) (X := fun w _ => laidMetH Tryd.prog laidL2 w) (fun _ _ _ hh h => h.of_heap hh) ownK started (by kernel_rfl) Tryd.func11
    (ChangeSpec.witness_shaped (enc := enc) (C := Tryd.checked) (os := os) (X := fun w _ => laidMetH Tryd.prog laidL2 w) false (World.laidAll Tryd.prog os laidL2) #[.slice none 0 0, .string ⟨#[]⟩, .string ⟨#[]⟩] 8 (World.laidAll_os _ _ _)
      (World.shaped_of_ZipB (by kernel_rfl) (by kernel_rfl)) (by kernel_rfl) (by kernel_rfl) (by kernel_rfl)
      (by rw [MakeChecks.laidMetH_plain _ _ _ (by kernel_rfl)]; exact laidMet_laidAll _ (by kernel_rfl) (by kernel_rfl))) ?_
  intro W base args ds gs before hval0 hW hcnd hsz0 hL _
  have hT := tabs2 hL
  have hval : ∀ (j : Nat) t v, Tryd.f11.params[j]? = some t → args[j]? = some v → Value.okWide Tryd.prog W .any base t v := hval0
  have hW' := hW
  obtain ⟨p, q, hA0, hV, rfl, hfz, hnd⟩ := hW
  have hA : DataW.TrodAll enc Tryd.prog W 0 (fun _ => true) true Tryd.f11.params.toList args.toList ds p := hA0
  have hsz : (DataW.weightsEach Tryd.prog (Tryd.f11.params.toList ++ Rows.catalogSetsSpec.plain.varTypes Tryd.prog) (ds ++ gs)).all (· ≤ reachBytes) = true := hsz0
  rw [Tryd.params11] at hA hval hsz
  obtain ⟨v0, vs0, d0, ds0, p0, q0, hargs0, rfl, rfl, h0, r0⟩ := trodAll_cons hA
  obtain ⟨v1, vs1, d1, ds1, p1, q1, hargs1, rfl, rfl, h1, r1⟩ := trodAll_cons r0
  obtain ⟨v2, vs2, d2, ds2, p2, q2, hargs2, rfl, rfl, h2, r2⟩ := trodAll_cons r1
  obtain ⟨rfl, rfl, rfl⟩ := trodAll_nil r2
  obtain rfl : args = #[v0, v1, v2] := by cases args; simp_all
  obtain ⟨rfl, rfl⟩ := trodVars_none hV
  have k0 := h0
  have lt0 : ∀ x ∈ p0, x.block < W.heap.size := by obtain ⟨m, hm⟩ := k0; exact DataW.trod_lt m _ _ _ hm
  have gs1 := h1
  have gs2 := h2
  obtain ⟨A0, m0, c0, l0, rfl, wf0, gf0, hc0, hb0⟩ := opn_top_slice Tryd.underlying25 opn_fields (hval 0 25 v0 rfl rfl) h0 (WOk.top hsz (j := 0) rfl rfl)
  have g0 : FdsW W ⟨A0, m0, c0⟩ l0 := ⟨wf0, hc0, Nat.le_trans (Nat.mul_le_mul_right _ hc0) hb0, gf0⟩
  replace gs1 := opn_top_str gs1 (WOk.top hsz (j := 1) rfl rfl)
  obtain ⟨s1, rfl, rfl, rfl, ws1⟩ := Go.ChangeMaps.open_string Tryd.underlying9 (hval 1 9 v1 rfl rfl) h1
  replace gs1 := gs1 s1 rfl
  replace gs2 := opn_top_str gs2 (WOk.top hsz (j := 2) rfl rfl)
  obtain ⟨s2, rfl, rfl, rfl, ws2⟩ := Go.ChangeMaps.open_string Tryd.underlying9 (hval 2 9 v2 rfl rfl) h2
  replace gs2 := gs2 s2 rfl
  clear hA0 hval0
  refine (setslaw_walk g0 s1 s2 gs1 gs2 hT).mono fun e W' ⟨he, bel⟩ => ?_
  subst he
  exact ⟨_, rfl, _, _, _, [], _, [], hW', trodAll_mk1 (shut_bool Tryd.underlying4 _), (trodAll_cons_mk (Below.trod laidK (by kernel_rfl) (of_decide_eq_true (by kernel_rfl)) k0 bel lt0) (trodAll_cons_mk (Go.ChangeMaps.shut_string Tryd.underlying9 ws1) (trodAll_cons_mk (Go.ChangeMaps.shut_string Tryd.underlying9 ws2) trodAll_mk0))), rfl, Below.frame bel _, fun h => by cases h⟩
theorem CatalogSets_row : Rows.CatalogSetsSaid :=
  OpenClaim.holds_of_wide 11 Tryd.f11 rfl rfl rfl rfl rfl rfl rfl ⟨rfl, rfl, rfl, rfl, rfl⟩ rfl rfl rfl rfl rfl (by kernel_rfl) Tryd.func11 (by kernel_rfl)
    (of_decide_eq_true (by kernel_rfl)) (by unfold Func.isWrapper; rw [if_neg (of_decide_eq_false (by kernel_rfl))]; exact ⟨rfl, rfl⟩)
    (fun os started H enc _ => liftedCatalogSets os started H enc)
theorem CatalogSets_holds : Rows.CatalogSetsCardSaid :=
  Claim7.holds_tied_plain_at .later [] Rows.catalogSetsCard.laidKinds true Rows.catalogSetsCard.stood.harness Rows.catalogSetsCard.stood.looks
    CatalogSets_row (fun _ h => by cases h) (by kernel_rfl) (fun _ h => by cases h) catalogSets_row_tie rfl ⟨rfl, rfl⟩ (by kernel_rfl) rfl
    (fun f fn hf hfn => by
      obtain rfl : f = 11 := Option.some.inj ((show Tryd.prog.funcNamed Rows.catalogSetsRow.func = some 11 by kernel_rfl).symm.trans hf) |>.symm
      obtain rfl : fn = Tryd.f11 := (Option.some.inj (Tryd.func11.symm.trans hfn)).symm
      exact ⟨by kernel_rfl, fun j t ht => by
        rw [Tryd.params11] at ht
        have hm : t ∈ [25, 9] := by simpa using Array.mem_of_getElem? ht
        have hall : ([25, 9].all fun u => !Tryd.prog.wantsStandIn u) = true := by kernel_rfl
        exact (show Tryd.prog.wantsStandIn t = false by simpa using List.all_eq_true.1 hall t hm)⟩)
    (by kernel_rfl)
#print axioms CatalogSets_holds

end Go.Proofs.YtikbjaopcminaaaDoor
