/- Field, SetField and DropField return the specified results for any fields. No condition. -/
import Derived.Test.YtikbjaopcminaaaDoorCatF2
import Derived.ProofKit
import Derived.OpenShut
import Derived.ShutString
import Derived.ChangeOld
import Derived.SizedLaws
namespace Go.Proofs.YtikbjaopcminaaaDoor
open Go.ChangeShapes Go.WideShapes Go.ChangeAt Go.RowKit
set_option maxRecDepth 100000
attribute [local go_sem] ext_refl_t ext_alloc_t ext_drew_t ext_drewN_t ext_alloc2_t ext_alloc3_t ext_alloc4_t ext_alloc5_t ext_alloc6_t ext_alloc7_t ext_alloc8_t ext_alloc1d_t ext_alloc2d_t ext_alloc3d_t ext_alloc4d_t
def laidL2 : List (String × DataW Unit) := Rows.catalogFieldsRow.laid
theorem tabs2 {W : World} (h : laidMetH Tryd.prog laidL2 W) : Tabs W := tabs_of_laid h
set_option maxHeartbeats 12800000 in
theorem fieldslaw_walk {w : World} {A : Option Addr} {m c : Nat} {l : List Fd} (hs : FdsW w ⟨A, m, c⟩ l) (n v : ByteArray) (hn : GoodStr n) (hv : GoodStr v) (hT : Tabs w) :
    Calls Tryd.prog 10 #[.slice A m c, .string n, .string v] w fun e w' => e = .returned (.bool true) ∧ Ext w w' := by
  have HL : Hid (m = l.length) := hs.sl.len
  have HG := Lib.hid hs.good
  have hcap : m ≤ c := hs.cap
  go_enter Tryd.func10, Tryd.ntmps10
  go_wp2_with (first
    | (go_at_call 12; refine Hid.out ?_))
  refine Hid.mk_ ((awake_cat hT).mono ?_)
  rintro e w1 ⟨rfl, hE1⟩
  have hfe := fewEntry_any (entF_W (hs.ext hE1))
  unfold entF entV at hfe
  go_wp2_with (first
    | (go_at_call 20; refine Hid.out ?_))
  refine Hid.mk_ ((hfe).mono ?_)
  rintro e w2 ⟨rfl, hE2⟩
  clear hfe
  have hE02 := hE1.trans hE2
  cases hf1 : fewE _ with
  | false =>
    clear hf1
    go_wp2
    go_ret
    exact ⟨rfl, hE02⟩
  | true =>
  clear hf1
  by_cases h20 : 20 < m
  · have h20i : (20 : Int) < (m : Int) := by omega
    go_wp2
    go_ret
    exact ⟨rfl, hE02⟩
  have h20i : ¬ (20 : Int) < (m : Int) := by omega
  have hm20 : m ≤ 20 := by omega
  clear h20
  have ho0 := OsC.new0 (cs := fdC) (e := 72) (k := 2) w2 w2.heap.size (Nat.le_refl _) fdC_len fdC_cell
  have hEa : Ext w2 (w2.alloc (.cells #[] 72)) := (Ext.refl w2).alloc _
  go_wp2_with (first
    | (at_builtin; refine Hid.out ?_))
  refine Hid.mk_ ?_
  refine (appC einfo_fd) rfl _ _ rfl ho0 rfl (hs.sl.ext (hE02.trans hEa)) rfl (by show (0 + m) * 32 ≤ _; omega) hEa.size_le ?_
  intro A1 m1 c1 w3 ho1 hg1 hat1
  have hE3 : Ext w2 w3 := hEa.grown hg1 (by simp [ob])
  rw [List.nil_append] at ho1
  have hm1 : m1 ≤ 20 := by have h1 := ho1.len; have h2 := HL.out; omega
  have hE03 := hE02.trans hE3
  have HI1 : Hid (FdsW w3 ⟨A1, m1, c1⟩ l) := ho1.fds (by omega) HG.out
  have HSL : Hid (SlC fdC 2 w A m l) := hs.sl
  have HS0 := Lib.hid hs
  clear ho0 hEa hg1 hat1 hs ho1
  go_wp2_with (first
    | (go_at_call 43; refine Hid.out ?_))
  refine Hid.mk_ ((pfield_any HI1.out.sl n).mono ?_)
  rintro e w4 ⟨⟨o, ho, rfl⟩, hE4⟩
  have hE34 := hE4
  have hE04 := hE03.trans hE4
  obtain ⟨so, bo, HFV⟩ : ∃ so bo, Hid (FldV o = .tuple #[.string so, .bool bo]) := ⟨_, _, Lib.hid rfl⟩
  rw [HFV.out]
  go_wp2_with (first
    | (go_at_call 44; refine Hid.out ?_))
  refine Hid.mk_ ((rfield_any (HSL.out.ext hE04) n).mono ?_)
  rintro e w5 ⟨⟨o', ho', rfl⟩, hE5⟩
  obtain rfl := ho.uniq ho'
  rw [HFV.out]
  have hE35 := hE34.trans hE5
  have hE05 := hE04.trans hE5
  have hb1 : (so.toList == so.toList) = true := by simp
  have hb2 : (bo == bo) = true := by simp
  clear ho ho'
  go_wp2_with (first
    | (go_at_call 46; refine Hid.out ?_))
  refine Hid.mk_ ((psetF_any (HI1.out.ext hE35) n v (by show m1 ≤ 4000; omega)).mono ?_)
  rintro e w6 ⟨⟨A2, m2, c2, L2, rfl, hR2, ho2⟩, hE6⟩
  have HW2 : Hid (FdsW w6 ⟨A2, m2, c2⟩ L2) := ho2.fds (by have h1 := ho2.len; have h2 := hR2.len; have h3 := HL.out; omega) (hR2.good HG.out hn hv)
  have hE36 := hE35.trans hE6
  have hE06 := hE05.trans hE6
  have HR2 := Lib.hid hR2
  clear hR2 ho2
  go_wp2_with (first
    | (go_at_call 47; refine Hid.out ?_))
  refine Hid.mk_ ((rsetF_any (HSL.out.ext hE06) hcap n v (by omega)).mono ?_)
  rintro e w7 ⟨⟨A3, m3, c3, L3, rfl, hR3, ho3⟩, hE7⟩
  obtain rfl := HR2.out.uniq hR3
  have HW3 : Hid (FdsW w7 ⟨A3, m3, c3⟩ L2) := ho3.fds (by have h1 := ho3.len; have h2 := hR3.len; have h3 := HL.out; omega) (hR3.good HG.out hn hv)
  have hE37 := hE36.trans hE7
  have hE07 := hE06.trans hE7
  clear hR3 ho3
  have hq1 := rsameF_any (HW2.out.ext hE7) HW3.out
  rw [decide_eq_true (rfl : L2 = L2)] at hq1
  go_wp2_with (first
    | (go_at_call 45; refine Hid.out ?_))
  refine Hid.mk_ ((hq1).mono ?_)
  rintro e w8 ⟨rfl, hE8⟩
  have hE38 := hE37.trans hE8
  have hE08 := hE07.trans hE8
  clear hq1
  go_wp2_with (first
    | (go_at_call 48; refine Hid.out ?_))
  refine Hid.mk_ ((pdropF_any (HI1.out.ext hE38) n (by show m1 ≤ 4000; omega)).mono ?_)
  rintro e w9 ⟨⟨A4, m4, c4, rfl, ho4⟩, hE9⟩
  have HW4 : Hid (FdsW w9 ⟨A4, m4, c4⟩ (dropFd l n)) := ho4.fds (by have h1 := ho4.len; have h2 := dropFd_len l n; have h3 := HL.out; omega) (dropFd_good HG.out)
  have hE39 := hE38.trans hE9
  have hE09 := hE08.trans hE9
  clear ho4
  go_wp2_with (first
    | (go_at_call 49; refine Hid.out ?_))
  refine Hid.mk_ ((rdropF_any (HSL.out.ext hE09) n (by omega)).mono ?_)
  rintro e wa ⟨⟨A5, m5, c5, rfl, ho5⟩, hEa⟩
  have HW5 : Hid (FdsW wa ⟨A5, m5, c5⟩ (dropFd l n)) := ho5.fds (by have h1 := ho5.len; have h2 := dropFd_len l n; have h3 := HL.out; omega) (dropFd_good HG.out)
  have hE3a := hE39.trans hEa
  have hE0a := hE09.trans hEa
  clear ho5
  have hq2 := rsameF_any (HW4.out.ext hEa) HW5.out
  rw [decide_eq_true (rfl : dropFd l n = dropFd l n)] at hq2
  go_wp2_with (first
    | (go_at_call 45; refine Hid.out ?_))
  refine Hid.mk_ ((hq2).mono ?_)
  rintro e wb ⟨rfl, hEb⟩
  have hE3b := hE3a.trans hEb
  have hE0b := hE0a.trans hEb
  clear hq2
  have hq3 := rsameF_any (HI1.out.ext hE3b) (HS0.out.ext hE0b)
  rw [decide_eq_true (rfl : l = l)] at hq3
  go_wp2_with (first
    | (go_at_call 45; refine Hid.out ?_))
  refine Hid.mk_ ((hq3).mono ?_)
  rintro e wc ⟨rfl, hEc⟩
  go_wp2
  go_ret
  exact ⟨rfl, hE0b.trans hEc⟩

set_option maxRecDepth 100000 in
theorem liftedCatalogFields (os : Os) (started : os.Started) (H : Type) (enc : TypeId × Value → H) :
    ReturnsInHanded {} Tryd.checked os 10 .any (fun w args => (Rows.catalogFieldsSpec.pre enc Tryd.prog Tryd.f10 [] false w args ∧ laidMetH Tryd.prog laidL2 w) ∧ sizedMet enc Tryd.prog Tryd.f10 (OpenSpec.ofChange Rows.catalogFieldsSpec) false w args) (Rows.catalogFieldsSpec.post enc Tryd.prog Tryd.f10 false true false false) := by
  refine returnsInHanded_of_change_and (C := Tryd.checked) (X := fun w _ => laidMetH Tryd.prog laidL2 w) (fun _ _ _ hh h => h.of_heap hh) ownK started (by kernel_rfl) Tryd.func10
    (ChangeSpec.witness_shaped (enc := enc) (C := Tryd.checked) (os := os) (X := fun w _ => laidMetH Tryd.prog laidL2 w) false (World.laidAll Tryd.prog os laidL2) #[.slice none 0 0, .string ⟨#[]⟩, .string ⟨#[]⟩] 8 (World.laidAll_os _ _ _)
      (World.shaped_of_ZipB (by kernel_rfl) (by kernel_rfl)) (by kernel_rfl) (by kernel_rfl) (by kernel_rfl)
      (by rw [MakeChecks.laidMetH_plain _ _ _ (by kernel_rfl)]; exact laidMet_laidAll _ (by kernel_rfl) (by kernel_rfl))) ?_
  intro W base args ds gs before hval0 hW hcnd hsz0 hL _
  have hT := tabs2 hL
  have hval : ∀ (j : Nat) t v, Tryd.f10.params[j]? = some t → args[j]? = some v → Value.okWide Tryd.prog W .any base t v := hval0
  have hW' := hW
  obtain ⟨p, q, hA0, hV, rfl, hfz, hnd⟩ := hW
  have hA : DataW.TrodAll enc Tryd.prog W 0 (fun _ => true) true Tryd.f10.params.toList args.toList ds p := hA0
  have hsz : (DataW.weightsEach Tryd.prog (Tryd.f10.params.toList ++ Rows.catalogFieldsSpec.plain.varTypes Tryd.prog) (ds ++ gs)).all (· ≤ reachBytes) = true := hsz0
  rw [Tryd.params10] at hA hval hsz
  obtain ⟨v0, vs0, d0, ds0, p0, q0, hargs0, rfl, rfl, h0, r0⟩ := trodAll_cons hA
  obtain ⟨v1, vs1, d1, ds1, p1, q1, hargs1, rfl, rfl, h1, r1⟩ := trodAll_cons r0
  obtain ⟨v2, vs2, d2, ds2, p2, q2, hargs2, rfl, rfl, h2, r2⟩ := trodAll_cons r1
  obtain ⟨rfl, rfl, rfl⟩ := trodAll_nil r2
  obtain rfl : args = #[v0, v1, v2] := by cases args; simp_all
  obtain ⟨rfl, rfl⟩ := trodVars_none hV
  have k0 := h0
  have lt0 : ∀ x ∈ p0, x.block < W.heap.size := by obtain ⟨m, hm⟩ := k0; exact DataW.trod_lt m _ _ _ hm
  have gs1 := h1
  have gs2 := h2
  obtain ⟨A0, m0, c0, l0, rfl, wf0, gf0, hc0, hb0⟩ := opn_top_slice Tryd.underlying25 opn_fields (hval 0 25 v0 rfl rfl) h0 (WOk.top hsz (j := 0) rfl rfl)
  have g0 : FdsW W ⟨A0, m0, c0⟩ l0 := ⟨wf0, hc0, Nat.le_trans (Nat.mul_le_mul_right _ hc0) hb0, gf0⟩
  replace gs1 := opn_top_str gs1 (WOk.top hsz (j := 1) rfl rfl)
  obtain ⟨s1, rfl, rfl, rfl, ws1⟩ := Go.ChangeMaps.open_string Tryd.underlying9 (hval 1 9 v1 rfl rfl) h1
  replace gs1 := gs1 s1 rfl
  replace gs2 := opn_top_str gs2 (WOk.top hsz (j := 2) rfl rfl)
  obtain ⟨s2, rfl, rfl, rfl, ws2⟩ := Go.ChangeMaps.open_string Tryd.underlying9 (hval 2 9 v2 rfl rfl) h2
  replace gs2 := gs2 s2 rfl
  clear hA0 hval0
  refine (fieldslaw_walk g0 s1 s2 gs1 gs2 hT).mono fun e W' ⟨he, bel⟩ => ?_
  subst he
  exact ⟨_, rfl, _, _, _, [], _, [], hW', trodAll_mk1 (shut_bool Tryd.underlying4 _), (trodAll_cons_mk (Below.trod laidK (by kernel_rfl) (of_decide_eq_true (by kernel_rfl)) k0 bel lt0) (trodAll_cons_mk (Go.ChangeMaps.shut_string Tryd.underlying9 ws1) (trodAll_cons_mk (Go.ChangeMaps.shut_string Tryd.underlying9 ws2) trodAll_mk0))), rfl, Below.frame bel _, fun h => by cases h⟩
theorem CatalogFields_row : Rows.CatalogFieldsSaid :=
  OpenClaim.holds_of_wide 10 Tryd.f10 rfl rfl rfl rfl rfl rfl rfl ⟨rfl, rfl, rfl, rfl, rfl⟩ rfl rfl rfl rfl rfl (by kernel_rfl) Tryd.func10 (by kernel_rfl)
    (of_decide_eq_true (by kernel_rfl)) (by unfold Func.isWrapper; rw [if_neg (of_decide_eq_false (by kernel_rfl))]; exact ⟨rfl, rfl⟩)
    (fun os started H enc _ => liftedCatalogFields os started H enc)
theorem CatalogFields_holds : Rows.CatalogFieldsCardSaid :=
  Claim7.holds_tied_plain_at .later [] Rows.catalogFieldsCard.laidKinds true Rows.catalogFieldsCard.stood.harness Rows.catalogFieldsCard.stood.looks
    CatalogFields_row (fun _ h => by cases h) (by kernel_rfl) (fun _ h => by cases h) catalogFields_row_tie rfl ⟨rfl, rfl⟩ (by kernel_rfl) rfl
    (fun f fn hf hfn => by
      obtain rfl : f = 10 := Option.some.inj ((show Tryd.prog.funcNamed Rows.catalogFieldsRow.func = some 10 by kernel_rfl).symm.trans hf) |>.symm
      obtain rfl : fn = Tryd.f10 := (Option.some.inj (Tryd.func10.symm.trans hfn)).symm
      exact ⟨by kernel_rfl, fun j t ht => by
        rw [Tryd.params10] at ht
        have hm : t ∈ [25, 9] := by simpa using Array.mem_of_getElem? ht
        have hall : ([25, 9].all fun u => !Tryd.prog.wantsStandIn u) = true := by kernel_rfl
        exact (show Tryd.prog.wantsStandIn t = false by simpa using List.all_eq_true.1 hall t hm)⟩)
    (by kernel_rfl)
#print axioms CatalogFields_holds

end Go.Proofs.YtikbjaopcminaaaDoor
