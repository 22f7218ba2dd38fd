/- Unescape returns the specified text, or the offset and the error, for any text of up to 300 bytes. No condition. -/
import Derived.Test.YtkicjbmljbfojaaDoorEscCard
import Derived.ProofKit
import Derived.OpenShut
import Derived.ShutString
import Derived.ChangeOld
import Derived.SizedLaws
namespace Go.Proofs.YtkicjbmljbfojaaDoor
open Go.ChangeShapes Go.WideShapes Go.ChangeAt Go.RowKit
set_option maxRecDepth 100000

section
variable {w : World}
set_option maxHeartbeats 1600000 in
theorem unescape_walk (n : Int) (s : ByteArray) (hT : T2 w) :
    Calls Tryd.prog 4 #[.int .i64 n, .string s] w fun e w' => e = .returned (.bool true) ∧ Ext w w' := by
  by_cases h1 : 300 < s.size
  · have h1' : (300 : Int) < (s.size : Int) := by omega
    go_enter Tryd.func4, Tryd.ntmps4
    go_wp2_with (first
      | (go_at_call 10; refine Hid.out ?_))
    refine Hid.mk_ ((awake_es hT).mono ?_)
    rintro e w1 ⟨rfl, hE1⟩
    go_wp2_with (first
      | (go_at_call 10; refine Hid.out ?_))
    refine Hid.mk_ ((awake_es (hT.ext hE1)).mono ?_)
    rintro e w2 ⟨rfl, hE2⟩
    go_wp2
    go_ret
    exact ⟨rfl, hE1.trans hE2⟩
  · have h1' : ¬ (300 : Int) < (s.size : Int) := by omega
    have hs : s.size ≤ 100000 := by omega
    obtain ⟨⟨x, p, q⟩, hx⟩ : ∃ r, r = unZ n (bys s) := ⟨_, rfl⟩
    have HX := Lib.hid hx
    clear hx
    go_enter Tryd.func4, Tryd.ntmps4
    go_wp2_with (first
      | (go_at_call 10; refine Hid.out ?_))
    refine Hid.mk_ ((awake_es hT).mono ?_)
    rintro e w1 ⟨rfl, hE1⟩
    go_wp2_with (first
      | (go_at_call 13; refine Hid.out ?_))
    refine Hid.mk_ ((un_any n s hs).mono ?_)
    rintro e w2 ⟨rfl, hE2⟩
    rw [← HX.out]
    unfold unV
    go_wp2_with (first
      | (go_at_call 14; refine Hid.out ?_))
    refine Hid.mk_ ((run_any n s hs).mono ?_)
    rintro e w3 ⟨rfl, hE3⟩
    rw [← HX.out]
    unfold unV
    obtain ⟨y, hy⟩ : ∃ y, y = str x := ⟨_, rfl⟩
    simp only [← hy]
    clear hy
    go_wp2
    go_ret
    exact ⟨ret_bool (by simp), (hE1.trans hE2).trans hE3⟩
end
set_option maxRecDepth 100000 in
theorem liftedEscapeUnescape (os : Os) (started : os.Started) (H : Type) (enc : TypeId × Value → H) :
    ReturnsInHanded {} Tryd.checked os 4 .any (fun w args => (Rows.escapeUnescapeSpec.pre enc Tryd.prog Tryd.f4 [] false w args ∧ laidMetH Tryd.prog laidL w) ∧ sizedMet enc Tryd.prog Tryd.f4 (OpenSpec.ofChange Rows.escapeUnescapeSpec) false w args) (Rows.escapeUnescapeSpec.post enc Tryd.prog Tryd.f4 false true false false) := by
  refine returnsInHanded_of_change_and (C := Tryd.checked) (X := fun w _ => laidMetH Tryd.prog laidL w) (fun _ _ _ hh h => h.of_heap hh) ownK started (by kernel_rfl) Tryd.func4
    (ChangeSpec.witness_shaped (enc := enc) (C := Tryd.checked) (os := os) (X := fun w _ => laidMetH Tryd.prog laidL w) false (World.laidAll Tryd.prog os laidL) #[.int .i64 0, .string ⟨#[]⟩] 8 (World.laidAll_os _ _ _)
      (World.shaped_of_ZipB (by kernel_rfl) (by kernel_rfl)) (by kernel_rfl) (by kernel_rfl) (by kernel_rfl)
      (by rw [MakeChecks.laidMetH_plain _ _ _ (by kernel_rfl)]; exact laidMet_laidAll _ (by kernel_rfl) (by kernel_rfl))) ?_
  intro W base args ds gs before hval0 hW hcnd hsz0 hL _
  have hT := t2_of_laid hL
  have hval : ∀ (j : Nat) t v, Tryd.f4.params[j]? = some t → args[j]? = some v → Value.okWide Tryd.prog W .any base t v := hval0
  have hW' := hW
  obtain ⟨p, q, hA0, hV, rfl, hfz, hnd⟩ := hW
  have hA : DataW.TrodAll enc Tryd.prog W 0 (fun _ => true) true Tryd.f4.params.toList args.toList ds p := hA0
  have hsz : (DataW.weightsEach Tryd.prog (Tryd.f4.params.toList ++ Rows.escapeUnescapeSpec.plain.varTypes Tryd.prog) (ds ++ gs)).all (· ≤ reachBytes) = true := hsz0
  rw [Tryd.params4] at hA hval hsz
  obtain ⟨v0, vs0, d0, ds0, p0, q0, hargs0, rfl, rfl, h0, r0⟩ := trodAll_cons hA
  obtain ⟨v1, vs1, d1, ds1, p1, q1, hargs1, rfl, rfl, h1, r1⟩ := trodAll_cons r0
  obtain ⟨rfl, rfl, rfl⟩ := trodAll_nil r1
  obtain rfl : args = #[v0, v1] := by cases args; simp_all
  obtain ⟨rfl, rfl⟩ := trodVars_none hV
  obtain ⟨a0, rfl, rfl, rfl, w0⟩ := open_int Tryd.underlying3 (hval 0 3 v0 rfl rfl) h0
  obtain ⟨s1, rfl, rfl, rfl, ws1⟩ := Go.ChangeMaps.open_string Tryd.underlying9 (hval 1 9 v1 rfl rfl) h1
  clear hA0 hval0
  refine (unescape_walk a0 s1 hT).mono fun e W' ⟨he, bel⟩ => ?_
  subst he
  exact ⟨_, rfl, _, _, _, [], _, [], hW', trodAll_mk1 (shut_bool Tryd.underlying4 _), (trodAll_cons_mk (shut_int Tryd.underlying3 w0) (trodAll_cons_mk (Go.ChangeMaps.shut_string Tryd.underlying9 ws1) trodAll_mk0)), rfl, Below.frame bel _, fun h => by cases h⟩
theorem EscapeUnescape_row : Rows.EscapeUnescapeSaid :=
  OpenClaim.holds_of_wide 4 Tryd.f4 rfl rfl rfl rfl rfl rfl rfl ⟨rfl, rfl, rfl, rfl, rfl⟩ rfl rfl rfl rfl rfl (by kernel_rfl) Tryd.func4 (by kernel_rfl)
    (of_decide_eq_true (by kernel_rfl)) (by unfold Func.isWrapper; rw [if_neg (of_decide_eq_false (by kernel_rfl))]; exact ⟨rfl, rfl⟩)
    (fun os started H enc _ => liftedEscapeUnescape os started H enc)
theorem EscapeUnescape_holds : Rows.EscapeUnescapeCardSaid :=
  Claim7.holds_tied_plain_at .later [] Rows.escapeUnescapeCard.laidKinds true Rows.escapeUnescapeCard.stood.harness Rows.escapeUnescapeCard.stood.looks
    EscapeUnescape_row (fun _ h => by cases h) (by kernel_rfl) (fun _ h => by cases h) escapeUnescape_row_tie rfl ⟨rfl, rfl⟩ (by kernel_rfl) rfl
    (fun f fn hf hfn => by
      obtain rfl : f = 4 := Option.some.inj ((show Tryd.prog.funcNamed Rows.escapeUnescapeRow.func = some 4 by kernel_rfl).symm.trans hf) |>.symm
      obtain rfl : fn = Tryd.f4 := (Option.some.inj (Tryd.func4.symm.trans hfn)).symm
      exact ⟨by kernel_rfl, fun j t ht => by
        rw [Tryd.params4] at ht
        have hm : t ∈ [3, 9] := by simpa using Array.mem_of_getElem? ht
        have hall : ([3, 9].all fun u => !Tryd.prog.wantsStandIn u) = true := by kernel_rfl
        exact (show Tryd.prog.wantsStandIn t = false by simpa using List.all_eq_true.1 hall t hm)⟩)
    (by kernel_rfl)
#print axioms EscapeUnescape_holds

end Go.Proofs.YtkicjbmljbfojaaDoor
