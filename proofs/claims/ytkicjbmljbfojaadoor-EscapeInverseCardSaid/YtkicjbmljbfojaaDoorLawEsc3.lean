/- Unescape returns every text of up to 300 bytes from its escaped form. No condition. -/
import Derived.Test.YtkicjbmljbfojaaDoorEscCard
import Derived.ProofKit
import Derived.OpenShut
import Derived.ShutString
import Derived.ChangeOld
import Derived.SizedLaws
namespace Go.Proofs.YtkicjbmljbfojaaDoor
open Go.ChangeShapes Go.WideShapes Go.ChangeAt Go.RowKit
set_option maxRecDepth 100000

section
variable {w : World}
set_option maxHeartbeats 1600000 in
theorem inverse_walk (n : Int) (s : ByteArray) (hT : T2 w) :
    Calls Tryd.prog 5 #[.int .i64 n, .string s] w fun e w' => e = .returned (.bool true) ∧ Ext w w' := by
  by_cases h1 : 300 < s.size
  · have h1' : (300 : Int) < (s.size : Int) := by omega
    go_enter Tryd.func5, Tryd.ntmps5
    go_wp2_with (first
      | (go_at_call 10; refine Hid.out ?_))
    refine Hid.mk_ ((awake_es hT).mono ?_)
    rintro e w1 ⟨rfl, hE1⟩
    go_wp2_with (first
      | (go_at_call 10; refine Hid.out ?_))
    refine Hid.mk_ ((awake_es (hT.ext hE1)).mono ?_)
    rintro e w2 ⟨rfl, hE2⟩
    go_wp2
    go_ret
    exact ⟨rfl, hE1.trans hE2⟩
  · have h1' : ¬ (300 : Int) < (s.size : Int) := by omega
    have hs : s.size ≤ 1000 := by omega
    cases hst : styleZ n with
    | false =>
      have HSN := Lib.hid hst
      clear hst
      go_enter Tryd.func5, Tryd.ntmps5
      go_wp2_with (first
        | (go_at_call 10; refine Hid.out ?_))
      refine Hid.mk_ ((awake_es hT).mono ?_)
      rintro e w1 ⟨rfl, hE1⟩
      go_wp2_with (first
        | (go_at_call 15; refine Hid.out ?_))
      refine Hid.mk_ ((rstyle2_any n).mono ?_)
      rintro e w2 ⟨rfl, rfl⟩
      rw [HSN.out]
      go_wp2_with (first
        | (go_at_call 10; refine Hid.out ?_))
      refine Hid.mk_ ((awake_es (hT.ext hE1)).mono ?_)
      rintro e w2 ⟨rfl, hE2⟩
      go_wp2
      go_ret
      exact ⟨rfl, hE1.trans hE2⟩
    | true =>
      have hn : 1 ≤ n ∧ n ≤ 4 := of_decide_eq_true hst
      obtain ⟨k, rfl⟩ : ∃ k : Nat, n = k := ⟨n.toNat, by omega⟩
      have he : escZ (k : Int) (bys s) = escL k (bys s) := by unfold escZ; rw [hst]; rfl
      have hu : unZ (k : Int) (bys (str (escL k (bys s)))) = (bys s, 0, 0) := by
        unfold unZ
        rw [hst, bys_str]
        exact unL_esc k (by omega) (by omega) (bys s)
      have hl : (str (escL k (bys s))).size ≤ 100000 := by
        rw [str_size]
        have := escGo_len k (bys s) true
        rw [bys_len] at this
        show (escGo k true (bys s)).length ≤ _
        omega
      have HS := Lib.hid hst
      have HE := Lib.hid he
      have HU := Lib.hid hu
      clear hst he hu hn
      go_enter Tryd.func5, Tryd.ntmps5
      go_wp2_with (first
        | (go_at_call 10; refine Hid.out ?_))
      refine Hid.mk_ ((awake_es hT).mono ?_)
      rintro e w1 ⟨rfl, hE1⟩
      go_wp2_with (first
        | (go_at_call 15; refine Hid.out ?_))
      refine Hid.mk_ ((rstyle2_any (k : Int)).mono ?_)
      rintro e w2 ⟨rfl, rfl⟩
      rw [HS.out]
      go_wp2_with (first
        | (go_at_call 11; refine Hid.out ?_))
      refine Hid.mk_ ((escape_any (k : Int) s hs (hT.ext hE1)).mono ?_)
      rintro e w2 ⟨rfl, hE2⟩
      rw [HE.out]
      go_wp2_with (first
        | (go_at_call 13; refine Hid.out ?_))
      refine Hid.mk_ ((un_any (k : Int) _ hl).mono ?_)
      rintro e w3 ⟨rfl, hE3⟩
      rw [HU.out]
      unfold unV
      simp only [str_bys]
      go_wp2
      go_ret
      exact ⟨ret_bool (by simp), (hE1.trans hE2).trans hE3⟩
end
set_option maxRecDepth 100000 in
theorem liftedEscapeInverse (os : Os) (started : os.Started) (H : Type) (enc : TypeId × Value → H) :
    ReturnsInHanded {} Tryd.checked os 5 .any (fun w args => (Rows.escapeInverseSpec.pre enc Tryd.prog Tryd.f5 [] false w args ∧ laidMetH Tryd.prog laidL w) ∧ sizedMet enc Tryd.prog Tryd.f5 (OpenSpec.ofChange Rows.escapeInverseSpec) false w args) (Rows.escapeInverseSpec.post enc Tryd.prog Tryd.f5 false true false false) := by
  refine returnsInHanded_of_change_and (C := Tryd.checked) (X := fun w _ => laidMetH Tryd.prog laidL w) (fun _ _ _ hh h => h.of_heap hh) ownK started (by kernel_rfl) Tryd.func5
    (ChangeSpec.witness_shaped (enc := enc) (C := Tryd.checked) (os := os) (X := fun w _ => laidMetH Tryd.prog laidL w) false (World.laidAll Tryd.prog os laidL) #[.int .i64 0, .string ⟨#[]⟩] 8 (World.laidAll_os _ _ _)
      (World.shaped_of_ZipB (by kernel_rfl) (by kernel_rfl)) (by kernel_rfl) (by kernel_rfl) (by kernel_rfl)
      (by rw [MakeChecks.laidMetH_plain _ _ _ (by kernel_rfl)]; exact laidMet_laidAll _ (by kernel_rfl) (by kernel_rfl))) ?_
  intro W base args ds gs before hval0 hW hcnd hsz0 hL _
  have hT := t2_of_laid hL
  have hval : ∀ (j : Nat) t v, Tryd.f5.params[j]? = some t → args[j]? = some v → Value.okWide Tryd.prog W .any base t v := hval0
  have hW' := hW
  obtain ⟨p, q, hA0, hV, rfl, hfz, hnd⟩ := hW
  have hA : DataW.TrodAll enc Tryd.prog W 0 (fun _ => true) true Tryd.f5.params.toList args.toList ds p := hA0
  have hsz : (DataW.weightsEach Tryd.prog (Tryd.f5.params.toList ++ Rows.escapeInverseSpec.plain.varTypes Tryd.prog) (ds ++ gs)).all (· ≤ reachBytes) = true := hsz0
  rw [Tryd.params5] at hA hval hsz
  obtain ⟨v0, vs0, d0, ds0, p0, q0, hargs0, rfl, rfl, h0, r0⟩ := trodAll_cons hA
  obtain ⟨v1, vs1, d1, ds1, p1, q1, hargs1, rfl, rfl, h1, r1⟩ := trodAll_cons r0
  obtain ⟨rfl, rfl, rfl⟩ := trodAll_nil r1
  obtain rfl : args = #[v0, v1] := by cases args; simp_all
  obtain ⟨rfl, rfl⟩ := trodVars_none hV
  obtain ⟨a0, rfl, rfl, rfl, w0⟩ := open_int Tryd.underlying3 (hval 0 3 v0 rfl rfl) h0
  obtain ⟨s1, rfl, rfl, rfl, ws1⟩ := Go.ChangeMaps.open_string Tryd.underlying9 (hval 1 9 v1 rfl rfl) h1
  clear hA0 hval0
  refine (inverse_walk a0 s1 hT).mono fun e W' ⟨he, bel⟩ => ?_
  subst he
  exact ⟨_, rfl, _, _, _, [], _, [], hW', trodAll_mk1 (shut_bool Tryd.underlying4 _), (trodAll_cons_mk (shut_int Tryd.underlying3 w0) (trodAll_cons_mk (Go.ChangeMaps.shut_string Tryd.underlying9 ws1) trodAll_mk0)), rfl, Below.frame bel _, fun h => by cases h⟩
theorem EscapeInverse_row : Rows.EscapeInverseSaid :=
  OpenClaim.holds_of_wide 5 Tryd.f5 rfl rfl rfl rfl rfl rfl rfl ⟨rfl, rfl, rfl, rfl, rfl⟩ rfl rfl rfl rfl rfl (by kernel_rfl) Tryd.func5 (by kernel_rfl)
    (of_decide_eq_true (by kernel_rfl)) (by unfold Func.isWrapper; rw [if_neg (of_decide_eq_false (by kernel_rfl))]; exact ⟨rfl, rfl⟩)
    (fun os started H enc _ => liftedEscapeInverse os started H enc)
theorem EscapeInverse_holds : Rows.EscapeInverseCardSaid :=
  Claim7.holds_tied_plain_at .later [] Rows.escapeInverseCard.laidKinds true Rows.escapeInverseCard.stood.harness Rows.escapeInverseCard.stood.looks
    EscapeInverse_row (fun _ h => by cases h) (by kernel_rfl) (fun _ h => by cases h) escapeInverse_row_tie rfl ⟨rfl, rfl⟩ (by kernel_rfl) rfl
    (fun f fn hf hfn => by
      obtain rfl : f = 5 := Option.some.inj ((show Tryd.prog.funcNamed Rows.escapeInverseRow.func = some 5 by kernel_rfl).symm.trans hf) |>.symm
      obtain rfl : fn = Tryd.f5 := (Option.some.inj (Tryd.func5.symm.trans hfn)).symm
      exact ⟨by kernel_rfl, fun j t ht => by
        rw [Tryd.params5] at ht
        have hm : t ∈ [3, 9] := by simpa using Array.mem_of_getElem? ht
        have hall : ([3, 9].all fun u => !Tryd.prog.wantsStandIn u) = true := by kernel_rfl
        exact (show Tryd.prog.wantsStandIn t = false by simpa using List.all_eq_true.1 hall t hm)⟩)
    (by kernel_rfl)
#print axioms EscapeInverse_holds

end Go.Proofs.YtkicjbmljbfojaaDoor
