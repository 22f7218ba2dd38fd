/- The digest of two byte strings from a number is that of the second one from that of the first one. No condition. -/
import Derived.Test.YtpokkklfiehemaaDoorRefText
import Derived.Test.YtpokkklfiehemaaDoorDigCard
import Derived.Test.YtpokkklfiehemaaDoorReadB
import Derived.ProofKit
import Derived.OpenShut
import Derived.ShutString
import Derived.ChangeOld
import Derived.SizedLaws
namespace Go.Proofs.YtpokkklfiehemaaDoor
open Go.ChangeShapes Go.WideShapes Go.ChangeAt Go.RowKit
set_option maxRecDepth 100000

set_option maxHeartbeats 1600000 in
theorem joins_walk {w : World} {A B : Option Addr} {m k : Nat} {a b : List UInt8} (h c d : Nat) (hh : h < 18446744073709551616) (ha : SlB w A m a) (hb : SlB w B k b) (hT : TZ w) :
    Calls Tryd.prog 3 #[.int .u64 h, .slice A m c, .slice B k d] w fun e w' => e = .returned (.bool true) ∧ Ext w w' := by
  have hle := ha.le
  have hle' := hb.le
  by_cases h1 : 500 < m
  · have h1' : (500 : Int) < (m : Int) := by omega
    go_enter Tryd.func3, Tryd.ntmps3
    go_wp2_with (first
      | (go_at_call 10; refine Hid.out ?_))
    refine Hid.mk_ ((awake_dg hT).mono ?_)
    rintro e w1 ⟨rfl, hE1⟩
    go_wp2_with (first
      | (go_at_call 10; refine Hid.out ?_))
    refine Hid.mk_ ((awake_dg (hT.ext hE1)).mono ?_)
    rintro e w2 ⟨rfl, hE2⟩
    go_wp2
    go_ret
    exact ⟨rfl, hE1.trans hE2⟩
  · have h1' : ¬ (500 : Int) < (m : Int) := by omega
    by_cases h2 : 500 < k
    · have h2' : (500 : Int) < (k : Int) := by omega
      go_enter Tryd.func3, Tryd.ntmps3
      go_wp2_with (first
        | (go_at_call 10; refine Hid.out ?_))
      refine Hid.mk_ ((awake_dg hT).mono ?_)
      rintro e w1 ⟨rfl, hE1⟩
      go_wp2_with (first
        | (go_at_call 10; refine Hid.out ?_))
      refine Hid.mk_ ((awake_dg (hT.ext hE1)).mono ?_)
      rintro e w2 ⟨rfl, hE2⟩
      go_wp2
      go_ret
      exact ⟨rfl, hE1.trans hE2⟩
    · have h2' : ¬ (500 : Int) < (k : Int) := by omega
      go_enter Tryd.func3, Tryd.ntmps3
      go_wp2_with (first
        | (go_at_call 10; refine Hid.out ?_))
      refine Hid.mk_ ((awake_dg hT).mono ?_)
      rintro e w1 ⟨rfl, hE1⟩
      have ha1 := ha.ext hE1
      have hb1 := hb.ext hE1
      go_wp2_with (first
        | (at_builtin; refine Hid.out ?_))
      refine Hid.mk_ ?_
      refine appB rfl _ _ rfl (OsB.new_ w1 w1.heap.size (Nat.le_refl _) [] (by simp) _ rfl 0 rfl) rfl (ha1.ext ((Ext.refl _).alloc _)) rfl (by omega) (by simp) ?_
      intro A3 m3 c3 w3 ho3 hg3 hat3
      have hE3 : Ext w1 w3 := ((Ext.refl w1).alloc _).grown hg3 (by intro k hk; simp [ob] at hk; omega)
      have hm3 : m3 ≤ 500 := by have h1 := ho3.len; have h2 := ha.len; simp only [List.nil_append] at h1; omega
      go_wp2_with (first
        | (at_builtin; refine Hid.out ?_))
      refine Hid.mk_ ?_
      refine appB rfl _ _ rfl ho3 rfl (hb1.ext hE3) rfl (by omega) hE3.size_le ?_
      intro A4 m4 c4 w4 ho4 hg4 hat4
      have hE4 : Ext w1 w4 := hE3.grown hg4 ho3.ge
      go_wp2_with (first
        | (go_at_call 11; refine Hid.out ?_))
      refine Hid.mk_ ((from_any h c4 hh ho4.sl).mono ?_)
      rintro e w5 ⟨rfl, rfl⟩
      go_wp2_with (first
        | (go_at_call 11; refine Hid.out ?_))
      refine Hid.mk_ ((from_any h c hh (ha1.ext hE4)).mono ?_)
      rintro e w6 ⟨rfl, rfl⟩
      go_wp2_with (first
        | (go_at_call 11; refine Hid.out ?_))
      refine Hid.mk_ ((from_any _ d (dig_lt hh a) (hb1.ext hE4)).mono ?_)
      rintro e w7 ⟨rfl, rfl⟩
      rw [dig_append h a b]
      go_wp2
      go_ret
      exact ⟨rfl, hE1.trans hE4⟩

set_option maxRecDepth 100000 in
theorem liftedDigestJoins (os : Os) (started : os.Started) (H : Type) (enc : TypeId × Value → H) :
    ReturnsInHanded {} Tryd.checked os 3 .any (fun w args => (Rows.digestJoinsSpec.pre enc Tryd.prog Tryd.f3 [] false w args ∧ laidMetH Tryd.prog laidL w) ∧ sizedMet enc Tryd.prog Tryd.f3 (OpenSpec.ofChange Rows.digestJoinsSpec) false w args) (Rows.digestJoinsSpec.post enc Tryd.prog Tryd.f3 false true false false) := by
  refine returnsInHanded_of_change_and (C := Tryd.checked) (X := fun w _ => laidMetH Tryd.prog laidL w) (fun _ _ _ hh h => h.of_heap hh) ownK started (by kernel_rfl) Tryd.func3
    (ChangeSpec.witness_shaped (enc := enc) (C := Tryd.checked) (os := os) (X := fun w _ => laidMetH Tryd.prog laidL w) false (World.laidAll Tryd.prog os laidL) #[.int .u64 0, .slice none 0 0, .slice none 0 0] 8 (World.laidAll_os _ _ _)
      (World.shaped_of_ZipB (by kernel_rfl) (by kernel_rfl)) (by kernel_rfl) (by kernel_rfl) (by kernel_rfl)
      (by rw [MakeChecks.laidMetH_plain _ _ _ (by kernel_rfl)]; exact laidMet_laidAll _ (by kernel_rfl) (by kernel_rfl))) ?_
  intro W base args ds gs before hval0 hW hcnd hsz0 hL _
  have hT := tz_of_laid hL
  have hval : ∀ (j : Nat) t v, Tryd.f3.params[j]? = some t → args[j]? = some v → Value.okWide Tryd.prog W .any base t v := hval0
  have hW' := hW
  obtain ⟨p, q, hA0, hV, rfl, hfz, hnd⟩ := hW
  have hA : DataW.TrodAll enc Tryd.prog W 0 (fun _ => true) true Tryd.f3.params.toList args.toList ds p := hA0
  have hsz : (DataW.weightsEach Tryd.prog (Tryd.f3.params.toList ++ Rows.digestJoinsSpec.plain.varTypes Tryd.prog) (ds ++ gs)).all (· ≤ reachBytes) = true := hsz0
  rw [Tryd.params3] at hA hval hsz
  obtain ⟨v0, vs0, d0, ds0, p0, q0, hargs0, rfl, rfl, h0, r0⟩ := trodAll_cons hA
  obtain ⟨v1, vs1, d1, ds1, p1, q1, hargs1, rfl, rfl, h1, r1⟩ := trodAll_cons r0
  obtain ⟨v2, vs2, d2, ds2, p2, q2, hargs2, rfl, rfl, h2, r2⟩ := trodAll_cons r1
  obtain ⟨rfl, rfl, rfl⟩ := trodAll_nil r2
  obtain rfl : args = #[v0, v1, v2] := by cases args; simp_all
  obtain ⟨rfl, rfl⟩ := trodVars_none hV
  have k0 := h0
  have lt0 : ∀ x ∈ p0, x.block < W.heap.size := by obtain ⟨m, hm⟩ := k0; exact DataW.trod_lt m _ _ _ hm
  have k1 := h1
  have lt1 : ∀ x ∈ p1, x.block < W.heap.size := by obtain ⟨m, hm⟩ := k1; exact DataW.trod_lt m _ _ _ hm
  have k2 := h2
  have lt2 : ∀ x ∈ p2, x.block < W.heap.size := by obtain ⟨m, hm⟩ := k2; exact DataW.trod_lt m _ _ _ hm
  obtain ⟨n0, rfl, rfl, rfl, wn0⟩ := open_int Tryd.underlying22 (hval 0 22 v0 rfl rfl) h0
  obtain ⟨u0, rfl⟩ : ∃ u : Nat, n0 = u := ⟨n0.toNat, by have := bounds_u64 wn0; omega⟩
  have b0 : u0 < 18446744073709551616 := by have := bounds_u64 wn0; omega
  obtain ⟨A1, m1, c1, l1, rfl, w1, hc1, hb1⟩ := opn_top_bytes (hval 1 23 v1 rfl rfl) h1 (WOk.top hsz (j := 1) rfl rfl)
  obtain ⟨A2, m2, c2, l2, rfl, w2, hc2, hb2⟩ := opn_top_bytes (hval 2 23 v2 rfl rfl) h2 (WOk.top hsz (j := 2) rfl rfl)
  clear hA0 hval0
  refine (joins_walk u0 c1 c2 b0 w1 w2 hT).mono fun e W' ⟨he, bel⟩ => ?_
  subst he
  exact ⟨_, rfl, _, _, _, [], _, [], hW', trodAll_mk1 (shut_bool Tryd.underlying4 _), (trodAll_cons_mk (shut_int Tryd.underlying22 wn0) (trodAll_cons_mk (Below.trod laidK (by kernel_rfl) (of_decide_eq_true (by kernel_rfl)) k1 bel lt1) (trodAll_cons_mk (Below.trod laidK (by kernel_rfl) (of_decide_eq_true (by kernel_rfl)) k2 bel lt2) trodAll_mk0))), rfl, Below.frame bel _, fun h => by cases h⟩
theorem DigestJoins_row : Rows.DigestJoinsSaid :=
  OpenClaim.holds_of_wide 3 Tryd.f3 rfl rfl rfl rfl rfl rfl rfl ⟨rfl, rfl, rfl, rfl, rfl⟩ rfl rfl rfl rfl rfl (by kernel_rfl) Tryd.func3 (by kernel_rfl)
    (of_decide_eq_true (by kernel_rfl)) (by unfold Func.isWrapper; rw [if_neg (of_decide_eq_false (by kernel_rfl))]; exact ⟨rfl, rfl⟩)
    (fun os started H enc _ => liftedDigestJoins os started H enc)
theorem DigestJoins_holds : Rows.DigestJoinsCardSaid :=
  Claim7.holds_tied_plain_at .later [] Rows.digestJoinsCard.laidKinds true Rows.digestJoinsCard.stood.harness true
    DigestJoins_row (fun _ h => by cases h) (by kernel_rfl) (fun _ h => by cases h) digestJoins_row_tie rfl ⟨rfl, rfl⟩ (by kernel_rfl) rfl
    (fun f fn hf hfn => by
      obtain rfl : f = 3 := Option.some.inj ((show Tryd.prog.funcNamed Rows.digestJoinsRow.func = some 3 by kernel_rfl).symm.trans hf) |>.symm
      obtain rfl : fn = Tryd.f3 := (Option.some.inj (Tryd.func3.symm.trans hfn)).symm
      exact ⟨by kernel_rfl, fun j t ht => by
        rw [Tryd.params3] at ht
        have hm : t ∈ [22, 23] := by simpa using Array.mem_of_getElem? ht
        have hall : ([22, 23].all fun u => !Tryd.prog.wantsStandIn u) = true := by kernel_rfl
        exact (show Tryd.prog.wantsStandIn t = false by simpa using List.all_eq_true.1 hall t hm)⟩)
    (by kernel_rfl)
#print axioms DigestJoins_holds

end Go.Proofs.YtpokkklfiehemaaDoor
