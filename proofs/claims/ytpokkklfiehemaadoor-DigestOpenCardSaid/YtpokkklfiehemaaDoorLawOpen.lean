/- Open returns the specified bytes or error for any key and up to 500 bytes. No condition. -/
import Derived.Test.YtpokkklfiehemaaDoorRefText
import Derived.Test.YtpokkklfiehemaaDoorDigCard
import Derived.Test.YtpokkklfiehemaaDoorReadB
import Derived.Test.YtpokkklfiehemaaDoorDigPl
import Derived.ProofKit
import Derived.OpenShut
import Derived.ShutString
import Derived.ChangeOld
import Derived.SizedLaws
namespace Go.Proofs.YtpokkklfiehemaaDoor
open Go.ChangeShapes Go.WideShapes Go.ChangeAt Go.RowKit
set_option maxRecDepth 100000

set_option maxHeartbeats 1600000 in
theorem open_walk {w : World} {A : Option Addr} {m : Nat} {a : List UInt8} (h c : Nat) (hh : h < 18446744073709551616) (ha : SlB w A m a) (hmc : m ≤ c) (hT : TZ w) :
    Calls Tryd.prog 7 #[.int .u64 h, .slice A m c] w fun e w' => e = .returned (.bool true) ∧ Ext w w' := by
  have hle := ha.le
  by_cases hm : 500 < m
  · have hm' : (500 : Int) < (m : Int) := by omega
    go_enter Tryd.func7, Tryd.ntmps7
    go_wp2_with (first
      | (go_at_call 10; refine Hid.out ?_))
    refine Hid.mk_ ((awake_dg hT).mono ?_)
    rintro e w1 ⟨rfl, hE1⟩
    go_wp2_with (first
      | (go_at_call 10; refine Hid.out ?_))
    refine Hid.mk_ ((awake_dg (hT.ext hE1)).mono ?_)
    rintro e w2 ⟨rfl, hE2⟩
    go_wp2
    go_ret
    exact ⟨rfl, hE1.trans hE2⟩
  · have hm' : ¬ (500 : Int) < (m : Int) := by omega
    go_enter Tryd.func7, Tryd.ntmps7
    go_wp2_with (first
      | (go_at_call 10; refine Hid.out ?_))
    refine Hid.mk_ ((awake_dg hT).mono ?_)
    rintro e w1 ⟨rfl, hE1⟩
    have ha1 := ha.ext hE1
    go_wp2_with (first
      | (go_at_call 18; refine Hid.out ?_))
    refine Hid.mk_ ((open_any h c hh ha1 hmc (by omega)).mono ?_)
    rintro e w3 ⟨A3, m3, c3, rfl, hs3, hE3⟩
    go_wp2_with (first
      | (go_at_call 18; refine Hid.out ?_))
    refine Hid.mk_ ((open_any h c hh (ha1.ext hE3) hmc (by omega)).mono ?_)
    rintro e w4 ⟨A4, m4, c4, rfl, hs4, hE4⟩
    go_wp2_with (first
      | (go_at_call 21; refine Hid.out ?_))
    refine Hid.mk_ ((refOpen_any h c hh ((ha1.ext hE3).ext hE4) hmc (by omega)).mono ?_)
    rintro e w5 ⟨A5, m5, c5, rfl, hs5, hE5⟩
    generalize openR h a = r at hs3 hs4 hs5 ⊢
    obtain ⟨r, k⟩ := r
    dsimp only at hs3 hs4 hs5 ⊢
    go_wp2_with (first
      | (go_at_call 19; refine Hid.out ?_))
    refine Hid.mk_ ((sameB _ _ ((hs3.ext hE4).ext hE5) hs5).mono ?_)
    rintro e w6 ⟨rfl, hE6⟩
    simp only [decide_true]
    go_wp2_with (first
      | (go_at_call 19; refine Hid.out ?_))
    refine Hid.mk_ ((sameB _ _ ((hs4.ext hE5).ext hE6) (hs5.ext hE6)).mono ?_)
    rintro e w7 ⟨rfl, hE7⟩
    simp only [decide_true]
    go_wp2
    go_ret
    exact ⟨rfl, (((hE1.trans hE3).trans hE4).trans hE5).trans (hE6.trans hE7)⟩

set_option maxRecDepth 100000 in
theorem liftedDigestOpen (os : Os) (started : os.Started) (H : Type) (enc : TypeId × Value → H) :
    ReturnsInHanded {} Tryd.checked os 7 .any (fun w args => (Rows.digestOpenSpec.pre enc Tryd.prog Tryd.f7 [] false w args ∧ laidMetH Tryd.prog laidL w) ∧ sizedMet enc Tryd.prog Tryd.f7 (OpenSpec.ofChange Rows.digestOpenSpec) false w args) (Rows.digestOpenSpec.post enc Tryd.prog Tryd.f7 false true false false) := by
  refine returnsInHanded_of_change_and (C := Tryd.checked) (X := fun w _ => laidMetH Tryd.prog laidL w) (fun _ _ _ hh h => h.of_heap hh) ownK started (by kernel_rfl) Tryd.func7
    (ChangeSpec.witness_shaped (enc := enc) (C := Tryd.checked) (os := os) (X := fun w _ => laidMetH Tryd.prog laidL w) false (World.laidAll Tryd.prog os laidL) #[.int .u64 0, .slice none 0 0] 8 (World.laidAll_os _ _ _)
      (World.shaped_of_ZipB (by kernel_rfl) (by kernel_rfl)) (by kernel_rfl) (by kernel_rfl) (by kernel_rfl)
      (by rw [MakeChecks.laidMetH_plain _ _ _ (by kernel_rfl)]; exact laidMet_laidAll _ (by kernel_rfl) (by kernel_rfl))) ?_
  intro W base args ds gs before hval0 hW hcnd hsz0 hL _
  have hT := tz_of_laid hL
  have hval : ∀ (j : Nat) t v, Tryd.f7.params[j]? = some t → args[j]? = some v → Value.okWide Tryd.prog W .any base t v := hval0
  have hW' := hW
  obtain ⟨p, q, hA0, hV, rfl, hfz, hnd⟩ := hW
  have hA : DataW.TrodAll enc Tryd.prog W 0 (fun _ => true) true Tryd.f7.params.toList args.toList ds p := hA0
  have hsz : (DataW.weightsEach Tryd.prog (Tryd.f7.params.toList ++ Rows.digestOpenSpec.plain.varTypes Tryd.prog) (ds ++ gs)).all (· ≤ reachBytes) = true := hsz0
  rw [Tryd.params7] at hA hval hsz
  obtain ⟨v0, vs0, d0, ds0, p0, q0, hargs0, rfl, rfl, h0, r0⟩ := trodAll_cons hA
  obtain ⟨v1, vs1, d1, ds1, p1, q1, hargs1, rfl, rfl, h1, r1⟩ := trodAll_cons r0
  obtain ⟨rfl, rfl, rfl⟩ := trodAll_nil r1
  obtain rfl : args = #[v0, v1] := by cases args; simp_all
  obtain ⟨rfl, rfl⟩ := trodVars_none hV
  have k0 := h0
  have lt0 : ∀ x ∈ p0, x.block < W.heap.size := by obtain ⟨m, hm⟩ := k0; exact DataW.trod_lt m _ _ _ hm
  have k1 := h1
  have lt1 : ∀ x ∈ p1, x.block < W.heap.size := by obtain ⟨m, hm⟩ := k1; exact DataW.trod_lt m _ _ _ hm
  obtain ⟨n0, rfl, rfl, rfl, wn0⟩ := open_int Tryd.underlying22 (hval 0 22 v0 rfl rfl) h0
  obtain ⟨u0, rfl⟩ : ∃ u : Nat, n0 = u := ⟨n0.toNat, by have := bounds_u64 wn0; omega⟩
  have b0 : u0 < 18446744073709551616 := by have := bounds_u64 wn0; omega
  obtain ⟨A1, m1, c1, l1, rfl, w1, hc1, hb1⟩ := opn_top_bytes (hval 1 23 v1 rfl rfl) h1 (WOk.top hsz (j := 1) rfl rfl)
  clear hA0 hval0
  refine (open_walk u0 c1 b0 w1 hc1 hT).mono fun e W' ⟨he, bel⟩ => ?_
  subst he
  exact ⟨_, rfl, _, _, _, [], _, [], hW', trodAll_mk1 (shut_bool Tryd.underlying4 _), (trodAll_cons_mk (shut_int Tryd.underlying22 wn0) (trodAll_cons_mk (Below.trod laidK (by kernel_rfl) (of_decide_eq_true (by kernel_rfl)) k1 bel lt1) trodAll_mk0)), rfl, Below.frame bel _, fun h => by cases h⟩
theorem DigestOpen_row : Rows.DigestOpenSaid :=
  OpenClaim.holds_of_wide 7 Tryd.f7 rfl rfl rfl rfl rfl rfl rfl ⟨rfl, rfl, rfl, rfl, rfl⟩ rfl rfl rfl rfl rfl (by kernel_rfl) Tryd.func7 (by kernel_rfl)
    (of_decide_eq_true (by kernel_rfl)) (by unfold Func.isWrapper; rw [if_neg (of_decide_eq_false (by kernel_rfl))]; exact ⟨rfl, rfl⟩)
    (fun os started H enc _ => liftedDigestOpen os started H enc)
theorem DigestOpen_holds : Rows.DigestOpenCardSaid :=
  Claim7.holds_tied_plain_at .later [] Rows.digestOpenCard.laidKinds true Rows.digestOpenCard.stood.harness true
    DigestOpen_row (fun _ h => by cases h) (by kernel_rfl) (fun _ h => by cases h) digestOpen_row_tie rfl ⟨rfl, rfl⟩ (by kernel_rfl) rfl
    (fun f fn hf hfn => by
      obtain rfl : f = 7 := Option.some.inj ((show Tryd.prog.funcNamed Rows.digestOpenRow.func = some 7 by kernel_rfl).symm.trans hf) |>.symm
      obtain rfl : fn = Tryd.f7 := (Option.some.inj (Tryd.func7.symm.trans hfn)).symm
      exact ⟨by kernel_rfl, fun j t ht => by
        rw [Tryd.params7] at ht
        have hm : t ∈ [22, 23] := by simpa using Array.mem_of_getElem? ht
        have hall : ([22, 23].all fun u => !Tryd.prog.wantsStandIn u) = true := by kernel_rfl
        exact (show Tryd.prog.wantsStandIn t = false by simpa using List.all_eq_true.1 hall t hm)⟩)
    (by kernel_rfl)
#print axioms DigestOpen_holds

end Go.Proofs.YtpokkklfiehemaaDoor
