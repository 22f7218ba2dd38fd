/- Seal returns the specified string for any key and up to 500 bytes, from which Open returns the bytes, for this key only. No condition. -/
import Derived.Test.YtpokkklfiehemaaDoorRefText
import Derived.Test.YtpokkklfiehemaaDoorDigCard
import Derived.Test.YtpokkklfiehemaaDoorReadB
import Derived.Test.YtpokkklfiehemaaDoorDigPl
import Derived.Test.YtpokkklfiehemaaDoorReadP
import Derived.ProofKit
import Derived.OpenShut
import Derived.ShutString
import Derived.ChangeOld
import Derived.SizedLaws
namespace Go.Proofs.YtpokkklfiehemaaDoor
open Go.ChangeShapes Go.WideShapes Go.ChangeAt Go.RowKit
set_option maxRecDepth 100000

set_option maxHeartbeats 1600000 in
theorem seal_walk {w : World} {A : Option Addr} {m : Nat} {a : List UInt8} (h0 h1 c : Nat) (hh0 : h0 < 18446744073709551616) (hh1 : h1 < 18446744073709551616) (ha : SlB w A m a) (hT : TZ w) :
    Calls Tryd.prog 6 #[.agg #[.int .u64 h0, .int .u64 h1], .slice A m c] w fun e w' => e = .returned (.bool true) ∧ Ext w w' := by
  have hle := ha.le
  have hEb : Ext w (w.alloc (Obj.cells #[.int .u64 h0, .int .u64 h1] 30)) := (Ext.refl w).alloc _
  have hb := Blk.new w 30 #[.int .u64 h0, .int .u64 h1]
  by_cases hm : 500 < m
  · have hm' : (500 : Int) < (m : Int) := by omega
    go_enter Tryd.func6, Tryd.ntmps6
    go_wp2_with (first
      | (go_at_call 10; refine Hid.out ?_))
    refine Hid.mk_ ((awake_dg (hT.ext hEb)).mono ?_)
    rintro e w1 ⟨rfl, hE1⟩
    go_wp2_with (first
      | (go_at_call 10; refine Hid.out ?_))
    refine Hid.mk_ ((awake_dg ((hT.ext hEb).ext hE1)).mono ?_)
    rintro e w2 ⟨rfl, hE2⟩
    go_wp2
    go_ret
    exact ⟨rfl, (hEb.trans hE1).trans hE2⟩
  · have hm' : ¬ (500 : Int) < (m : Int) := by omega
    go_enter Tryd.func6, Tryd.ntmps6
    go_wp2_with (first
      | (go_at_call 10; refine Hid.out ?_))
    refine Hid.mk_ ((awake_dg (hT.ext hEb)).mono ?_)
    rintro e w1 ⟨rfl, hE1⟩
    have hb1 := hb.below hE1 hb.lt
    have hE01 := hEb.trans hE1
    have ha1 := ha.ext hE01
    obtain ⟨g, hg⟩ : ∃ g, g = w.heap.size := ⟨_, rfl⟩
    rw [← hg] at hb1 ⊢
    have x0 : w1.cell? ⟨g, 0, none⟩ = some (.int .u64 h0) := hb1.cell 0
    have x1 : w1.cell? ⟨g, 1, none⟩ = some (.int .u64 h1) := hb1.cell 1
    clear hg hb
    go_wp2_with (first
      | (go_at_call 17; refine Hid.out ?_))
    refine Hid.mk_ ((seal_any h0 c hh0 ha1 (by omega)).mono ?_)
    rintro e w2 ⟨A2, m2, c2, rfl, ho2, hE2⟩
    have y0 := later hE2 x0
    have y1 := later hE2 x1
    have hm2 : m2 ≤ 508 := by have h1 := ho2.len; rw [sealL_len] at h1; have h2 := ha.len; omega
    go_wp2_with (first
      | (go_at_call 18; refine Hid.out ?_))
    refine Hid.mk_ ((open_any h0 c2 hh0 ho2.sl ho2.cap (by omega)).mono ?_)
    rintro e w3 ⟨A3, m3, c3, rfl, hs3, hE3⟩
    have z0 := later hE3 y0
    have z1 := later hE3 y1
    go_wp2_with (first
      | (go_at_call 18; refine Hid.out ?_))
    refine Hid.mk_ ((open_any h1 c2 hh1 (ho2.sl.ext hE3) ho2.cap (by omega)).mono ?_)
    rintro e w4 ⟨A4, m4, c4, rfl, hs4, hE4⟩
    have u0 := later hE4 z0
    have u1 := later hE4 z1
    have hE14 := (hE2.trans hE3).trans hE4
    have hr1 : openR h0 (sealL h0 a) = (a, 0) := by rw [open_seal hh0 hh0, if_pos rfl]
    rw [hr1] at hs3 ⊢
    clear x0 x1 y0 y1 z0 z1 hr1
    go_wp2_with (first
      | (go_at_call 20; refine Hid.out ?_))
    refine Hid.mk_ ((refSealS_any h0 c hh0 (ha1.ext hE14) (by omega)).mono ?_)
    rintro e w5 ⟨A5, m5, c5, rfl, ho5, hE5⟩
    have v0 := later hE5 u0
    have v1 := later hE5 u1
    go_wp2_with (first
      | (go_at_call 19; refine Hid.out ?_))
    refine Hid.mk_ ((sameB _ _ (((ho2.sl.ext hE3).ext hE4).ext hE5) ho5.sl).mono ?_)
    rintro e w6 ⟨rfl, hE6⟩
    rw [decide_eq_true rfl]
    have hE36 := (hE4.trans hE5).trans hE6
    go_wp2_with (first
      | (go_at_call 19; refine Hid.out ?_))
    refine Hid.mk_ ((sameB _ _ (hs3.ext hE36) (ha1.ext ((hE2.trans hE3).trans hE36))).mono ?_)
    rintro e w7 ⟨rfl, hE7⟩
    have t0 := later hE7 (later hE6 v0)
    have t1 := later hE7 (later hE6 v1)
    have hE07 := ((hE01.trans hE14).trans hE5).trans (hE6.trans hE7)
    have hs47 := ((hs4.ext hE5).ext hE6).ext hE7
    have ha7 := (ha1.ext ((hE2.trans hE3).trans hE36)).ext hE7
    clear u0 u1 v0 v1
    simp only [decide_true]
    by_cases hk : h0 = h1
    · subst hk
      have hr2 : openR h0 (sealL h0 a) = (a, 0) := by rw [open_seal hh0 hh0, if_pos rfl]
      rw [hr2] at hs47 ⊢
      clear hr2
      go_wp2_with (first
        | (go_at_call 19; refine Hid.out ?_))
      refine Hid.mk_ ((sameB _ _ hs47 ha7).mono ?_)
      rintro e w8 ⟨rfl, hE8⟩
      simp only [decide_true]
      go_wp2
      go_ret
      exact ⟨rfl, hE07.trans hE8⟩
    · have hr2 : openR h1 (sealL h0 a) = ([], 5) := by rw [open_seal hh1 hh0, if_neg (fun e => hk e.symm)]
      rw [hr2] at hs47 ⊢
      have hkb : ((h0 : Int) == (h1 : Int)) = false := by rw [beq_eq_false_iff_ne]; omega
      have hm4 : m4 = 0 := hs47.len
      subst hm4
      clear hr2 hk
      go_wp2
      go_ret
      exact ⟨rfl, hE07⟩

set_option maxRecDepth 100000 in
theorem liftedDigestSeal (os : Os) (started : os.Started) (H : Type) (enc : TypeId × Value → H) :
    ReturnsInHanded {} Tryd.checked os 6 .any (fun w args => (Rows.digestSealSpec.pre enc Tryd.prog Tryd.f6 [] false w args ∧ laidMetH Tryd.prog laidL w) ∧ sizedMet enc Tryd.prog Tryd.f6 (OpenSpec.ofChange Rows.digestSealSpec) false w args) (Rows.digestSealSpec.post enc Tryd.prog Tryd.f6 false true false false) := by
  refine returnsInHanded_of_change_and (C := Tryd.checked) (X := fun w _ => laidMetH Tryd.prog laidL w) (fun _ _ _ hh h => h.of_heap hh) ownK started (by kernel_rfl) Tryd.func6
    (ChangeSpec.witness_shaped (enc := enc) (C := Tryd.checked) (os := os) (X := fun w _ => laidMetH Tryd.prog laidL w) false (World.laidAll Tryd.prog os laidL) #[.agg #[.int .u64 0, .int .u64 0], .slice none 0 0] 8 (World.laidAll_os _ _ _)
      (World.shaped_of_ZipB (by kernel_rfl) (by kernel_rfl)) (by kernel_rfl) (by kernel_rfl) (by kernel_rfl)
      (by rw [MakeChecks.laidMetH_plain _ _ _ (by kernel_rfl)]; exact laidMet_laidAll _ (by kernel_rfl) (by kernel_rfl))) ?_
  intro W base args ds gs before hval0 hW hcnd hsz0 hL _
  have hT := tz_of_laid hL
  have hval : ∀ (j : Nat) t v, Tryd.f6.params[j]? = some t → args[j]? = some v → Value.okWide Tryd.prog W .any base t v := hval0
  have hW' := hW
  obtain ⟨p, q, hA0, hV, rfl, hfz, hnd⟩ := hW
  have hA : DataW.TrodAll enc Tryd.prog W 0 (fun _ => true) true Tryd.f6.params.toList args.toList ds p := hA0
  have hsz : (DataW.weightsEach Tryd.prog (Tryd.f6.params.toList ++ Rows.digestSealSpec.plain.varTypes Tryd.prog) (ds ++ gs)).all (· ≤ reachBytes) = true := hsz0
  rw [Tryd.params6] at hA hval hsz
  obtain ⟨v0, vs0, d0, ds0, p0, q0, hargs0, rfl, rfl, h0, r0⟩ := trodAll_cons hA
  obtain ⟨v1, vs1, d1, ds1, p1, q1, hargs1, rfl, rfl, h1, r1⟩ := trodAll_cons r0
  obtain ⟨rfl, rfl, rfl⟩ := trodAll_nil r1
  obtain rfl : args = #[v0, v1] := by cases args; simp_all
  obtain ⟨rfl, rfl⟩ := trodVars_none hV
  have k0 := h0
  have lt0 : ∀ x ∈ p0, x.block < W.heap.size := by obtain ⟨m, hm⟩ := k0; exact DataW.trod_lt m _ _ _ hm
  have k1 := h1
  have lt1 : ∀ x ∈ p1, x.block < W.heap.size := by obtain ⟨m, hm⟩ := k1; exact DataW.trod_lt m _ _ _ hm
  obtain ⟨⟨x0, x1⟩, rfl, b0, b1⟩ := opn_top_agg opn_p64 (okWide_array Tryd.underlying30 (hval 0 30 v0 rfl rfl)) h0 (WOk.top hsz (j := 0) rfl rfl)
  obtain ⟨A1, m1, c1, l1, rfl, w1, hc1, hb1⟩ := opn_top_bytes (hval 1 23 v1 rfl rfl) h1 (WOk.top hsz (j := 1) rfl rfl)
  clear hA0 hval0
  refine (seal_walk x0 x1 c1 b0 b1 w1 hT).mono fun e W' ⟨he, bel⟩ => ?_
  subst he
  exact ⟨_, rfl, _, _, _, [], _, [], hW', trodAll_mk1 (shut_bool Tryd.underlying4 _), (trodAll_cons_mk (Below.trod laidK (by kernel_rfl) (of_decide_eq_true (by kernel_rfl)) k0 bel lt0) (trodAll_cons_mk (Below.trod laidK (by kernel_rfl) (of_decide_eq_true (by kernel_rfl)) k1 bel lt1) trodAll_mk0)), rfl, Below.frame bel _, fun h => by cases h⟩
theorem DigestSeal_row : Rows.DigestSealSaid :=
  OpenClaim.holds_of_wide 6 Tryd.f6 rfl rfl rfl rfl rfl rfl rfl ⟨rfl, rfl, rfl, rfl, rfl⟩ rfl rfl rfl rfl rfl (by kernel_rfl) Tryd.func6 (by kernel_rfl)
    (of_decide_eq_true (by kernel_rfl)) (by unfold Func.isWrapper; rw [if_neg (of_decide_eq_false (by kernel_rfl))]; exact ⟨rfl, rfl⟩)
    (fun os started H enc _ => liftedDigestSeal os started H enc)
theorem DigestSeal_holds : Rows.DigestSealCardSaid :=
  Claim7.holds_tied_plain_at .later [] Rows.digestSealCard.laidKinds true Rows.digestSealCard.stood.harness true
    DigestSeal_row (fun _ h => by cases h) (by kernel_rfl) (fun _ h => by cases h) digestSeal_row_tie rfl ⟨rfl, rfl⟩ (by kernel_rfl) rfl
    (fun f fn hf hfn => by
      obtain rfl : f = 6 := Option.some.inj ((show Tryd.prog.funcNamed Rows.digestSealRow.func = some 6 by kernel_rfl).symm.trans hf) |>.symm
      obtain rfl : fn = Tryd.f6 := (Option.some.inj (Tryd.func6.symm.trans hfn)).symm
      exact ⟨by kernel_rfl, fun j t ht => by
        rw [Tryd.params6] at ht
        have hm : t ∈ [30, 23] := by simpa using Array.mem_of_getElem? ht
        have hall : ([30, 23].all fun u => !Tryd.prog.wantsStandIn u) = true := by kernel_rfl
        exact (show Tryd.prog.wantsStandIn t = false by simpa using List.all_eq_true.1 hall t hm)⟩)
    (by kernel_rfl)
#print axioms DigestSeal_holds

end Go.Proofs.YtpokkklfiehemaaDoor
