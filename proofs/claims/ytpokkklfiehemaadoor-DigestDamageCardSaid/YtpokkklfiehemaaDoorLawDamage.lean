/- If exactly one byte of a sealed string is changed, Open returns ErrSum. No condition. -/
import Derived.Test.YtpokkklfiehemaaDoorRefText
import Derived.Test.YtpokkklfiehemaaDoorDigCard
import Derived.Test.YtpokkklfiehemaaDoorReadB
import Derived.Test.YtpokkklfiehemaaDoorReadP
import Derived.Test.YtpokkklfiehemaaDoorDigPl
import Derived.Test.YtpokkklfiehemaaDoorSet
import Derived.ProofKit
import Derived.OpenShut
import Derived.ShutString
import Derived.ChangeOld
import Derived.SizedLaws
namespace Go.Proofs.YtpokkklfiehemaaDoor
open Go.ChangeShapes Go.WideShapes Go.ChangeAt Go.RowKit
set_option maxRecDepth 100000

set_option maxHeartbeats 1600000 in
theorem damage_walk {w : World} {A : Option Addr} {m : Nat} {a : List UInt8} (h c p q : Nat) (hh : h < 18446744073709551616) (hp : p < 65536) (_hq : q < 65536) (ha : SlB w A m a) (hT : TZ w) :
    Calls Tryd.prog 8 #[.int .u64 h, .slice A m c, .agg #[.int .u16 p, .int .u16 q]] w fun e w' => e = .returned (.bool true) ∧ Ext w w' := by
  have hle := ha.le
  have hEb : Ext w (w.alloc (Obj.cells #[.int .u16 p, .int .u16 q] 40)) := (Ext.refl w).alloc _
  have hb := Blk.new w 40 #[.int .u16 p, .int .u16 q]
  by_cases hm : 500 < m
  · have hm' : (500 : Int) < (m : Int) := by omega
    go_enter Tryd.func8, Tryd.ntmps8
    go_wp2_with (first
      | (go_at_call 10; refine Hid.out ?_))
    refine Hid.mk_ ((awake_dg (hT.ext hEb)).mono ?_)
    rintro e w1 ⟨rfl, hE1⟩
    go_wp2_with (first
      | (go_at_call 10; refine Hid.out ?_))
    refine Hid.mk_ ((awake_dg ((hT.ext hEb).ext hE1)).mono ?_)
    rintro e w2 ⟨rfl, hE2⟩
    go_wp2
    go_ret
    exact ⟨rfl, (hEb.trans hE1).trans hE2⟩
  · have hm' : ¬ (500 : Int) < (m : Int) := by omega
    go_enter Tryd.func8, Tryd.ntmps8
    go_wp2_with (first
      | (go_at_call 10; refine Hid.out ?_))
    refine Hid.mk_ ((awake_dg (hT.ext hEb)).mono ?_)
    rintro e w1 ⟨rfl, hE1⟩
    have hb1 := hb.below hE1 hb.lt
    have hE01 := hEb.trans hE1
    have ha1 := ha.ext hE01
    obtain ⟨g, hg⟩ : ∃ g, g = w.heap.size := ⟨_, rfl⟩
    rw [← hg] at hb1 ⊢
    have hgw1 := hb1.lt
    clear hg hb
    go_wp2_with (first
      | (go_at_call 17; refine Hid.out ?_))
    refine Hid.mk_ ((seal_any h c hh ha1 (by omega)).mono ?_)
    rintro e w2 ⟨A2, m2, c2, rfl, ho2, hE2⟩
    have hb2 := hb1.below hE2 hb1.lt
    have x0 : w2.cell? ⟨g, 0, none⟩ = some (.int .u16 p) := hb2.cell 0
    have x1 : w2.cell? ⟨g, 1, none⟩ = some (.int .u16 q) := hb2.cell 1
    have hl2 := ho2.len
    have hm2 : m2 ≤ 508 := by rw [sealL_len] at hl2; have h2 := ha.len; omega
    have hm28 : 8 ≤ m2 := by rw [sealL_len] at hl2; omega
    obtain ⟨t, ht⟩ : ∃ t, t = p % m2 := ⟨_, rfl⟩
    have htm : t < m2 := by rw [ht]; exact Nat.mod_lt _ (by omega)
    have hmod : ((p : Int).tmod (m2 : Int)) = (t : Int) := by rw [ht, Int.tmod_eq_emod_of_nonneg (by omega)]; rfl
    have hmod2 : ((p : Int) % (m2 : Int)) = (t : Int) := by rw [ht]; rfl
    obtain ⟨g2, hA2, hg2b, hg2l, hf2, ⟨x2, hx2⟩, hset⟩ := ho2.set_ htm
    subst hA2
    have hne : g2 ≠ g := by omega
    have hm20 : ((m2 : Int) == 0) = false := by rw [beq_eq_false_iff_ne]; omega
    have htl : t < (sealL h a).length := by rw [← hl2]; exact htm
    have hcell : w2.cell? ⟨g2, t, none⟩ = some (.int .u8 (((sealL h a)[t]).toNat : Int)) := by
      obtain ⟨b, off, hA, _, hc⟩ := ho2.sl.at_ htm
      injection hA with hA
      injection hA with h1 h2
      subst h1 h2
      have := hc t htl
      rwa [Nat.zero_add] at this
    have hi1 : (t : Int) < (m2 : Int) := by omega
    have HSET := Lib.hid hset
    have HL2 := Lib.hid hl2
    clear hx2 hset hl2 ht
    obtain ⟨y, hy⟩ : ∃ y, y = (sealL h a)[t] := ⟨_, rfl⟩
    rw [← hy] at hcell
    have HY := Lib.hid hy
    clear hy
    have hv : (UInt8.ofNat (q % 256)).toNat = q % 256 := by simp [UInt8.toNat_ofNat']
    have HSN := Lib.hid (fun (n : Nat) (x : Int) (hx : x = ((q % 256 : Nat) : Int)) => (ho2.ext ((Ext.refl w2).drewN n)).set2 htm (UInt8.ofNat (q % 256)) (n := x) (by rw [hx, hv]))
    have HEN := Lib.hid (fun (n : Nat) (x : Int) => ((Ext.refl w1).trans (hE2.drewN n)).set_ (p := ⟨g2, t, none⟩) hg2b (.int .u8 x))
    have hq8 : (q : Int) % 256 = ((q % 256 : Nat) : Int) := by omega
    by_cases he : y = UInt8.ofNat (q % 256)
    · have hyq : (y.toNat : Int) = ((q % 256 : Nat) : Int) := by rw [he, hv]
      have hb1 : ((y.toNat : Int) == ((q : Int) % 256)) = true := by rw [hyq, hq8]; simp
      clear hyq he hq8 hv
      go_wp2
      go_quiet (fail)
      go_wp2
      go_ret
      exact ⟨rfl, (hE01.trans hE2).drewN _⟩
    · have hyq : ¬ (y.toNat : Int) = (q : Int) % 256 := by
        intro e
        exact he (UInt8.toNat_inj.1 (by rw [hv]; omega))
      have hb1 : ((y.toNat : Int) == ((q : Int) % 256)) = false := beq_eq_false_iff_ne.2 hyq
      have hod := open_damage hh htl (v := UInt8.ofNat (q % 256)) (by rw [← HY.out]; exact he)
      have HOD := Lib.hid hod
      have HQ8 := Lib.hid hq8
      clear hyq he hv hod hq8
      go_wp2
      go_quiet (fail)
      go_wp2_with (first
        | (go_at_call 18; refine Hid.out ?_))
      refine Hid.mk_ ((open_any h c2 hh (HSN.out _ _ HQ8.out).sl ho2.cap (by omega)).mono ?_)
      rintro e w3 ⟨A3, m3, c3, rfl, hs3, hE3⟩
      rw [HOD.out] at hs3 ⊢
      have hm3 : m3 = 0 := hs3.len
      subst hm3
      go_wp2
      go_ret
      exact ⟨rfl, (hE01.trans (HEN.out _ _)).trans hE3⟩

set_option maxRecDepth 100000 in
theorem liftedDigestDamage (os : Os) (started : os.Started) (H : Type) (enc : TypeId × Value → H) :
    ReturnsInHanded {} Tryd.checked os 8 .any (fun w args => (Rows.digestDamageSpec.pre enc Tryd.prog Tryd.f8 [] false w args ∧ laidMetH Tryd.prog laidL w) ∧ sizedMet enc Tryd.prog Tryd.f8 (OpenSpec.ofChange Rows.digestDamageSpec) false w args) (Rows.digestDamageSpec.post enc Tryd.prog Tryd.f8 false true false false) := by
  refine returnsInHanded_of_change_and (C := Tryd.checked) (X := fun w _ => laidMetH Tryd.prog laidL w) (fun _ _ _ hh h => h.of_heap hh) ownK started (by kernel_rfl) Tryd.func8
    (ChangeSpec.witness_shaped (enc := enc) (C := Tryd.checked) (os := os) (X := fun w _ => laidMetH Tryd.prog laidL w) false (World.laidAll Tryd.prog os laidL) #[.int .u64 0, .slice none 0 0, .agg #[.int .u16 0, .int .u16 0]] 8 (World.laidAll_os _ _ _)
      (World.shaped_of_ZipB (by kernel_rfl) (by kernel_rfl)) (by kernel_rfl) (by kernel_rfl) (by kernel_rfl)
      (by rw [MakeChecks.laidMetH_plain _ _ _ (by kernel_rfl)]; exact laidMet_laidAll _ (by kernel_rfl) (by kernel_rfl))) ?_
  intro W base args ds gs before hval0 hW hcnd hsz0 hL _
  have hT := tz_of_laid hL
  have hval : ∀ (j : Nat) t v, Tryd.f8.params[j]? = some t → args[j]? = some v → Value.okWide Tryd.prog W .any base t v := hval0
  have hW' := hW
  obtain ⟨p, q, hA0, hV, rfl, hfz, hnd⟩ := hW
  have hA : DataW.TrodAll enc Tryd.prog W 0 (fun _ => true) true Tryd.f8.params.toList args.toList ds p := hA0
  have hsz : (DataW.weightsEach Tryd.prog (Tryd.f8.params.toList ++ Rows.digestDamageSpec.plain.varTypes Tryd.prog) (ds ++ gs)).all (· ≤ reachBytes) = true := hsz0
  rw [Tryd.params8] at hA hval hsz
  obtain ⟨v0, vs0, d0, ds0, p0, q0, hargs0, rfl, rfl, h0, r0⟩ := trodAll_cons hA
  obtain ⟨v1, vs1, d1, ds1, p1, q1, hargs1, rfl, rfl, h1, r1⟩ := trodAll_cons r0
  obtain ⟨v2, vs2, d2, ds2, p2, q2, hargs2, rfl, rfl, h2, r2⟩ := trodAll_cons r1
  obtain ⟨rfl, rfl, rfl⟩ := trodAll_nil r2
  obtain rfl : args = #[v0, v1, v2] := by cases args; simp_all
  obtain ⟨rfl, rfl⟩ := trodVars_none hV
  have k0 := h0
  have lt0 : ∀ x ∈ p0, x.block < W.heap.size := by obtain ⟨m, hm⟩ := k0; exact DataW.trod_lt m _ _ _ hm
  have k1 := h1
  have lt1 : ∀ x ∈ p1, x.block < W.heap.size := by obtain ⟨m, hm⟩ := k1; exact DataW.trod_lt m _ _ _ hm
  have k2 := h2
  have lt2 : ∀ x ∈ p2, x.block < W.heap.size := by obtain ⟨m, hm⟩ := k2; exact DataW.trod_lt m _ _ _ hm
  obtain ⟨n0, rfl, rfl, rfl, wn0⟩ := open_int Tryd.underlying22 (hval 0 22 v0 rfl rfl) h0
  obtain ⟨u0, rfl⟩ : ∃ u : Nat, n0 = u := ⟨n0.toNat, by have := bounds_u64 wn0; omega⟩
  have b0 : u0 < 18446744073709551616 := by have := bounds_u64 wn0; omega
  obtain ⟨A1, m1, c1, l1, rfl, w1, hc1, hb1⟩ := opn_top_bytes (hval 1 23 v1 rfl rfl) h1 (WOk.top hsz (j := 1) rfl rfl)
  obtain ⟨⟨x0, x1⟩, rfl, q0, q1⟩ := opn_top_agg opn_p16 (okWide_array Tryd.underlying40 (hval 2 40 v2 rfl rfl)) h2 (WOk.top hsz (j := 2) rfl rfl)
  clear hA0 hval0
  refine (damage_walk u0 c1 x0 x1 b0 q0 q1 w1 hT).mono fun e W' ⟨he, bel⟩ => ?_
  subst he
  exact ⟨_, rfl, _, _, _, [], _, [], hW', trodAll_mk1 (shut_bool Tryd.underlying4 _), (trodAll_cons_mk (shut_int Tryd.underlying22 wn0) (trodAll_cons_mk (Below.trod laidK (by kernel_rfl) (of_decide_eq_true (by kernel_rfl)) k1 bel lt1) (trodAll_cons_mk (Below.trod laidK (by kernel_rfl) (of_decide_eq_true (by kernel_rfl)) k2 bel lt2) trodAll_mk0))), rfl, Below.frame bel _, fun h => by cases h⟩
theorem DigestDamage_row : Rows.DigestDamageSaid :=
  OpenClaim.holds_of_wide 8 Tryd.f8 rfl rfl rfl rfl rfl rfl rfl ⟨rfl, rfl, rfl, rfl, rfl⟩ rfl rfl rfl rfl rfl (by kernel_rfl) Tryd.func8 (by kernel_rfl)
    (of_decide_eq_true (by kernel_rfl)) (by unfold Func.isWrapper; rw [if_neg (of_decide_eq_false (by kernel_rfl))]; exact ⟨rfl, rfl⟩)
    (fun os started H enc _ => liftedDigestDamage os started H enc)
theorem DigestDamage_holds : Rows.DigestDamageCardSaid :=
  Claim7.holds_tied_plain_at .later [] Rows.digestDamageCard.laidKinds true Rows.digestDamageCard.stood.harness true
    DigestDamage_row (fun _ h => by cases h) (by kernel_rfl) (fun _ h => by cases h) digestDamage_row_tie rfl ⟨rfl, rfl⟩ (by kernel_rfl) rfl
    (fun f fn hf hfn => by
      obtain rfl : f = 8 := Option.some.inj ((show Tryd.prog.funcNamed Rows.digestDamageRow.func = some 8 by kernel_rfl).symm.trans hf) |>.symm
      obtain rfl : fn = Tryd.f8 := (Option.some.inj (Tryd.func8.symm.trans hfn)).symm
      exact ⟨by kernel_rfl, fun j t ht => by
        rw [Tryd.params8] at ht
        have hm : t ∈ [22, 23, 40] := by simpa using Array.mem_of_getElem? ht
        have hall : ([22, 23, 40].all fun u => !Tryd.prog.wantsStandIn u) = true := by kernel_rfl
        exact (show Tryd.prog.wantsStandIn t = false by simpa using List.all_eq_true.1 hall t hm)⟩)
    (by kernel_rfl)
#print axioms DigestDamage_holds

end Go.Proofs.YtpokkklfiehemaaDoor
