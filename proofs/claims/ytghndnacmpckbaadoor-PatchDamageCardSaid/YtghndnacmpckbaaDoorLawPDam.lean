/- If exactly one byte of a patch that Make returned is changed, Apply returns ErrSum and no bytes. No condition. -/
import Derived.Test.YtghndnacmpckbaaDoorPatL
import Derived.Test.YtghndnacmpckbaaDoorPatR
import Derived.Test.YtghndnacmpckbaaDoorSet
import Derived.ProofKit
import Derived.OpenShut
import Derived.ShutString
import Derived.ChangeOld
import Derived.SizedLaws
namespace Go.Proofs.YtghndnacmpckbaaDoor
open Go.ChangeShapes Go.WideShapes Go.ChangeAt Go.RowKit
set_option maxRecDepth 100000

set_option maxHeartbeats 3200000 in
theorem pdamage_walk {w : World} {A B : Option Addr} {m k c d : Nat} {x y : List UInt8} (p q : Nat) (_hp : p < 65536) (hq : q < 256) (ha : SlB w A m x) (hb : SlB w B k y) (hmc : m ≤ c) (hkd : k ≤ d) (hT : Tb w) :
    Calls Tryd.prog 4 #[.slice A m c, .slice B k d, .agg #[.int .u16 p, .int .u8 q]] w fun e w' => e = .returned (.bool true) ∧ Ext w w' := by
  have HX := Lib.hid ha.len
  have HY := Lib.hid hb.len
  have hEb : Ext w (w.alloc (Obj.cells #[.int .u16 p, .int .u8 q] 25)) := (Ext.refl w).alloc _
  have hbk := Blk.new w 25 #[.int .u16 p, .int .u8 q]
  have HF := Lib.hid (fun W => few_pat (w := W) (A := A) (B := B) (m := m) (k := k) c d)
  by_cases hf : m ≤ 1000 ∧ k ≤ 1000
  case neg =>
    have hfe : (decide (m ≤ 1000) && decide (k ≤ 1000)) = false := by simp; omega
    rw [hfe] at HF
    clear hfe hf
    go_enter Tryd.func4, Tryd.ntmps4
    go_wp2_with (first
      | (go_at_call 8; refine Hid.out ?_))
    refine Hid.mk_ ((awake_pat (hT.ext hEb)).mono ?_)
    rintro e w1 ⟨rfl, hE1⟩
    go_wp2_with (first
      | (go_at_call 9; refine Hid.out ?_))
    refine Hid.mk_ ((HF.out _).mono ?_)
    rintro e w2 ⟨rfl, hE2⟩
    go_wp2_with (first
      | (go_at_call 8; refine Hid.out ?_))
    refine Hid.mk_ ((awake_pat (((hT.ext hEb).ext hE1).ext hE2)).mono ?_)
    rintro e w3 ⟨rfl, hE3⟩
    go_wp2
    go_ret
    exact ⟨rfl, ((hEb.trans hE1).trans hE2).trans hE3⟩
  case pos =>
    obtain ⟨hm, hk⟩ := hf
    rw [decide_eq_true hm, decide_eq_true hk] at HF
    go_enter Tryd.func4, Tryd.ntmps4
    go_wp2_with (first
      | (go_at_call 8; refine Hid.out ?_))
    refine Hid.mk_ ((awake_pat (hT.ext hEb)).mono ?_)
    rintro e w1 ⟨rfl, hE1⟩
    go_wp2_with (first
      | (go_at_call 9; refine Hid.out ?_))
    refine Hid.mk_ ((HF.out _).mono ?_)
    rintro e w2 ⟨rfl, hE2⟩
    have hE02 := (hEb.trans hE1).trans hE2
    go_wp2_with (first
      | (go_at_call 10; refine Hid.out ?_))
    refine Hid.mk_ ((make_any c d (ha.ext hE02) (hb.ext hE02) hmc hkd (by omega) (by omega) (hT.ext hE02).tz).mono ?_)
    rintro e w3 ⟨⟨A2, m2, c2, b, e1, rfl, ho2, hMk⟩, hE3⟩
    have hE03 := hE02.trans hE3
    have hb3 := hbk.below ((hE1.trans hE2).trans hE3) hbk.lt
    obtain ⟨g, hg⟩ : ∃ g, g = w.heap.size := ⟨_, rfl⟩
    have hgw : g < w2.heap.size := by
      have h1 := (hbk.below (hE1.trans hE2) hbk.lt).lt
      omega
    rw [← hg] at hb3 ⊢
    clear hg hbk HF
    have x0 : w3.cell? ⟨g, 0, none⟩ = some (.int .u16 p) := hb3.cell 0
    have x1 : w3.cell? ⟨g, 1, none⟩ = some (.int .u8 q) := hb3.cell 1
    have hlen := made_len hMk
    obtain ⟨z, hz⟩ : ∃ z, z = encP (mkC x y b e1) := ⟨_, rfl⟩
    rw [← hz] at ho2 hlen
    have hl2 := ho2.len
    have hyl := HY.out
    have hm2 : m2 ≤ 1250 := by omega
    have hm28 : 8 ≤ m2 := by omega
    clear hlen hz hyl
    obtain ⟨t, ht⟩ : ∃ t, t = p % m2 := ⟨_, rfl⟩
    have htm : t < m2 := by rw [ht]; exact Nat.mod_lt _ (by omega)
    have hmod : ((p : Int).tmod (m2 : Int)) = (t : Int) := by rw [ht, Int.tmod_eq_emod_of_nonneg (by omega)]; rfl
    have hmod2 : ((p : Int) % (m2 : Int)) = (t : Int) := by rw [ht]; rfl
    obtain ⟨g2, hA2, hg2b, hg2l, hf2, ⟨x2, hx2⟩, hset⟩ := ho2.set_ htm
    subst hA2
    have hne : g2 ≠ g := by omega
    have hm20 : ((m2 : Int) == 0) = false := by rw [beq_eq_false_iff_ne]; omega
    have htl : t < (sealL pkey z).length := by rw [← hl2]; exact htm
    have hcell : w3.cell? ⟨g2, t, none⟩ = some (.int .u8 (((sealL pkey z)[t]).toNat : Int)) := by
      obtain ⟨b, off, hA, _, hc⟩ := ho2.sl.at_ htm
      injection hA with hA
      injection hA with h1 h2
      subst h1 h2
      have := hc t htl
      rwa [Nat.zero_add] at this
    have hi1 : (t : Int) < (m2 : Int) := by omega
    have HSET := Lib.hid hset
    have HL2 := Lib.hid hl2
    clear hx2 hset hl2 ht
    obtain ⟨u, hu⟩ : ∃ u, u = (sealL pkey z)[t] := ⟨_, rfl⟩
    rw [← hu] at hcell
    have HU := Lib.hid hu
    clear hu
    have hv : (UInt8.ofNat q).toNat = q := by rw [UInt8.toNat_ofNat']; omega
    have HSN := Lib.hid (fun (n : Nat) => (ho2.ext ((Ext.refl w3).drewN n)).set2 htm (UInt8.ofNat q) (n := (q : Int)) (by rw [hv]))
    have HEN := Lib.hid (fun (n : Nat) => (hE02.trans (hE3.drewN n)).set_ (p := ⟨g2, t, none⟩) (Nat.le_trans hE02.size_le hg2b) (.int .u8 q))
    have HCAP := Lib.hid ho2.cap
    by_cases he : u = UInt8.ofNat q
    · have hyq : (u.toNat : Int) = (q : Int) := by rw [he, hv]
      have hb1 : ((u.toNat : Int) == (q : Int)) = true := by rw [hyq]; simp
      clear hyq he hv
      go_wp2
      go_quiet (fail)
      go_wp2
      go_ret
      exact ⟨rfl, hE03.drewN _⟩
    · have hyq : ¬ (u.toNat : Int) = (q : Int) := by
        intro e
        exact he (UInt8.toNat_inj.1 (by rw [hv]; omega))
      have hb1 : ((u.toNat : Int) == (q : Int)) = false := beq_eq_false_iff_ne.2 hyq
      have hod := open_damage (h := pkey) (by decide) htl (v := UInt8.ofNat q) (by rw [← HU.out]; exact he)
      have HOD := Lib.hid (congrArg Prod.snd hod)
      clear hyq he hv hod
      go_wp2
      go_quiet (fail)
      go_wp2_with (first
        | (go_at_call 11; refine Hid.out ?_))
      refine Hid.mk_ ((papply_any c c2 (ha.ext (HEN.out _)) hmc (by omega) (HSN.out _).sl HCAP.out (by omega) (hT.ext (HEN.out _))).mono ?_)
      rintro e w4 ⟨⟨A3, m3, c3, l3, code, rfl, ho3, hA3⟩, hE4⟩
      obtain ⟨rfl, rfl⟩ := Prod.mk.inj (ap_bad HOD.out (by decide) hA3)
      have hm3 : m3 = 0 := ho3.len
      subst hm3
      clear hA3
      go_wp2
      go_ret
      exact ⟨rfl, (HEN.out _).trans hE4⟩

set_option maxRecDepth 100000 in
theorem liftedPatchDamage (os : Os) (started : os.Started) (H : Type) (enc : TypeId × Value → H) :
    ReturnsInHanded {} Tryd.checked os 4 .any (fun w args => (Rows.patchDamageSpec.pre enc Tryd.prog Tryd.f4 [] false w args ∧ laidMetH Tryd.prog laidL w) ∧ sizedMet enc Tryd.prog Tryd.f4 (OpenSpec.ofChange Rows.patchDamageSpec) false w args) (Rows.patchDamageSpec.post enc Tryd.prog Tryd.f4 false true false false) := by
  refine returnsInHanded_of_change_and (C := Tryd.checked) (X := fun w _ => laidMetH Tryd.prog laidL w) (fun _ _ _ hh h => h.of_heap hh) ownK started (by kernel_rfl) Tryd.func4
    (ChangeSpec.witness_shaped (enc := enc) (C := Tryd.checked) (os := os) (X := fun w _ => laidMetH Tryd.prog laidL w) false (World.laidAll Tryd.prog os laidL) #[.slice none 0 0, .slice none 0 0, .agg #[.int .u16 0, .int .u8 0]] 8 (World.laidAll_os _ _ _)
      (World.shaped_of_ZipB (by kernel_rfl) (by kernel_rfl)) (by kernel_rfl) (by kernel_rfl) (by kernel_rfl)
      (by rw [MakeChecks.laidMetH_plain _ _ _ (by kernel_rfl)]; exact laidMet_laidAll _ (by kernel_rfl) (by kernel_rfl))) ?_
  intro W base args ds gs before hval0 hW hcnd hsz0 hL _
  have hT := tb_of_laid hL
  have hval : ∀ (j : Nat) t v, Tryd.f4.params[j]? = some t → args[j]? = some v → Value.okWide Tryd.prog W .any base t v := hval0
  have hW' := hW
  obtain ⟨p, q, hA0, hV, rfl, hfz, hnd⟩ := hW
  have hA : DataW.TrodAll enc Tryd.prog W 0 (fun _ => true) true Tryd.f4.params.toList args.toList ds p := hA0
  have hsz : (DataW.weightsEach Tryd.prog (Tryd.f4.params.toList ++ Rows.patchDamageSpec.plain.varTypes Tryd.prog) (ds ++ gs)).all (· ≤ reachBytes) = true := hsz0
  rw [Tryd.params4] at hA hval hsz
  obtain ⟨v0, vs0, d0, ds0, p0, q0, hargs0, rfl, rfl, h0, r0⟩ := trodAll_cons hA
  obtain ⟨v1, vs1, d1, ds1, p1, q1, hargs1, rfl, rfl, h1, r1⟩ := trodAll_cons r0
  obtain ⟨v2, vs2, d2, ds2, p2, q2, hargs2, rfl, rfl, h2, r2⟩ := trodAll_cons r1
  obtain ⟨rfl, rfl, rfl⟩ := trodAll_nil r2
  obtain rfl : args = #[v0, v1, v2] := by cases args; simp_all
  obtain ⟨rfl, rfl⟩ := trodVars_none hV
  have k0 := h0
  have lt0 : ∀ x ∈ p0, x.block < W.heap.size := by obtain ⟨m, hm⟩ := k0; exact DataW.trod_lt m _ _ _ hm
  have k1 := h1
  have lt1 : ∀ x ∈ p1, x.block < W.heap.size := by obtain ⟨m, hm⟩ := k1; exact DataW.trod_lt m _ _ _ hm
  have k2 := h2
  have lt2 : ∀ x ∈ p2, x.block < W.heap.size := by obtain ⟨m, hm⟩ := k2; exact DataW.trod_lt m _ _ _ hm
  obtain ⟨A0, m0, c0, l0, rfl, w0, hc0, hb0⟩ := opn_top_bytes (hval 0 22 v0 rfl rfl) h0 (WOk.top hsz (j := 0) rfl rfl)
  obtain ⟨A1, m1, c1, l1, rfl, w1, hc1, hb1⟩ := opn_top_bytes (hval 1 22 v1 rfl rfl) h1 (WOk.top hsz (j := 1) rfl rfl)
  obtain ⟨x2, rfl, g2⟩ := opn_top_agg opn_chg ((okWide_struct Tryd.underlying25 (hval 2 25 v2 rfl rfl)).imp fun _ hh => hh.1) h2 (WOk.top hsz (j := 2) rfl rfl)
  obtain ⟨p2, q2⟩ := x2
  clear hA0 hval0
  refine (pdamage_walk p2 q2 g2.1 g2.2 w0 w1 hc0 hc1 hT).mono fun e W' ⟨he, bel⟩ => ?_
  subst he
  exact ⟨_, rfl, _, _, _, [], _, [], hW', trodAll_mk1 (shut_bool Tryd.underlying4 _), (trodAll_cons_mk (Below.trod laidK (by kernel_rfl) (of_decide_eq_true (by kernel_rfl)) k0 bel lt0) (trodAll_cons_mk (Below.trod laidK (by kernel_rfl) (of_decide_eq_true (by kernel_rfl)) k1 bel lt1) (trodAll_cons_mk (Below.trod laidK (by kernel_rfl) (of_decide_eq_true (by kernel_rfl)) k2 bel lt2) trodAll_mk0))), rfl, Below.frame bel _, fun h => by cases h⟩
theorem PatchDamage_row : Rows.PatchDamageSaid :=
  OpenClaim.holds_of_wide 4 Tryd.f4 rfl rfl rfl rfl rfl rfl rfl ⟨rfl, rfl, rfl, rfl, rfl⟩ rfl rfl rfl rfl rfl (by kernel_rfl) Tryd.func4 (by kernel_rfl)
    (of_decide_eq_true (by kernel_rfl)) (by unfold Func.isWrapper; rw [if_neg (of_decide_eq_false (by kernel_rfl))]; exact ⟨rfl, rfl⟩)
    (fun os started H enc _ => liftedPatchDamage os started H enc)
theorem PatchDamage_holds : Rows.PatchDamageCardSaid :=
  Claim7.holds_tied_plain_at .later [] Rows.patchDamageCard.laidKinds true Rows.patchDamageCard.stood.harness Rows.patchDamageCard.stood.looks
    PatchDamage_row (fun _ h => by cases h) (by kernel_rfl) (fun _ h => by cases h) patchDamage_row_tie rfl ⟨rfl, rfl⟩ (by kernel_rfl) rfl
    (fun f fn hf hfn => by
      obtain rfl : f = 4 := Option.some.inj ((show Tryd.prog.funcNamed Rows.patchDamageRow.func = some 4 by kernel_rfl).symm.trans hf) |>.symm
      obtain rfl : fn = Tryd.f4 := (Option.some.inj (Tryd.func4.symm.trans hfn)).symm
      exact ⟨by kernel_rfl, fun j t ht => by
        rw [Tryd.params4] at ht
        have hm : t ∈ [22, 25] := by simpa using Array.mem_of_getElem? ht
        have hall : ([22, 25].all fun u => !Tryd.prog.wantsStandIn u) = true := by kernel_rfl
        exact (show Tryd.prog.wantsStandIn t = false by simpa using List.all_eq_true.1 hall t hm)⟩)
    (by kernel_rfl)
#print axioms PatchDamage_holds

end Go.Proofs.YtghndnacmpckbaaDoor
