/- From different numbers, digests of the same bytes are different; and if exactly one byte is changed, the digest changes. No condition. -/
import Derived.Test.YtpokkklfiehemaaDoorRefText
import Derived.Test.YtpokkklfiehemaaDoorDigCard
import Derived.Test.YtpokkklfiehemaaDoorReadB
import Derived.Test.YtpokkklfiehemaaDoorReadP
import Derived.Test.YtpokkklfiehemaaDoorDigPl
import Derived.Test.YtpokkklfiehemaaDoorSet
import Derived.ProofKit
import Derived.OpenShut
import Derived.ShutString
import Derived.ChangeOld
import Derived.SizedLaws
namespace Go.Proofs.YtpokkklfiehemaaDoor
open Go.ChangeShapes Go.WideShapes Go.ChangeAt Go.RowKit
set_option maxRecDepth 100000

set_option maxHeartbeats 3200000 in
theorem one_walk {w : World} {A : Option Addr} {m : Nat} {a : List UInt8} (h0 h1 c p q : Nat) (hh0 : h0 < 18446744073709551616) (hh1 : h1 < 18446744073709551616) (hp : p < 256) (hq : q < 256) (ha : SlB w A m a) (hT : TZ w) :
    Calls Tryd.prog 5 #[.agg #[.int .u64 h0, .int .u64 h1], .slice A m c, .agg #[.int .u8 p, .int .u8 q]] w fun e w' => e = .returned (.bool true) ∧ Ext w w' := by
  have hle := ha.le
  have hEb : Ext w ((w.alloc (Obj.cells #[.int .u64 h0, .int .u64 h1] 30)).alloc (Obj.cells #[.int .u8 p, .int .u8 q] 31)) := ((Ext.refl w).alloc _).alloc _
  have hb := (Blk.new w 30 #[.int .u64 h0, .int .u64 h1]).alloc (Obj.cells #[.int .u8 p, .int .u8 q] 31)
  have hc : Blk ((w.alloc (Obj.cells #[.int .u64 h0, .int .u64 h1] 30)).alloc (Obj.cells #[.int .u8 p, .int .u8 q] 31)) (w.heap.size + 1) 31 #[.int .u8 p, .int .u8 q] := by
    have h := Blk.new (w.alloc (Obj.cells #[.int .u64 h0, .int .u64 h1] 30)) 31 #[.int .u8 p, .int .u8 q]
    simpa using h
  by_cases hm : 500 < m
  · have hm' : (500 : Int) < (m : Int) := by omega
    go_enter Tryd.func5, Tryd.ntmps5
    go_wp2_with (first
      | (go_at_call 10; refine Hid.out ?_))
    refine Hid.mk_ ((awake_dg (hT.ext hEb)).mono ?_)
    rintro e w1 ⟨rfl, hE1⟩
    go_wp2_with (first
      | (go_at_call 10; refine Hid.out ?_))
    refine Hid.mk_ ((awake_dg ((hT.ext hEb).ext hE1)).mono ?_)
    rintro e w2 ⟨rfl, hE2⟩
    go_wp2
    go_ret
    exact ⟨rfl, (hEb.trans hE1).trans hE2⟩
  · have hm' : ¬ (500 : Int) < (m : Int) := by omega
    go_enter Tryd.func5, Tryd.ntmps5
    go_wp2_with (first
      | (go_at_call 10; refine Hid.out ?_))
    refine Hid.mk_ ((awake_dg (hT.ext hEb)).mono ?_)
    rintro e w1 ⟨rfl, hE1⟩
    have hb1 := hb.below hE1 hb.lt
    have hc1 := hc.below hE1 hc.lt
    have hE01 := hEb.trans hE1
    have ha1 := ha.ext hE01
    obtain ⟨g, hg⟩ : ∃ g, g = w.heap.size := ⟨_, rfl⟩
    go_wp2
    rw [← hg] at hb1 hc1 ⊢
    have x0 : w1.cell? ⟨g, 0, none⟩ = some (.int .u64 h0) := hb1.cell 0
    have x1 : w1.cell? ⟨g, 1, none⟩ = some (.int .u64 h1) := hb1.cell 1
    have y0 : w1.cell? ⟨g + 1, 0, none⟩ = some (.int .u8 p) := hc1.cell 0
    have y1 : w1.cell? ⟨g + 1, 1, none⟩ = some (.int .u8 q) := hc1.cell 1
    clear hg hb hc hE1 hEb
    have htest : (((dig h0 a : Nat) : Int) == ((dig h1 a : Nat) : Int)) = ((h0 : Int) == (h1 : Int)) := by
      rw [Bool.eq_iff_iff, beq_iff_eq, beq_iff_eq]
      constructor
      · intro e
        have := (dig_inj hh0 hh1 a).1 (by omega)
        omega
      · intro e
        have e2 : h0 = h1 := by omega
        rw [e2]
    obtain ⟨bq, hbq⟩ : ∃ bq, bq = ((h0 : Int) == (h1 : Int)) := ⟨_, rfl⟩
    rw [← hbq] at htest
    have hbq2 := hbq.symm
    clear hbq
    have hxx : (bq != bq) = false := by simp
    go_quiet ((go_at_call 11; exact Calls.quiet_of_same (from_any _ c (by assumption) (ha1.ext ((Ext.refl w1).drewN _)))))
    obtain ⟨wd, hwd⟩ : ∃ wd, wd = w1.drewN nq := ⟨_, rfl⟩
    have hE1d : Ext w1 wd := by rw [hwd]; exact (Ext.refl w1).drewN nq
    rw [← hwd]
    have had := ha1.ext hE1d
    have hbd := hb1.below hE1d hb1.lt
    have hcd := hc1.below hE1d hc1.lt
    have x0d := later hE1d x0
    have y0d := later hE1d y0
    have y1d := later hE1d y1
    have hE0d := hE01.trans hE1d
    have hgl := hcd.lt
    clear x0 x1 y0 y1 hb1 hc1 hwd htest hbq2 hxx ha1 hE1d
    by_cases hm0 : m = 0
    · subst hm0
      go_wp2
      go_ret
      exact ⟨rfl, hE0d⟩
    · have hmp : (0 : Int) < (m : Int) := by omega
      have hm0b : ((m : Int) == 0) = false := by rw [beq_eq_false_iff_ne]; omega
      have hal := had.len
      obtain ⟨t, ht⟩ : ∃ t, t = p % m := ⟨_, rfl⟩
      have htm : t < m := by rw [ht]; exact Nat.mod_lt _ (by omega)
      have hmod : ((p : Int).tmod (m : Int)) = (t : Int) := by rw [ht, Int.tmod_eq_emod_of_nonneg (by omega)]; rfl
      have hmod2 : ((p : Int) % (m : Int)) = (t : Int) := by rw [ht]; rfl
      have hta : t < a.length := by rw [← hal]; exact htm
      have HAL := Lib.hid hal
      clear ht hal hm0
      go_wp2_with (first
        | (at_builtin; refine Hid.out ?_))
      refine Hid.mk_ ?_
      refine appB rfl _ _ rfl (OsB.new_ wd wd.heap.size (Nat.le_refl _) [] (by simp) _ rfl 0 rfl) rfl (had.ext ((Ext.refl _).alloc _)) rfl (by omega) (by simp) ?_
      intro A3 m3 c3 w3 ho3 hg3 hat3
      have hE3 : Ext wd w3 := ((Ext.refl wd).alloc _).grown hg3 (by intro k hk; simp [ob] at hk; omega)
      rw [List.nil_append] at ho3
      obtain rfl : m3 = m := by rw [ho3.len, HAL.out]
      obtain ⟨g2, hA2, hg2b, hg2l, hf2, ⟨x2, hx2⟩, _⟩ := ho3.set_ htm
      subst hA2
      have x03 := later hE3 x0d
      have y03 := later hE3 y0d
      have y13 := later hE3 y1d
      have hi1 : (t : Int) < (m3 : Int) := by omega
      obtain ⟨b, off, rfl, hbl, hcs⟩ := (had.ext hE3).at_ htm
      obtain ⟨y, hy⟩ : ∃ y, y = a[t] := ⟨_, rfl⟩
      have hct := hcs t hta
      rw [← hy] at hct
      have hbl2 := World.block_lt_of_cell? _ _ (hcs t hta)
      obtain ⟨_, _, hA4, hbl3, _⟩ := had.at_ htm
      injection hA4 with hA4
      injection hA4 with hA4 hA5
      subst hA4 hA5
      have hv : (UInt8.ofNat q).toNat = q := by simp [UInt8.toNat_ofNat']; omega
      have ho5 := ho3.set2 htm (UInt8.ofNat q) (n := q) (by rw [hv])
      have hE5 : Ext wd (w3.setCell ⟨g2, t, none⟩ (.int .u8 q)) := hE3.set_ hg2b _
      have hne : g2 ≠ b := by omega
      have HY := Lib.hid hy
      clear hcs hy hmod2 hbl2
      go_wp2
      obtain ⟨w5, hw5⟩ : ∃ w5, w5 = w3.setCell ⟨g2, t, none⟩ (.int .u8 q) := ⟨_, rfl⟩
      rw [← hw5] at ho5 hE5 ⊢
      have x05 := later hE5 x0d
      have y15 := later hE5 y1d
      have hb5 := had.ext hE5
      have hc5 := ho5.sl
      have hct5 : w5.cell? ⟨b, off + t, none⟩ = some (.int .u8 (y.toNat : Int)) := by
        obtain ⟨_, _, hA6, _, hcs⟩ := hb5.at_ htm
        injection hA6 with hA6
        injection hA6 with hA6 hA7
        subst hA6 hA7
        rw [HY.out]
        exact hcs t hta
      have hE05 := hE0d.trans hE5
      have HX := Lib.hid (fun (w' : World) (hE : Ext w5 w') => (⟨later hE x05, later hE y15, later hE hct5⟩ : w'.cell? ⟨g, 0, none⟩ = some (.int .u64 h0) ∧ w'.cell? ⟨g + 1, 1, none⟩ = some (.int .u8 q) ∧ w'.cell? ⟨b, off + t, none⟩ = some (.int .u8 (y.toNat : Int))))
      clear x0d y0d y1d x03 y03 y13 hct hx2 hf2 hw5
      by_cases he : y = UInt8.ofNat q
      · have hyq : (y.toNat : Int) = (q : Int) := by rw [he, hv]
        have hb1 : ((y.toNat : Int) == (q : Int)) = true := by rw [hyq]; simp
        have hset : a.set t (UInt8.ofNat q) = a := by rw [← he, HY.out, List.set_getElem_self]
        rw [hset] at hc5
        clear hyq he hv hset ho5 ho3
        go_region_held3 (fun w' => w'.cell? ⟨g, 0, none⟩ = some (.int .u64 h0) ∧ w'.cell? ⟨g + 1, 1, none⟩ = some (.int .u8 q) ∧ w'.cell? ⟨b, off + t, none⟩ = some (.int .u8 (y.toNat : Int)))
          (first | go_keep | assumption)
          (first
            | (go_at_call 11; refine (from_any h0 c3 hh0 (hc6.ext hF1)).mono ?_; rintro e w9 ⟨rfl, rfl⟩)
            | (go_at_call 11; refine (from_any h0 c hh0 hb7).mono ?_; rintro e w8 ⟨rfl, rfl⟩; have hF1 := Ext.refl w8; have hc6 := hc6; have hE57 := hE57)
            | (go_at_call 13; refine (sum_any c3 hc6').mono ?_; rintro e w7 ⟨rfl, hE7⟩; have hE57 := hE56.trans hE7; have hb7 := hb5.ext hE57; have hc6 := hc5.ext hE57; obtain ⟨z0, z1, z2⟩ := HX.out _ hE57)
            | (go_at_call 13; refine (sum_any c (hb5.ext (Ext.refl _).drew)).mono ?_; rintro e w6 ⟨rfl, hE6⟩; have hE56 := ((Ext.refl w5).drew).trans hE6; have hc6' := hc5.ext hE56; obtain ⟨z0, z1, z2⟩ := HX.out _ hE56)
            | fail)
        all_goals
          go_wp2
          go_ret
          exact ⟨rfl, hE05.trans hE57⟩
      · have hyq : ¬ (y.toNat : Int) = (q : Int) := fun e => he (UInt8.toNat_inj.1 (by rw [hv]; omega))
        have hb1 : ((y.toNat : Int) == (q : Int)) = false := beq_eq_false_iff_ne.2 hyq
        have hs1 : ((sealN dStart a : Nat) : Int) ≠ ((sealN dStart (a.set t (UInt8.ofNat q)) : Nat) : Int) := fun e => he (by rw [HY.out]; exact (seal_set (h := dStart) (by decide) hta _).1 (by omega))
        have hd1 : ((dig h0 a : Nat) : Int) ≠ ((dig h0 (a.set t (UInt8.ofNat q)) : Nat) : Int) := fun e => he (by rw [HY.out]; exact (dig_set hh0 hta _).1 (by omega))
        have hs2 := beq_eq_false_iff_ne.2 hs1
        have hd2 := beq_eq_false_iff_ne.2 hd1
        clear hyq he hv ho5 ho3 hs1 hd1
        go_region_held3 (fun w' => w'.cell? ⟨g, 0, none⟩ = some (.int .u64 h0) ∧ w'.cell? ⟨g + 1, 1, none⟩ = some (.int .u8 q) ∧ w'.cell? ⟨b, off + t, none⟩ = some (.int .u8 (y.toNat : Int)))
          (first | go_keep | assumption)
          (first
            | (go_at_call 11; refine (from_any h0 c3 hh0 (hc6.ext hF1)).mono ?_; rintro e w9 ⟨rfl, rfl⟩)
            | (go_at_call 11; refine (from_any h0 c hh0 hb7).mono ?_; rintro e w8 ⟨rfl, rfl⟩; have hF1 := Ext.refl w8; have hc6 := hc6; have hE57 := hE57)
            | (go_at_call 13; refine (sum_any c3 hc6').mono ?_; rintro e w7 ⟨rfl, hE7⟩; have hE57 := hE56.trans hE7; have hb7 := hb5.ext hE57; have hc6 := hc5.ext hE57; obtain ⟨z0, z1, z2⟩ := HX.out _ hE57)
            | (go_at_call 13; refine (sum_any c (hb5.ext (Ext.refl _).drew)).mono ?_; rintro e w6 ⟨rfl, hE6⟩; have hE56 := ((Ext.refl w5).drew).trans hE6; have hc6' := hc5.ext hE56; obtain ⟨z0, z1, z2⟩ := HX.out _ hE56)
            | fail)
        all_goals
          go_wp2
          go_ret
          exact ⟨rfl, hE05.trans hE57⟩

set_option maxRecDepth 100000 in
theorem liftedDigestOne (os : Os) (started : os.Started) (H : Type) (enc : TypeId × Value → H) :
    ReturnsInHanded {} Tryd.checked os 5 .any (fun w args => (Rows.digestOneSpec.pre enc Tryd.prog Tryd.f5 [] false w args ∧ laidMetH Tryd.prog laidL w) ∧ sizedMet enc Tryd.prog Tryd.f5 (OpenSpec.ofChange Rows.digestOneSpec) false w args) (Rows.digestOneSpec.post enc Tryd.prog Tryd.f5 false true false false) := by
  refine returnsInHanded_of_change_and (C := Tryd.checked) (X := fun w _ => laidMetH Tryd.prog laidL w) (fun _ _ _ hh h => h.of_heap hh) ownK started (by kernel_rfl) Tryd.func5
    (ChangeSpec.witness_shaped (enc := enc) (C := Tryd.checked) (os := os) (X := fun w _ => laidMetH Tryd.prog laidL w) false (World.laidAll Tryd.prog os laidL) #[.agg #[.int .u64 0, .int .u64 0], .slice none 0 0, .agg #[.int .u8 0, .int .u8 0]] 8 (World.laidAll_os _ _ _)
      (World.shaped_of_ZipB (by kernel_rfl) (by kernel_rfl)) (by kernel_rfl) (by kernel_rfl) (by kernel_rfl)
      (by rw [MakeChecks.laidMetH_plain _ _ _ (by kernel_rfl)]; exact laidMet_laidAll _ (by kernel_rfl) (by kernel_rfl))) ?_
  intro W base args ds gs before hval0 hW hcnd hsz0 hL _
  have hT := tz_of_laid hL
  have hval : ∀ (j : Nat) t v, Tryd.f5.params[j]? = some t → args[j]? = some v → Value.okWide Tryd.prog W .any base t v := hval0
  have hW' := hW
  obtain ⟨p, q, hA0, hV, rfl, hfz, hnd⟩ := hW
  have hA : DataW.TrodAll enc Tryd.prog W 0 (fun _ => true) true Tryd.f5.params.toList args.toList ds p := hA0
  have hsz : (DataW.weightsEach Tryd.prog (Tryd.f5.params.toList ++ Rows.digestOneSpec.plain.varTypes Tryd.prog) (ds ++ gs)).all (· ≤ reachBytes) = true := hsz0
  rw [Tryd.params5] at hA hval hsz
  obtain ⟨v0, vs0, d0, ds0, p0, q0, hargs0, rfl, rfl, h0, r0⟩ := trodAll_cons hA
  obtain ⟨v1, vs1, d1, ds1, p1, q1, hargs1, rfl, rfl, h1, r1⟩ := trodAll_cons r0
  obtain ⟨v2, vs2, d2, ds2, p2, q2, hargs2, rfl, rfl, h2, r2⟩ := trodAll_cons r1
  obtain ⟨rfl, rfl, rfl⟩ := trodAll_nil r2
  obtain rfl : args = #[v0, v1, v2] := by cases args; simp_all
  obtain ⟨rfl, rfl⟩ := trodVars_none hV
  have k0 := h0
  have lt0 : ∀ x ∈ p0, x.block < W.heap.size := by obtain ⟨m, hm⟩ := k0; exact DataW.trod_lt m _ _ _ hm
  have k1 := h1
  have lt1 : ∀ x ∈ p1, x.block < W.heap.size := by obtain ⟨m, hm⟩ := k1; exact DataW.trod_lt m _ _ _ hm
  have k2 := h2
  have lt2 : ∀ x ∈ p2, x.block < W.heap.size := by obtain ⟨m, hm⟩ := k2; exact DataW.trod_lt m _ _ _ hm
  obtain ⟨⟨y0, y1⟩, rfl, b0, b1⟩ := opn_top_agg opn_p64 (okWide_array Tryd.underlying30 (hval 0 30 v0 rfl rfl)) h0 (WOk.top hsz (j := 0) rfl rfl)
  obtain ⟨A1, m1, c1, l1, rfl, w1, hc1, hb1⟩ := opn_top_bytes (hval 1 23 v1 rfl rfl) h1 (WOk.top hsz (j := 1) rfl rfl)
  obtain ⟨⟨x0, x1⟩, rfl, q0, q1⟩ := opn_top_agg opn_p8 (okWide_array Tryd.underlying31 (hval 2 31 v2 rfl rfl)) h2 (WOk.top hsz (j := 2) rfl rfl)
  clear hA0 hval0
  refine (one_walk y0 y1 c1 x0 x1 b0 b1 q0 q1 w1 hT).mono fun e W' ⟨he, bel⟩ => ?_
  subst he
  exact ⟨_, rfl, _, _, _, [], _, [], hW', trodAll_mk1 (shut_bool Tryd.underlying4 _), (trodAll_cons_mk (Below.trod laidK (by kernel_rfl) (of_decide_eq_true (by kernel_rfl)) k0 bel lt0) (trodAll_cons_mk (Below.trod laidK (by kernel_rfl) (of_decide_eq_true (by kernel_rfl)) k1 bel lt1) (trodAll_cons_mk (Below.trod laidK (by kernel_rfl) (of_decide_eq_true (by kernel_rfl)) k2 bel lt2) trodAll_mk0))), rfl, Below.frame bel _, fun h => by cases h⟩
theorem DigestOne_row : Rows.DigestOneSaid :=
  OpenClaim.holds_of_wide 5 Tryd.f5 rfl rfl rfl rfl rfl rfl rfl ⟨rfl, rfl, rfl, rfl, rfl⟩ rfl rfl rfl rfl rfl (by kernel_rfl) Tryd.func5 (by kernel_rfl)
    (of_decide_eq_true (by kernel_rfl)) (by unfold Func.isWrapper; rw [if_neg (of_decide_eq_false (by kernel_rfl))]; exact ⟨rfl, rfl⟩)
    (fun os started H enc _ => liftedDigestOne os started H enc)
theorem DigestOne_holds : Rows.DigestOneCardSaid :=
  Claim7.holds_tied_plain_at .later [] Rows.digestOneCard.laidKinds true Rows.digestOneCard.stood.harness true
    DigestOne_row (fun _ h => by cases h) (by kernel_rfl) (fun _ h => by cases h) digestOne_row_tie rfl ⟨rfl, rfl⟩ (by kernel_rfl) rfl
    (fun f fn hf hfn => by
      obtain rfl : f = 5 := Option.some.inj ((show Tryd.prog.funcNamed Rows.digestOneRow.func = some 5 by kernel_rfl).symm.trans hf) |>.symm
      obtain rfl : fn = Tryd.f5 := (Option.some.inj (Tryd.func5.symm.trans hfn)).symm
      exact ⟨by kernel_rfl, fun j t ht => by
        rw [Tryd.params5] at ht
        have hm : t ∈ [30, 23, 31] := by simpa using Array.mem_of_getElem? ht
        have hall : ([30, 23, 31].all fun u => !Tryd.prog.wantsStandIn u) = true := by kernel_rfl
        exact (show Tryd.prog.wantsStandIn t = false by simpa using List.all_eq_true.1 hall t hm)⟩)
    (by kernel_rfl)
#print axioms DigestOne_holds

end Go.Proofs.YtpokkklfiehemaaDoor
