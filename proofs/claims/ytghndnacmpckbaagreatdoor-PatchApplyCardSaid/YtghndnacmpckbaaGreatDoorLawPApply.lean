/- For the patch with any content, for any sealed bytes and for any bytes, Apply and Sizes return the specified results or errors. No condition. -/
import Derived.Test.YtghndnacmpckbaaGreatDoorPatG
import Derived.ProofKit
import Derived.OpenShut
import Derived.ShutString
import Derived.ChangeOld
import Derived.SizedLaws
namespace Go.Proofs.YtghndnacmpckbaaGreatDoor
open Go.ChangeShapes Go.WideShapes Go.ChangeAt Go.RowKit
set_option maxRecDepth 100000
attribute [local go_sem] ext_refl_t ext_alloc_t ext_drew_t ext_drewN_t ext_alloc2_t ext_alloc3_t ext_alloc4_t ext_alloc5_t ext_alloc6_t ext_alloc7_t ext_alloc8_t ext_alloc1d_t ext_alloc2d_t ext_alloc3d_t ext_alloc4d_t
def PB (w : World) (g q : Nat) : Prop := ∃ A m c l, w.cell? ⟨g, q, none⟩ = some (.slice A m c) ∧ SlB w A m l ∧ m ≤ c ∧ m ≤ 1000000

set_option maxHeartbeats 12800000 in
theorem ppapply_walk {w : World} {A B C : Option Addr} {m k n c d r : Nat} {x y : List UInt8} {old new : Int} {os ns : ByteArray} {L : List GOp} (ha : SlB w A m x) (hb : SlB w B k y) (hmc : m ≤ c) (hkd : k ≤ d) (ho : I64 old) (hn : I64 new) (hos : os.size ≤ 140737488351232) (hns : ns.size ≤ 140737488351232)
    (hs : SlC gopC 4 w C n L) (hG : ∀ z ∈ L, gopG w z) (hT : Tb w) :
    Calls Tryz.prog 3 #[.slice A m c, .agg #[.int .i64 old, .int .i64 new, .string os, .string ns, .slice C n r], .slice B k d] w fun e w' => e = .returned (.bool true) ∧ Ext w w' := by
  have HX := Lib.hid ha.len
  have HY := Lib.hid hb.len
  have HL := Lib.hid hs.len
  have hE0 : Ext w (w.alloc (Obj.cells #[.int .i64 old, .int .i64 new, .string os, .string ns, .slice C n r] 25)) := (Ext.refl w).alloc _
  have hbk := Blk.new w 25 #[.int .i64 old, .int .i64 new, .string os, .string ns, .slice C n r]
  have HF := Lib.hid (fun W => few_pat (w := W) (A := A) (B := B) (m := m) (k := k) c d)
  by_cases hf : m ≤ 1000 ∧ k ≤ 1000
  case neg =>
    have hfe : (decide (m ≤ 1000) && decide (k ≤ 1000)) = false := by simp; omega
    rw [hfe] at HF
    clear hfe hf hos hns
    go_enter Tryz.func3, Tryz.ntmps3
    go_wp2_with (first
      | (go_at_call 4; refine Hid.out ?_))
    refine Hid.mk_ ((awake_pat (hT.ext hE0)).mono ?_)
    rintro e w1 ⟨rfl, hE1⟩
    go_wp2_with (first
      | (go_at_call 5; refine Hid.out ?_))
    refine Hid.mk_ ((HF.out _).mono ?_)
    rintro e w2 ⟨rfl, hE2⟩
    go_wp2_with (first
      | (go_at_call 4; refine Hid.out ?_))
    refine Hid.mk_ ((awake_pat (((hT.ext hE0).ext hE1).ext hE2)).mono ?_)
    rintro e w3 ⟨rfl, hE3⟩
    go_wp2
    go_ret
    exact ⟨rfl, ((hE0.trans hE1).trans hE2).trans hE3⟩
  case pos =>
    obtain ⟨hm, hk⟩ := hf
    rw [decide_eq_true hm, decide_eq_true hk] at HF
    go_enter Tryz.func3, Tryz.ntmps3
    go_wp2_with (first
      | (go_at_call 4; refine Hid.out ?_))
    refine Hid.mk_ ((awake_pat (hT.ext hE0)).mono ?_)
    rintro e w1 ⟨rfl, hE1⟩
    go_wp2_with (first
      | (go_at_call 5; refine Hid.out ?_))
    refine Hid.mk_ ((HF.out _).mono ?_)
    rintro e w2 ⟨rfl, hE2⟩
    have hE02 := (hE0.trans hE1).trans hE2
    have hb2 := hbk.below (hE1.trans hE2) hbk.lt
    obtain ⟨g, hg⟩ : ∃ g, g = w.heap.size := ⟨_, rfl⟩
    rw [← hg] at hb2 ⊢
    clear hg hbk HF
    have k0 : w2.cell? ⟨g, 0, none⟩ = some (.int .i64 old) := hb2.cell 0
    have k1 : w2.cell? ⟨g, 1, none⟩ = some (.int .i64 new) := hb2.cell 1
    have k2 : w2.cell? ⟨g, 2, none⟩ = some (.string os) := hb2.cell 2
    have k3 : w2.cell? ⟨g, 3, none⟩ = some (.string ns) := hb2.cell 3
    have k4 : w2.cell? ⟨g, 4, none⟩ = some (.slice C n r) := hb2.cell 4
    by_cases hn30 : 30 < n
    · have hn30' : (30 : Int) < (n : Int) := by omega
      go_wp2_with (first
        | (go_at_call 4; refine Hid.out ?_))
      refine Hid.mk_ ((awake_pat (hT.ext hE02)).mono ?_)
      rintro e w3 ⟨rfl, hE3⟩
      go_wp2
      go_ret
      exact ⟨rfl, hE02.trans hE3⟩
    have hn30' : ¬ (30 : Int) < (n : Int) := by omega
    by_cases hsum : 100 < os.size + ns.size
    · have hsum' : (100 : Int) < (os.size : Int) + (ns.size : Int) := by omega
      go_wp2_with (first
        | (go_at_call 4; refine Hid.out ?_))
      refine Hid.mk_ ((awake_pat (hT.ext hE02)).mono ?_)
      rintro e w3 ⟨rfl, hE3⟩
      go_wp2
      go_ret
      exact ⟨rfl, hE02.trans hE3⟩
    have hsum' : ¬ (100 : Int) < (os.size : Int) + (ns.size : Int) := by omega
    have HB2 := Lib.hid hb2
    have HS2 := Lib.hid (hs.ext hE02)
    clear hb2 k0 k1
    go_wp2
    clear k2 k3 k4
    go_loopw [7] (fun i wr => ∃ q : Nat, q ≤ n ∧ i = .int .i64 q ∧ Hid (∀ z ∈ L.take q, z.h.m ≤ 100) ∧ Hid (Ext w2 wr)) (fun i _ => n - (intOf i).toNat)
    case atStart => exact ⟨0, Nat.zero_le _, rfl, (fun z hz => by simp at hz), Ext.refl _⟩
    case round =>
      obtain ⟨q, hq, rfl, HALL, HE⟩ := hrel
      have hbr := HB2.out.below HE.out HB2.out.lt
      have k0 : wr.cell? ⟨g, 0, none⟩ = some (.int .i64 old) := hbr.cell 0
      have k1 : wr.cell? ⟨g, 1, none⟩ = some (.int .i64 new) := hbr.cell 1
      have k2 : wr.cell? ⟨g, 2, none⟩ = some (.string os) := hbr.cell 2
      have k3 : wr.cell? ⟨g, 3, none⟩ = some (.string ns) := hbr.cell 3
      have k4 : wr.cell? ⟨g, 4, none⟩ = some (.slice C n r) := hbr.cell 4
      clear hbr
      by_cases hlt : q < n
      · obtain ⟨bq, off, eA, hbl, hcs⟩ := (HS2.out.ext HE.out).at_ hlt (by omega)
        subst eA
        have hlt1 : q < L.length := by rw [← HL.out]; exact hlt
        obtain ⟨z, hz⟩ : ∃ z, z = L[q] := ⟨_, rfl⟩
        have x2 := hcs q hlt1 2 (by omega)
        have x3 := hcs q hlt1 3 (by omega)
        have HZG : Hid (gopG w z) := by rw [hz]; exact hG _ (List.getElem_mem hlt1)
        have HMT : Hid (L.take (q + 1) = L.take q ++ [z]) := by show _ = _; rw [hz, List.take_succ_eq_append_getElem hlt1]
        simp only [← hz, gopC, List.getElem_cons_zero, List.getElem_cons_succ, ← Nat.add_assoc] at x2 x3
        have hi1 : (q : Int) < (n : Int) := by omega
        clear hcs hz
        obtain ⟨zi, zo, zn, ⟨zA, zm, zc⟩⟩ := z
        dsimp only at x2 x3
        have hEw := hE02.trans HE.out
        by_cases h1 : (100 : Int) < (zm : Int)
        · go_wp2
          go_ret
          exact ⟨rfl, hEw⟩
        by_cases h2 : (1000 : Int) < zn
        · go_wp2
          go_ret
          exact ⟨rfl, hEw⟩
        have HALL2 : Hid (∀ z ∈ L.take (q + 1), z.h.m ≤ 100) := by
          show ∀ z ∈ _, _
          rw [HMT.out]
          intro u hu
          rcases List.mem_append.1 hu with hu | hu
          · exact HALL.out u hu
          · rw [List.mem_singleton.1 hu]; show zm ≤ 100; omega
        clear HMT HALL HZG
        go_wp2
        go_roundw
        case rel => exact ⟨q + 1, by omega, by go_num, HALL2, HE⟩
        case measure => simp [intOf]; omega
      · have hi1 : ¬ (q : Int) < (n : Int) := by omega
        have HAL : Hid (∀ z ∈ L, z.h.m ≤ 100) := by
          show ∀ z ∈ L, _
          have h9 := HALL.out
          rw [List.take_of_length_le (by rw [← HL.out]; omega)] at h9
          exact h9
        have hE0r := hE02.trans HE.out
        clear HALL
        go_wp2_with (first
          | (go_at_call 6; refine Hid.out ?_))
        refine Hid.mk_ ((rseal_any (hs.ext hE0r) (fun z hz => ⟨⟨(hG z hz).1, (hG z hz).2.1, (hG z hz).2.2.1.imp fun _ h => h.ext hE0r, (hG z hz).2.2.2⟩, HAL.out z hz⟩) (by omega) (by omega) (by omega) ho hn).mono ?_)
        rintro e w3 ⟨A3, m3, c3, l3, rfl, ho3, hm3, hE3⟩
        have hE03 := hE0r.trans hE3
        go_wp2_with (first
          | (go_at_call 7; refine Hid.out ?_))
        refine Hid.mk_ ((refSeal_key d (hb.ext hE03) (by omega)).mono ?_)
        rintro e w4 ⟨A4, m4, c4, rfl, ho4, hE4⟩
        have hm4 : m4 ≤ 2000 := by have h1 := ho4.len; rw [sealL_len] at h1; have h2 := HY.out; omega
        have hE04 := hE03.trans hE4
        obtain ⟨w5, hw5⟩ : ∃ w5, w5 = w4.alloc (Obj.cells #[.slice A3 m3 c3, .slice A4 m4 c4, .slice B k d] 22) := ⟨_, rfl⟩
        obtain ⟨ga, hga⟩ : ∃ ga, ga = w4.heap.size := ⟨_, rfl⟩
        have hE45 : Ext w4 w5 := by rw [hw5]; exact (Ext.refl w4).alloc _
        have hE05 := hE04.trans hE45
        have hb5 : Blk w5 ga 22 #[.slice A3 m3 c3, .slice A4 m4 c4, .slice B k d] := by rw [hw5, hga]; exact Blk.new w4 _ _
        have HPB : Hid (∀ q, q < 3 → PB w5 ga q) := fun q hq => by
          rcases (show q = 0 ∨ q = 1 ∨ q = 2 by omega) with rfl | rfl | rfl
          · exact ⟨A3, m3, c3, _, hb5.cell 0, (ho3.sl.ext hE4).ext hE45, ho3.cap, by omega⟩
          · exact ⟨A4, m4, c4, _, hb5.cell 1, ho4.sl.ext hE45, ho4.cap, by omega⟩
          · exact ⟨B, k, d, _, hb5.cell 2, hb.ext hE05, hkd, by omega⟩
        have HE05 := Lib.hid hE05
        clear ho3 ho4 hb5 hE0r hE3 hE03 hE4 hE04 hE45 hE05 hi1 hlt hq k0 k1 k2 k3 k4
        go_upto_block 2 with fail
        rw [← hw5, ← hga]
        clear hw5 hga
        go_wp2
        go_loopw [9, 10, 11, 12, 13, 14, 15, 16, 17, 18, 19, 74] (fun _ _ _ _ _ _ _ _ _ _ _ i wr => ∃ q : Nat, q ≤ 3 ∧ i = .int .i64 q ∧ Hid (Ext w5 wr)) (fun _ _ _ _ _ _ _ _ _ _ _ i _ => 3 - (intOf i).toNat)
        case atStart => exact ⟨0, Nat.zero_le _, rfl, Ext.refl _⟩
        case round =>
          obtain ⟨q, hq, rfl, HE⟩ := hrel
          by_cases hlt : q < 3
          · obtain ⟨Ap, mp, cp, p, hcell, hsp, hcp, hp6⟩ := HPB.out q hlt
            have y0 : wr.cell? ⟨ga, q, none⟩ = some (.slice Ap mp cp) := later HE.out hcell
            have hi1 : (q : Int) < 3 := by omega
            have hE0r := HE05.out.trans HE.out
            have hspr := hsp.ext HE.out
            have hxr := ha.ext hE0r
            have hTr := hT.ext hE0r
            clear hcell hsp
            go_wp2_with (first
              | (go_at_call 8; refine Hid.out ?_))
            refine Hid.mk_ ((papply_any c cp hxr hmc (by omega) hspr hcp hp6 hTr).mono ?_)
            rintro e wa ⟨⟨A6, m6, c6, l6, code6, rfl, ho6, hA6⟩, hEa⟩
            clear y0
            go_wp2_with (first
              | (go_at_call 9; refine Hid.out ?_))
            refine Hid.mk_ ((rapply_any c cp (hxr.ext hEa) hmc (by omega) (hspr.ext hEa) hcp hp6).mono ?_)
            rintro e wb ⟨⟨A7, m7, c7, l7, code7, rfl, hs7, hA7⟩, hEb⟩
            obtain ⟨rfl, rfl⟩ := Prod.mk.inj (hA6.uniq hA7)
            clear hA6 hA7
            have hErb := hEa.trans hEb
            go_wp2_with (first
              | (go_at_call 10; refine Hid.out ?_))
            refine Hid.mk_ ((psizes_any cp (hspr.ext hErb) hcp hp6 (hTr.ext hErb)).mono ?_)
            rintro e wc ⟨⟨o1, n1, code8, rfl, hS8⟩, hEc⟩
            have hErc := hErb.trans hEc
            go_wp2_with (first
              | (go_at_call 11; refine Hid.out ?_))
            refine Hid.mk_ ((rsizes_any cp (hspr.ext hErc) hcp hp6).mono ?_)
            rintro e wd ⟨⟨o2, n2, code9, rfl, hS9⟩, hEd⟩
            obtain ⟨rfl, rfl, rfl⟩ := hS8.uniq hS9
            have hErd := hErc.trans hEd
            have hsa := ho6.sl.ext ((hEb.trans hEc).trans hEd)
            have hsb := (hs7.ext hEc).ext hEd
            clear hS8 hS9 ho6 hs7
            go_wp2_with (first
              | (go_at_call 12; refine Hid.out ?_))
            refine Hid.mk_ ((same3B c6 c7 hsa hsb).mono ?_)
            rintro e we ⟨rfl, hEe⟩
            rw [decide_eq_true rfl]
            have HE2 := Lib.hid (HE.out.trans (hErd.trans hEe))
            clear hsa hsb hEa hEb hEc hEd hEe hErb hErc hErd hxr hTr hspr hE0r
            go_wp2
            go_roundw
            case rel =>
              first
              | exact ⟨q + 1, by omega, by go_num, HE2.out⟩
              | (repeat apply Exists.intro
                 refine ⟨?rl, ?fr⟩
                 case fr => exact rfl
                 case rl => exact ⟨q + 1, by omega, by go_num, HE2.out⟩)
            case measure => simp [intOf]; omega
          · have hi1 : ¬ (q : Int) < 3 := by omega
            go_wp2
            go_ret
            exact ⟨rfl, HE05.out.trans HE.out⟩

set_option maxRecDepth 100000 in
theorem liftedPatchApply (os : Os) (started : os.Started) (H : Type) (enc : TypeId × Value → H) :
    ReturnsInHanded {} Tryz.checked os 3 .any (fun w args => (Rows.patchApplySpec.pre enc Tryz.prog Tryz.f3 [] false w args ∧ laidMetH Tryz.prog laidL w) ∧ sizedMet enc Tryz.prog Tryz.f3 (OpenSpec.ofChange Rows.patchApplySpec) false w args) (Rows.patchApplySpec.post enc Tryz.prog Tryz.f3 false true false false) := by
  refine returnsInHanded_of_change_and (C := Tryz.checked) (X := fun w _ => laidMetH Tryz.prog laidL w) (fun _ _ _ hh h => h.of_heap hh) ownK started (by kernel_rfl) Tryz.func3
    (ChangeSpec.witness_shaped (enc := enc) (C := Tryz.checked) (os := os) (X := fun w _ => laidMetH Tryz.prog laidL w) false (World.laidAll Tryz.prog os laidL) #[.slice none 0 0, .agg #[.int .i64 0, .int .i64 0, .string ⟨#[]⟩, .string ⟨#[]⟩, .slice none 0 0], .slice none 0 0] 8 (World.laidAll_os _ _ _)
      (World.shaped_of_ZipB (by kernel_rfl) (by kernel_rfl)) (by kernel_rfl) (by kernel_rfl) (by kernel_rfl)
      (by rw [MakeChecks.laidMetH_plain _ _ _ (by kernel_rfl)]; exact laidMet_laidAll _ (by kernel_rfl) (by kernel_rfl))) ?_
  intro W base args ds gs before hval0 hW hcnd hsz0 hL _
  have hT := tb_of_laid hL
  have hval : ∀ (j : Nat) t v, Tryz.f3.params[j]? = some t → args[j]? = some v → Value.okWide Tryz.prog W .any base t v := hval0
  have hW' := hW
  obtain ⟨p, q, hA0, hV, rfl, hfz, hnd⟩ := hW
  have hA : DataW.TrodAll enc Tryz.prog W 0 (fun _ => true) true Tryz.f3.params.toList args.toList ds p := hA0
  have hsz : (DataW.weightsEach Tryz.prog (Tryz.f3.params.toList ++ Rows.patchApplySpec.plain.varTypes Tryz.prog) (ds ++ gs)).all (· ≤ reachBytes) = true := hsz0
  rw [Tryz.params3] at hA hval hsz
  obtain ⟨v0, vs0, d0, ds0, p0, q0, hargs0, rfl, rfl, h0, r0⟩ := trodAll_cons hA
  obtain ⟨v1, vs1, d1, ds1, p1, q1, hargs1, rfl, rfl, h1, r1⟩ := trodAll_cons r0
  obtain ⟨v2, vs2, d2, ds2, p2, q2, hargs2, rfl, rfl, h2, r2⟩ := trodAll_cons r1
  obtain ⟨rfl, rfl, rfl⟩ := trodAll_nil r2
  obtain rfl : args = #[v0, v1, v2] := by cases args; simp_all
  obtain ⟨rfl, rfl⟩ := trodVars_none hV
  have k0 := h0
  have lt0 : ∀ x ∈ p0, x.block < W.heap.size := by obtain ⟨m, hm⟩ := k0; exact DataW.trod_lt m _ _ _ hm
  have k1 := h1
  have lt1 : ∀ x ∈ p1, x.block < W.heap.size := by obtain ⟨m, hm⟩ := k1; exact DataW.trod_lt m _ _ _ hm
  have k2 := h2
  have lt2 : ∀ x ∈ p2, x.block < W.heap.size := by obtain ⟨m, hm⟩ := k2; exact DataW.trod_lt m _ _ _ hm
  obtain ⟨A0, m0, c0, l0, rfl, w0, hc0, hb0⟩ := opn_top_bytes (hval 0 22 v0 rfl rfl) h0 (WOk.top hsz (j := 0) rfl rfl)
  obtain ⟨x1, rfl, g1⟩ := opn_top_agg opn_gcon ((okWide_struct Tryz.underlying25 (hval 1 25 v1 rfl rfl)).imp fun _ hh => hh.1) h1 (WOk.top hsz (j := 1) rfl rfl)
  obtain ⟨A2, m2, c2, l2, rfl, w2, hc2, hb2⟩ := opn_top_bytes (hval 2 22 v2 rfl rfl) h2 (WOk.top hsz (j := 2) rfl rfl)
  obtain ⟨xold, xnew, xos, xns, ⟨xA, xm, xc⟩⟩ := x1
  obtain ⟨go, gn, gos, gns, ⟨l1, hl1, hl2, hl3, hl4⟩⟩ := g1
  clear hA0 hval0
  refine (ppapply_walk w0 w2 hc0 hc2 go gn gos gns hl1 hl2 hT).mono fun e W' ⟨he, bel⟩ => ?_
  subst he
  exact ⟨_, rfl, _, _, _, [], _, [], hW', trodAll_mk1 (shut_bool Tryz.underlying4 _), (trodAll_cons_mk (Below.trod laidK (by kernel_rfl) (of_decide_eq_true (by kernel_rfl)) k0 bel lt0) (trodAll_cons_mk (Below.trod laidK (by kernel_rfl) (of_decide_eq_true (by kernel_rfl)) k1 bel lt1) (trodAll_cons_mk (Below.trod laidK (by kernel_rfl) (of_decide_eq_true (by kernel_rfl)) k2 bel lt2) trodAll_mk0))), rfl, Below.frame bel _, fun h => by cases h⟩
theorem PatchApply_row : Rows.PatchApplySaid :=
  OpenClaim.holds_of_wide 3 Tryz.f3 rfl rfl rfl rfl rfl rfl rfl ⟨rfl, rfl, rfl, rfl, rfl⟩ rfl rfl rfl rfl rfl (by kernel_rfl) Tryz.func3 (by kernel_rfl)
    (of_decide_eq_true (by kernel_rfl)) (by unfold Func.isWrapper; rw [if_neg (of_decide_eq_false (by kernel_rfl))]; exact ⟨rfl, rfl⟩)
    (fun os started H enc _ => liftedPatchApply os started H enc)
theorem PatchApply_holds : Rows.PatchApplyCardSaid :=
  Claim7.holds_tied_plain_at .later [] Rows.patchApplyCard.laidKinds true Rows.patchApplyCard.stood.harness Rows.patchApplyCard.stood.looks
    PatchApply_row (fun _ h => by cases h) (by kernel_rfl) (fun _ h => by cases h) patchApply_row_tie rfl ⟨rfl, rfl⟩ (by kernel_rfl) rfl
    (fun f fn hf hfn => by
      obtain rfl : f = 3 := Option.some.inj ((show Tryz.prog.funcNamed Rows.patchApplyRow.func = some 3 by kernel_rfl).symm.trans hf) |>.symm
      obtain rfl : fn = Tryz.f3 := (Option.some.inj (Tryz.func3.symm.trans hfn)).symm
      exact ⟨by kernel_rfl, fun j t ht => by
        rw [Tryz.params3] at ht
        have hm : t ∈ [22, 25, 22] := by simpa using Array.mem_of_getElem? ht
        have hall : ([22, 25, 22].all fun u => !Tryz.prog.wantsStandIn u) = true := by kernel_rfl
        exact (show Tryz.prog.wantsStandIn t = false by simpa using List.all_eq_true.1 hall t hm)⟩)
    (by kernel_rfl)
#print axioms PatchApply_holds

end Go.Proofs.YtghndnacmpckbaaGreatDoor
