/- Candidate returns the most similar entry that is not in the list, as the reference says. No condition. -/
import Derived.Test.YtcdpmgdocgddcaaDoorUpB
import Derived.Test.YtcdpmgdocgddcaaDoorUpC
import Derived.Test.YtcdpmgdocgddcaaDoorUpR
import Derived.ProofKit
import Derived.OpenShut
import Derived.ShutString
import Derived.LaidMore
import Derived.Lay
import Derived.Lib.LaidIn
import Derived.Lib.LaidTab
import Derived.Lib.LaidU8
import Derived.SevenTiedAt
import Derived.Stop.Joined
namespace Go.Proofs.YtcdpmgdocgddcaaDoor
open Go.ChangeShapes Go.WideShapes Go.ChangeAt Go.RowKit
set_option maxRecDepth 100000
attribute [local go_sem] ext_refl_t ext_alloc_t ext_drew_t ext_drewN_t ext_alloc2_t ext_alloc3_t ext_alloc4_t ext_alloc5_t ext_alloc6_t ext_alloc7_t ext_alloc8_t ext_alloc1d_t ext_alloc2d_t ext_alloc3d_t ext_alloc4d_t
def laidL2 : List (String × DataW Unit) := Rows.updateCandidateRow.laid
theorem tabs2 {W : World} (h : laidMetH Tryd.prog laidL2 W) : Tabs W := tabs_of_laid h
section
variable {w : World}
set_option maxHeartbeats 12800000 in
theorem cand_walk {x : Cat} (hx : CatW w x) (src : ByteArray) {A : Option Addr} {m c : Nat} {l : List ByteArray} (hl : SlC strF 1 w A m l) (hT : Tabs w) :
    Calls Tryd.prog 7 #[catV x, .string src, .slice A m c] w fun e w' => e = .returned (.bool true) ∧ Ext w w' := by
  obtain ⟨tag, com, fd, ces, hc, hd, he⟩ := x
  have HX := Lib.hid hx
  have HS := Lib.hid hl
  have HTT := Lib.hid hT
  have hle2 := hx.e.sl.le
  have HL2 := Lib.hid hx.e.sl.len
  dsimp only at hle2 HL2
  unfold catV
  dsimp only
  have hb := Blk.new w 26 #[.string tag, .slice hc.A hc.m hc.c, .slice hd.A hd.m hd.c, .slice he.A he.m he.c]
  have hE1 : Ext w (w.alloc (Obj.cells #[.string tag, .slice hc.A hc.m hc.c, .slice hd.A hd.m hd.c, .slice he.A he.m he.c] 26)) := (Ext.refl w).alloc _
  obtain ⟨W1, hW1⟩ : ∃ W1, W1 = w.alloc (Obj.cells #[.string tag, .slice hc.A hc.m hc.c, .slice hd.A hd.m hd.c, .slice he.A he.m he.c] 26) := ⟨_, rfl⟩
  rw [← hW1] at hb hE1
  obtain ⟨g, hg⟩ : ∃ g, g = w.heap.size := ⟨_, rfl⟩
  rw [← hg] at hb
  have X0 := laters (show _ = some (.string tag) from hb.cell 0)
  have X1 := laters (show _ = some (.slice hc.A hc.m hc.c) from hb.cell 1)
  have X2 := laters (show _ = some (.slice hd.A hd.m hd.c) from hb.cell 2)
  have X3 := laters (show _ = some (.slice he.A he.m he.c) from hb.cell 3)
  clear hb hx hl hT
  go_enter Tryd.func7, Tryd.ntmps7
  go_upto_region 1 with fail
  rw [← hW1, ← hg]
  clear hW1 hg
  go_wp2_with (first
    | (go_at_call 8; refine Hid.out ?_))
  refine Hid.mk_ (((awake47_any (HTT.out.ext hE1))).mono ?_)
  rintro e w2 ⟨rfl, hE2⟩
  have hE02 := hE1.trans hE2
  have hfw := few47_any (h := ⟨none, 0, 0⟩) (HX.out.ext hE02) (es := []) (HW.nil_ entC_len)
  unfold catV at hfw
  dsimp only at hfw
  go_wp2_with (first
    | (go_at_call 9; refine Hid.out ?_))
  refine Hid.mk_ ((hfw).mono ?_)
  rintro e w3 ⟨rfl, hE3⟩
  have hE13 := hE2.trans hE3
  have hE03 := hE02.trans hE3
  clear hfw hE2 hE3 hE02
  cases hf1 : few47 (Cat.p ⟨tag, com, fd, ces, hc, hd, he⟩) (List.map Ent.p []) with
  | false =>
    clear hf1
    go_wp2
    go_ret
    exact ⟨rfl, hE03⟩
  | true =>
  have HFW := Lib.hid (few47_parts hf1)
  have hn8 : he.m ≤ 8 := by have h1 := HFW.out.1; have h2 := HL2.out; rw [show (Cat.p ⟨tag, com, fd, ces, hc, hd, he⟩).es = ces.map Ent.p from rfl, List.length_map] at h1; omega
  clear hf1
  by_cases h200 : 200 < src.size
  · have i1 : (200 : Int) < (src.size : Int) := by omega
    go_wp2
    go_ret
    exact ⟨rfl, hE03⟩
  have i1 : ¬ (200 : Int) < (src.size : Int) := by omega
  go_wp2_with (first
    | (go_at_call 21; refine Hid.out ?_))
  refine Hid.mk_ (((few5_any c (HS.out.ext hE03))).mono ?_)
  rintro e w4 ⟨rfl, rfl⟩
  cases hf5 : fewS l with
  | false =>
    clear hf5
    go_wp2
    go_ret
    exact ⟨rfl, hE03⟩
  | true =>
  clear hf5
  have HSR : Hid (∀ y ∈ ces, y.p.src.size ≤ 1000000) := fun y hy => Nat.le_trans (HFW.out.2.2.1 y.p (List.mem_map_of_mem hy)) (by omega)
  obtain ⟨s, hs⟩ : ∃ s, s = candP src l (Cat.p ⟨tag, com, fd, ces, hc, hd, he⟩).es ces.length := ⟨_, rfl⟩
  have hp := pcand_any (c := c) (HX.out.ext hE03) src (by omega) HSR.out (HS.out.ext hE03)
  have HR := Lib.hid (fun (W : World) (hW : Ext w W) => rcand_any (HX.out.ext hW) src (by omega) HSR.out c (HS.out.ext hW) (by show he.m ≤ 1000; omega))
  unfold catV at hp HR
  dsimp only at hp HR
  rw [← hs] at hp HR
  have hv : CandV s = .tuple #[.int .i64 (s.1 : Int), .bool (decide (700 ≤ s.2))] := rfl
  rw [hv] at hp HR
  obtain ⟨a, ha⟩ : ∃ a : Int, a = (s.1 : Int) := ⟨_, rfl⟩
  obtain ⟨t, ht⟩ : ∃ t : Bool, t = decide (700 ≤ s.2) := ⟨_, rfl⟩
  rw [← ha, ← ht] at hp HR
  clear hs hv ha ht
  go_wp2_with (first
    | (go_at_call 22; refine Hid.out ?_))
  refine Hid.mk_ ((hp).mono ?_)
  rintro e w5 ⟨rfl, hE5⟩
  have hE15 := hE13.trans hE5
  have hE05 := hE03.trans hE5
  clear hp hE13
  go_wp2_with (first
    | (go_at_call 23; refine Hid.out ?_))
  refine Hid.mk_ (((HR.out _ hE05)).mono ?_)
  rintro e w6 ⟨rfl, hE6⟩
  have hE06 := hE05.trans hE6
  cases t with
  | true =>
    go_wp2
    go_ret
    exact ⟨by first | rfl | simp, hE06⟩
  | false =>
    go_wp2
    go_ret
    exact ⟨by first | rfl | simp, hE06⟩
end
set_option maxRecDepth 100000 in
theorem liftedUpdateCandidate (os : Os) (started : os.Started) (H : Type) (enc : TypeId × Value → H) :
    ReturnsInHanded {} Tryd.checked os 7 .any (fun w args => (Rows.updateCandidateSpec.pre enc Tryd.prog Tryd.f7 [] false w args ∧ laidMetH Tryd.prog laidL2 w) ∧ sizedMet enc Tryd.prog Tryd.f7 (OpenSpec.ofChange Rows.updateCandidateSpec) false w args) (Rows.updateCandidateSpec.post enc Tryd.prog Tryd.f7 false true false false) := by
  refine returnsInHanded_of_change_and (C := Tryd.checked) (X := fun w _ => laidMetH Tryd.prog laidL2 w) (fun _ _ _ hh h => h.of_heap hh) ownK started (by kernel_rfl) Tryd.func7
    (ChangeSpec.witness_shaped (enc := enc) (C := Tryd.checked) (os := os) (X := fun w _ => laidMetH Tryd.prog laidL2 w) false (World.laidAll Tryd.prog os laidL2) #[.agg #[.string ⟨#[]⟩, .slice none 0 0, .slice none 0 0, .slice none 0 0], .string ⟨#[]⟩, .slice none 0 0] 8 (World.laidAll_os _ _ _)
      (World.shaped_of_ZipB (by kernel_rfl) (by kernel_rfl)) (by kernel_rfl) (by kernel_rfl) (by kernel_rfl)
      (by rw [MakeChecks.laidMetH_plain _ _ _ (by kernel_rfl)]; exact laidMet_laidAll _ (by kernel_rfl) (by kernel_rfl))) ?_
  intro W base args ds gs before hval0 hW hcnd hsz0 hL _
  have hT := tabs2 hL
  have hval : ∀ (j : Nat) t v, Tryd.f7.params[j]? = some t → args[j]? = some v → Value.okWide Tryd.prog W .any base t v := hval0
  have hW' := hW
  obtain ⟨p, q, hA0, hV, rfl, hfz, hnd⟩ := hW
  have hA : DataW.TrodAll enc Tryd.prog W 0 (fun _ => true) true Tryd.f7.params.toList args.toList ds p := hA0
  have hsz : (DataW.weightsEach Tryd.prog (Tryd.f7.params.toList ++ Rows.updateCandidateSpec.plain.varTypes Tryd.prog) (ds ++ gs)).all (· ≤ reachBytes) = true := hsz0
  rw [Tryd.params7] at hA hval hsz
  obtain ⟨v0, vs0, d0, ds0, p0, q0, hargs0, rfl, rfl, h0, r0⟩ := trodAll_cons hA
  obtain ⟨v1, vs1, d1, ds1, p1, q1, hargs1, rfl, rfl, h1, r1⟩ := trodAll_cons r0
  obtain ⟨v2, vs2, d2, ds2, p2, q2, hargs2, rfl, rfl, h2, r2⟩ := trodAll_cons r1
  obtain ⟨rfl, rfl, rfl⟩ := trodAll_nil r2
  obtain rfl : args = #[v0, v1, v2] := by cases args; simp_all
  obtain ⟨rfl, rfl⟩ := trodVars_none hV
  have k0 := h0
  have lt0 : ∀ x ∈ p0, x.block < W.heap.size := by obtain ⟨m, hm⟩ := k0; exact DataW.trod_lt m _ _ _ hm
  have k1 := h1
  have lt1 : ∀ x ∈ p1, x.block < W.heap.size := by obtain ⟨m, hm⟩ := k1; exact DataW.trod_lt m _ _ _ hm
  have k2 := h2
  have lt2 : ∀ x ∈ p2, x.block < W.heap.size := by obtain ⟨m, hm⟩ := k2; exact DataW.trod_lt m _ _ _ hm
  obtain ⟨x0, rfl, g0⟩ := opn_top_agg opn_cat ((okWide_struct Tryd.underlying26 (hval 0 26 v0 rfl rfl)).imp fun _ hh => hh.1) h0 (WOk.top hsz (j := 0) rfl rfl)
  obtain ⟨s1, rfl, rfl, rfl, ws1⟩ := Go.ChangeMaps.open_string Tryd.underlying9 (hval 1 9 v1 rfl rfl) h1
  obtain ⟨A2, m2, c2, l2, rfl, wf2, gf2, hc2, hb2⟩ := opn_top_slice Tryd.underlying22 opn_strs (hval 2 22 v2 rfl rfl) h2 (WOk.top hsz (j := 2) rfl rfl)
  clear hA0 hval0
  refine (cand_walk g0 s1 (c := c2) wf2 hT).mono fun e W' ⟨he, bel⟩ => ?_
  subst he
  exact ⟨_, rfl, _, _, _, [], _, [], hW', trodAll_mk1 (shut_bool Tryd.underlying4 _), (trodAll_cons_mk (Below.trod laidK (by kernel_rfl) (of_decide_eq_true (by kernel_rfl)) k0 bel lt0) (trodAll_cons_mk (Below.trod laidK (by kernel_rfl) (of_decide_eq_true (by kernel_rfl)) k1 bel lt1) (trodAll_cons_mk (Below.trod laidK (by kernel_rfl) (of_decide_eq_true (by kernel_rfl)) k2 bel lt2) trodAll_mk0))), rfl, Below.frame bel _, fun h => by cases h⟩
theorem UpdateCandidate_row : Rows.UpdateCandidateSaid :=
  OpenClaim.holds_of_wide 7 Tryd.f7 rfl rfl rfl rfl rfl rfl rfl ⟨rfl, rfl, rfl, rfl, rfl⟩ rfl rfl rfl rfl rfl (by kernel_rfl) Tryd.func7 (by kernel_rfl)
    (of_decide_eq_true (by kernel_rfl)) (by unfold Func.isWrapper; rw [if_neg (of_decide_eq_false (by kernel_rfl))]; exact ⟨rfl, rfl⟩)
    (fun os started H enc _ => liftedUpdateCandidate os started H enc)
theorem UpdateCandidate_holds : Rows.UpdateCandidateCardSaid :=
  Claim7.holds_tied_plain_at .later [] Rows.updateCandidateCard.laidKinds true Rows.updateCandidateCard.stood.harness Rows.updateCandidateCard.stood.looks
    UpdateCandidate_row (fun _ h => by cases h) (by kernel_rfl) (fun _ h => by cases h) updateCandidate_row_tie rfl ⟨rfl, rfl⟩ (by kernel_rfl) rfl
    (fun f fn hf hfn => by
      obtain rfl : f = 7 := Option.some.inj ((show Tryd.prog.funcNamed Rows.updateCandidateRow.func = some 7 by kernel_rfl).symm.trans hf) |>.symm
      obtain rfl : fn = Tryd.f7 := (Option.some.inj (Tryd.func7.symm.trans hfn)).symm
      exact ⟨by kernel_rfl, fun j t ht => by
        rw [Tryd.params7] at ht
        have hm : t ∈ [26, 9, 22] := by simpa using Array.mem_of_getElem? ht
        have hall : ([26, 9, 22].all fun u => !Tryd.prog.wantsStandIn u) = true := by kernel_rfl
        exact (show Tryd.prog.wantsStandIn t = false by simpa using List.all_eq_true.1 hall t hm)⟩)
    (by kernel_rfl)
#print axioms UpdateCandidate_holds
end Go.Proofs.YtcdpmgdocgddcaaDoor
