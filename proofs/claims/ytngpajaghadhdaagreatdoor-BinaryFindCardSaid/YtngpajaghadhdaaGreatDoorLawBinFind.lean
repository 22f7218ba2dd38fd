/- Find returns the entry with any ID, and IDs all IDs in ascending order, for any bytes. No condition. -/
import Derived.Test.YtngpajaghadhdaaGreatDoorBinAw
import Derived.Test.YtngpajaghadhdaaGreatDoorBinQi
import Derived.Test.YtngpajaghadhdaaGreatDoorREq
import Derived.Test.YtngpajaghadhdaaGreatDoorCatCard
import Derived.Test.YtngpajaghadhdaaGreatDoorReadB
import Derived.ProofKit
import Derived.OpenShut
import Derived.ShutString
import Derived.ChangeOld
import Derived.SizedLaws
namespace Go.Proofs.YtngpajaghadhdaaGreatDoor
open Go.ChangeShapes Go.WideShapes Go.ChangeAt Go.RowKit
set_option maxRecDepth 100000
attribute [local go_sem] ext_refl_t ext_alloc_t ext_drew_t ext_drewN_t ext_alloc2_t ext_alloc3_t ext_alloc4_t ext_alloc5_t ext_alloc6_t ext_alloc7_t ext_alloc8_t ext_alloc1d_t ext_alloc2d_t ext_alloc3d_t ext_alloc4d_t
def laidL2 : List (String × DataW Unit) := Rows.binaryFindRow.laid
theorem tabs2 {W : World} (h : laidMetH Tryz.prog laidL2 W) : Tabs W := tabs_of_laid h
theorem dec_nodup {l : List UInt8} {y : Cp} {code : Int} (h : DecR l y code) : (y.es.map Ep.id).Nodup := by
  rcases h with ⟨_, hv, _⟩ | ⟨_, rfl, _⟩
  · exact validC_nodup hv
  · exact List.nodup_nil
theorem nodup_id2 {l : List Ep} (hd : (l.map Ep.id).Nodup) {a b : Ep} (ha : a ∈ l) (hb : b ∈ l) (h : a.id = b.id) : a = b := by
  obtain ⟨i, hi, rfl⟩ := List.getElem_of_mem ha
  obtain ⟨j, hj, rfl⟩ := List.getElem_of_mem hb
  have hij : i = j := by
    refine (List.getElem_inj (h₀ := by rw [List.length_map]; exact hi) (h₁ := by rw [List.length_map]; exact hj) hd).1 ?_
    rw [List.getElem_map, List.getElem_map]
    exact h
  subst hij
  rfl
theorem findO_uniq {y : Cp} (hd : (y.es.map Ep.id).Nodup) {id : ByteArray} {v v2 : Ep} {f f2 : Bool} (h : FindO y id v f) (h2 : FindO y id v2 f2) : f2 = f ∧ v2 = v := by
  rcases h with ⟨rfl, ha, hb⟩ | ⟨rfl, rfl, hc⟩ <;> rcases h2 with ⟨rfl, ha2, hb2⟩ | ⟨rfl, rfl, hc2⟩
  · exact ⟨rfl, nodup_id2 hd ha2 ha (hb2.trans hb.symm)⟩
  · exact absurd hb (hc2 _ ha)
  · exact absurd hb2 (hc _ ha2)
  · exact ⟨rfl, rfl⟩
section
variable {w : World}
set_option maxHeartbeats 12800000 in
theorem bfindlaw_walk (hT : Tabs w) {A : Option Addr} {m : Nat} (c : Nat) {l : List UInt8} (hs : SlB w A m l) (hmc : m ≤ c) (id : ByteArray) :
    Calls Tryz.prog 4 #[.slice A m c, .string id] w fun e w' => e = .returned (.bool true) ∧ Ext w w' := by
  have HIDE : Hid (∀ z : Ent, entV z = .agg #[.string z.p.id, .string z.p.src, .string z.p.tgt, .slice z.c.A z.c.m z.c.c, .slice z.f.A z.f.m z.f.c, .int .i64 z.p.st, .slice z.d.A z.d.m z.d.c]) := fun _ => rfl
  go_enter Tryz.func4, Tryz.ntmps4
  go_wp2_with (first
    | (go_at_call 5; refine Hid.out ?_))
  refine Hid.mk_ ((awake_bin hT).mono ?_)
  rintro e w1 ⟨rfl, hE1⟩
  by_cases hm3 : 3000 < m
  · have hi : (3000 : Int) < (m : Int) := by omega
    go_wp2
    go_ret
    exact ⟨rfl, hE1⟩
  have hi : ¬ (3000 : Int) < (m : Int) := by omega
  by_cases hid3 : 300 < id.size
  · have hi3 : (300 : Int) < (id.size : Int) := by omega
    go_wp2
    go_ret
    exact ⟨rfl, hE1⟩
  have hi3 : ¬ (300 : Int) < (id.size : Int) := by omega
  go_wp2_with (first
    | (go_at_call 11; refine Hid.out ?_))
  refine Hid.mk_ ((bfind_any c (hs.ext hE1) hmc (by omega) id (hT.ext hE1)).mono ?_)
  rintro e w2 ⟨⟨v, f, y, code, rfl, hD, hF, hvW⟩, hE2⟩
  rw [HIDE.out v]
  have HD := Lib.hid hD
  have HF := Lib.hid hF
  clear hD hF
  have hE02 := hE1.trans hE2
  obtain ⟨w3, hw3⟩ : ∃ W : World, W = w2.alloc (Obj.cells #[.string v.p.id, .string v.p.src, .string v.p.tgt, .slice v.c.A v.c.m v.c.c, .slice v.f.A v.f.m v.f.c, .int .i64 v.p.st, .slice v.d.A v.d.m v.d.c] 37) := ⟨_, rfl⟩
  have hb3 : Blk w3 w2.heap.size 37 #[.string v.p.id, .string v.p.src, .string v.p.tgt, .slice v.c.A v.c.m v.c.c, .slice v.f.A v.f.m v.f.c, .int .i64 v.p.st, .slice v.d.A v.d.m v.d.c] := by rw [hw3]; exact Blk.new w2 _ _
  have hEw3 : Ext w2 w3 := by rw [hw3]; exact (Ext.refl _).alloc _
  obtain ⟨g3, hg3⟩ : ∃ k, k = w2.heap.size := ⟨_, rfl⟩
  rw [← hg3] at hb3
  have hE03 := hE02.trans hEw3
  go_wp2_with (first
    | (go_at_call 12; refine Hid.out ?_))
  rw [← hw3, ← hg3]
  clear hw3 hg3
  refine Hid.mk_ ((rfind_any c (hs.ext hE03) hmc (by omega) id).mono ?_)
  rintro e w4 ⟨⟨v2, f2, y2, code2, rfl, hD2, hF2, hvW2⟩, hE4⟩
  rw [HIDE.out v2]
  obtain ⟨hyy, _⟩ := HD.out.uniq hD2
  rw [← hyy] at hF2
  obtain ⟨hff, hvv⟩ := findO_uniq (dec_nodup HD.out) HF.out hF2
  subst hff
  have HVV := Lib.hid hvv
  clear hyy hD2 hF2 hvv
  have hE04 := hE03.trans hE4
  have hb3' := hb3.below hE4 hb3.lt
  obtain ⟨w5, hw5⟩ : ∃ W : World, W = w4.alloc (Obj.cells #[.string v2.p.id, .string v2.p.src, .string v2.p.tgt, .slice v2.c.A v2.c.m v2.c.c, .slice v2.f.A v2.f.m v2.f.c, .int .i64 v2.p.st, .slice v2.d.A v2.d.m v2.d.c] 37) := ⟨_, rfl⟩
  have hb5 : Blk w5 w4.heap.size 37 #[.string v2.p.id, .string v2.p.src, .string v2.p.tgt, .slice v2.c.A v2.c.m v2.c.c, .slice v2.f.A v2.f.m v2.f.c, .int .i64 v2.p.st, .slice v2.d.A v2.d.m v2.d.c] := by rw [hw5]; exact Blk.new w4 _ _
  have hEw5 : Ext w4 w5 := by rw [hw5]; exact (Ext.refl _).alloc _
  obtain ⟨g5, hg5⟩ : ∃ k, k = w4.heap.size := ⟨_, rfl⟩
  rw [← hg5] at hb5
  have hE05 := hE04.trans hEw5
  have hb3'' := hb3'.below hEw5 hb3'.lt
  have hq := reqE_any (hvW.ext ((hEw3.trans hE4).trans hEw5)) (hvW2.ext hEw5)
  rw [decide_eq_true HVV.out.symm, HIDE.out v, HIDE.out v2] at hq
  have hbf : (f2 == f2) = true := by simp
  have Y0 := laters (show w3.cell? ⟨g3, 0, none⟩ = some (.string v.p.id) from (hb3).cell 0)
  have Y1 := laters (show w3.cell? ⟨g3, 1, none⟩ = some (.string v.p.src) from (hb3).cell 1)
  have Y2 := laters (show w3.cell? ⟨g3, 2, none⟩ = some (.string v.p.tgt) from (hb3).cell 2)
  have Y3 := laters (show w3.cell? ⟨g3, 3, none⟩ = some (.slice v.c.A v.c.m v.c.c) from (hb3).cell 3)
  have Y4 := laters (show w3.cell? ⟨g3, 4, none⟩ = some (.slice v.f.A v.f.m v.f.c) from (hb3).cell 4)
  have Y5 := laters (show w3.cell? ⟨g3, 5, none⟩ = some (.int .i64 v.p.st) from (hb3).cell 5)
  have Y6 := laters (show w3.cell? ⟨g3, 6, none⟩ = some (.slice v.d.A v.d.m v.d.c) from (hb3).cell 6)
  clear hb3 hb3' hb3'' hb5
  go_wp2_with (first
    | (go_at_call 13; refine Hid.out ?_))
  rw [← hw5]
  clear hw5 hg5
  refine Hid.mk_ (hq.mono ?_)
  rintro e w6 ⟨rfl, hE6⟩
  clear hq Y0 Y1 Y2 Y3 Y4 Y5 Y6
  have hE06 := hE05.trans hE6
  go_wp2_with (first
    | (go_at_call 15; refine Hid.out ?_))
  refine Hid.mk_ ((bids_any c (hs.ext hE06) hmc (by omega) (hT.ext hE06)).mono ?_)
  rintro e w7 ⟨⟨y3, code3, B3, n3, d3, rfl, hD3, ho3, hl3⟩, hE7⟩
  obtain ⟨hy3, _⟩ := HD.out.uniq hD3
  rw [← hy3] at ho3 hl3
  clear hy3 hD3
  have hE07 := hE06.trans hE7
  go_wp2_with (first
    | (go_at_call 16; refine Hid.out ?_))
  refine Hid.mk_ ((rbids_any c (hs.ext hE07) hmc (by omega)).mono ?_)
  rintro e w8 ⟨⟨y4, code4, B4, n4, d4, rfl, hD4, ho4, _⟩, hE8⟩
  obtain ⟨hy4, _⟩ := HD.out.uniq hD4
  rw [← hy4] at ho4
  clear hy4 hD4
  have hE08 := hE07.trans hE8
  have hsm := same5 d3 d4 (ho3.sl.ext hE8) ho4.sl
  rw [decide_eq_true (rfl : (sortE y.es).map (idAt y.es) = (sortE y.es).map (idAt y.es))] at hsm
  clear ho3 ho4 hl3
  go_wp2_with (first
    | (go_at_call 14; refine Hid.out ?_))
  refine Hid.mk_ ((hsm).mono ?_)
  rintro e w9 ⟨rfl, hE9⟩
  clear hsm
  go_wp2
  go_ret
  exact ⟨rfl, hE08.trans hE9⟩
end

set_option maxRecDepth 100000 in
theorem liftedBinaryFind (os : Os) (started : os.Started) (H : Type) (enc : TypeId × Value → H) :
    ReturnsInHanded {} Tryz.checked os 4 .any (fun w args => (Rows.binaryFindSpec.pre enc Tryz.prog Tryz.f4 [] false w args ∧ laidMetH Tryz.prog laidL2 w) ∧ sizedMet enc Tryz.prog Tryz.f4 (OpenSpec.ofChange Rows.binaryFindSpec) false w args) (Rows.binaryFindSpec.post enc Tryz.prog Tryz.f4 false true false false) := by
  refine returnsInHanded_of_change_and (C := Tryz.checked) (X := fun w _ => laidMetH Tryz.prog laidL2 w) (fun _ _ _ hh h => h.of_heap hh) ownK started (by kernel_rfl) Tryz.func4
    (ChangeSpec.witness_shaped (enc := enc) (C := Tryz.checked) (os := os) (X := fun w _ => laidMetH Tryz.prog laidL2 w) false (World.laidAll Tryz.prog os laidL2) #[.slice none 0 0, .string ⟨#[]⟩] 8 (World.laidAll_os _ _ _)
      (World.shaped_of_ZipB (by kernel_rfl) (by kernel_rfl)) (by kernel_rfl) (by kernel_rfl) (by kernel_rfl)
      (by rw [MakeChecks.laidMetH_plain _ _ _ (by kernel_rfl)]; exact laidMet_laidAll _ (by kernel_rfl) (by kernel_rfl))) ?_
  intro W base args ds gs before hval0 hW hcnd hsz0 hL _
  have hT := tabs2 hL
  have hval : ∀ (j : Nat) t v, Tryz.f4.params[j]? = some t → args[j]? = some v → Value.okWide Tryz.prog W .any base t v := hval0
  have hW' := hW
  obtain ⟨p, q, hA0, hV, rfl, hfz, hnd⟩ := hW
  have hA : DataW.TrodAll enc Tryz.prog W 0 (fun _ => true) true Tryz.f4.params.toList args.toList ds p := hA0
  have hsz : (DataW.weightsEach Tryz.prog (Tryz.f4.params.toList ++ Rows.binaryFindSpec.plain.varTypes Tryz.prog) (ds ++ gs)).all (· ≤ reachBytes) = true := hsz0
  rw [Tryz.params4] at hA hval hsz
  obtain ⟨v0, vs0, d0, ds0, p0, q0, hargs0, rfl, rfl, h0, r0⟩ := trodAll_cons hA
  obtain ⟨v1, vs1, d1, ds1, p1, q1, hargs1, rfl, rfl, h1, r1⟩ := trodAll_cons r0
  obtain ⟨rfl, rfl, rfl⟩ := trodAll_nil r1
  obtain rfl : args = #[v0, v1] := by cases args; simp_all
  obtain ⟨rfl, rfl⟩ := trodVars_none hV
  have k0 := h0
  have lt0 : ∀ x ∈ p0, x.block < W.heap.size := by obtain ⟨m, hm⟩ := k0; exact DataW.trod_lt m _ _ _ hm
  obtain ⟨A0, m0, c0, l0, rfl, w0, hc0, hb0⟩ := opn_top_bytes (hval 0 22 v0 rfl rfl) h0 (WOk.top hsz (j := 0) rfl rfl)
  obtain ⟨s1, rfl, rfl, rfl, ws1⟩ := Go.ChangeMaps.open_string Tryz.underlying9 (hval 1 9 v1 rfl rfl) h1
  clear hA0 hval0
  refine (bfindlaw_walk hT c0 w0 hc0 s1).mono fun e W' ⟨he, bel⟩ => ?_
  subst he
  exact ⟨_, rfl, _, _, _, [], _, [], hW', trodAll_mk1 (shut_bool Tryz.underlying4 _), (trodAll_cons_mk (Below.trod laidK (by kernel_rfl) (of_decide_eq_true (by kernel_rfl)) k0 bel lt0) (trodAll_cons_mk (Go.ChangeMaps.shut_string Tryz.underlying9 ws1) trodAll_mk0)), rfl, Below.frame bel _, fun h => by cases h⟩
theorem BinaryFind_row : Rows.BinaryFindSaid :=
  OpenClaim.holds_of_wide 4 Tryz.f4 rfl rfl rfl rfl rfl rfl rfl ⟨rfl, rfl, rfl, rfl, rfl⟩ rfl rfl rfl rfl rfl (by kernel_rfl) Tryz.func4 (by kernel_rfl)
    (of_decide_eq_true (by kernel_rfl)) (by unfold Func.isWrapper; rw [if_neg (of_decide_eq_false (by kernel_rfl))]; exact ⟨rfl, rfl⟩)
    (fun os started H enc _ => liftedBinaryFind os started H enc)
theorem BinaryFind_holds : Rows.BinaryFindCardSaid :=
  Claim7.holds_tied_plain_at .later [] Rows.binaryFindCard.laidKinds true Rows.binaryFindCard.stood.harness Rows.binaryFindCard.stood.looks
    BinaryFind_row (fun _ h => by cases h) (by kernel_rfl) (fun _ h => by cases h) binaryFind_row_tie rfl ⟨rfl, rfl⟩ (by kernel_rfl) rfl
    (fun f fn hf hfn => by
      obtain rfl : f = 4 := Option.some.inj ((show Tryz.prog.funcNamed Rows.binaryFindRow.func = some 4 by kernel_rfl).symm.trans hf) |>.symm
      obtain rfl : fn = Tryz.f4 := (Option.some.inj (Tryz.func4.symm.trans hfn)).symm
      exact ⟨by kernel_rfl, fun j t ht => by
        rw [Tryz.params4] at ht
        have hm : t ∈ [22, 9] := by simpa using Array.mem_of_getElem? ht
        have hall : ([22, 9].all fun u => !Tryz.prog.wantsStandIn u) = true := by kernel_rfl
        exact (show Tryz.prog.wantsStandIn t = false by simpa using List.all_eq_true.1 hall t hm)⟩)
    (by kernel_rfl)
#print axioms BinaryFind_holds

end Go.Proofs.YtngpajaghadhdaaGreatDoor
