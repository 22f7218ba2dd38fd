/- On a nil pointer, Acquire and Release return ErrState, Clone nil, and the others zero values. No condition. -/
import Derived.Test.YthmeobjomidkoaaDoorLockAwake
import Derived.Test.YthmeobjomidkoaaDoorLockCard
import Derived.Test.YthmeobjomidkoaaDoorLockOpen
import Derived.Test.YthmeobjomidkoaaDoorExtS
import Derived.ProofKit
import Derived.OpenShut
import Derived.ShutString
import Derived.ChangeOld
import Derived.SizedLaws
namespace Go.Proofs.YthmeobjomidkoaaDoor
open Go.ChangeShapes Go.WideShapes Go.ChangeAt Go.RowKit
set_option maxRecDepth 100000

attribute [local go_sem] ext_refl_t ext_alloc_t ext_drew_t ext_drewN_t ext_alloc2_t ext_alloc3_t ext_alloc4_t ext_alloc5_t ext_alloc6_t ext_alloc7_t ext_alloc8_t ext_alloc1d_t ext_alloc2d_t ext_alloc3d_t ext_alloc4d_t
set_option maxHeartbeats 800000 in
theorem holder_nil {w : World} (a b : ByteArray) (now : Int) :
    Calls Tryd.prog 14 #[.pointer none, .string a, .string b, .int .i64 now] w fun e w' => e = .returned (.tuple #[lkV lk0, .bool false]) ∧ Ext w w' := by
  have hr := Blk.new w 35 #[.string ⟨#[]⟩, .string ⟨#[]⟩, .string ⟨#[]⟩, .int .i64 0]
  go_enter Tryd.func14, Tryd.ntmps14
  go_wp2
  refine bodyPost_ret (results_cell_row_tmp rfl _ _ w.heap.size 35 #[.string ⟨#[]⟩, .string ⟨#[]⟩, .string ⟨#[]⟩, .int .i64 0] (0, 0) _ rfl hr Tryd.underlying35 rfl info_lk) rfl ?_
  exact ⟨rfl, (Ext.refl w).alloc _⟩
set_option maxHeartbeats 3200000 in
theorem nil_walk {w : World} (s : LStep) (hT : Tabs w) :
    Calls Tryd.prog 8 #[lsV s] w fun e w' => e = .returned (.bool true) ∧ Ext w w' := by
  obtain ⟨op, ⟨na, id, wh, ti⟩, no⟩ := s
  unfold lsV
  dsimp only
  have hEa : Ext w (w.alloc (Obj.cells #[.int .i64 op, .string na, .string id, .string wh, .int .i64 ti, .int .i64 no] 29)) := (Ext.refl w).alloc _
  have hb := Blk.new w 29 #[.int .i64 op, .string na, .string id, .string wh, .int .i64 ti, .int .i64 no]
  go_enter Tryd.func8, Tryd.ntmps8
  go_wp2_with (first
    | (go_at_call 9; refine Hid.out ?_))
  refine Hid.mk_ ((awake_lk _ (hT.ext hEa)).mono ?_)
  rintro e w1 ⟨rfl, hE1⟩
  have hb1 := hb.below hE1 hb.lt
  have hE01 := hEa.trans hE1
  have x1 : ∀ W, Ext w1 W → W.cell? ⟨w.heap.size, 1, none⟩ = some (.string na) := laters (hb1.cell 1)
  have x2 : ∀ W, Ext w1 W → W.cell? ⟨w.heap.size, 2, none⟩ = some (.string id) := laters (hb1.cell 2)
  have x3 : ∀ W, Ext w1 W → W.cell? ⟨w.heap.size, 3, none⟩ = some (.string wh) := laters (hb1.cell 3)
  have x4 : ∀ W, Ext w1 W → W.cell? ⟨w.heap.size, 4, none⟩ = some (.int .i64 ti) := laters (hb1.cell 4)
  have x5 : ∀ W, Ext w1 W → W.cell? ⟨w.heap.size, 5, none⟩ = some (.int .i64 no) := laters (hb1.cell 5)
  clear hb hb1 hEa hE1
  go_wp2_with (first
    | (go_at_call 14; refine Hid.out ?_))
  refine Hid.mk_ ((holder_nil na id no).mono ?_)
  rintro e w2 ⟨rfl, hE2⟩
  have hE12 : Ext w1 w2 := ((Ext.refl w1).alloc _).trans hE2
  have z0 : ∀ W, Ext w2 W → W.cell? ⟨w1.heap.size, 0, none⟩ = some (.string na) := laters (((Blk.new w1 24 #[.string na, .string id, .string wh, .int .i64 ti]).below hE2 (Blk.new w1 _ _).lt).cell 0)
  have z1 : ∀ W, Ext w2 W → W.cell? ⟨w1.heap.size, 1, none⟩ = some (.string id) := laters (((Blk.new w1 24 #[.string na, .string id, .string wh, .int .i64 ti]).below hE2 (Blk.new w1 _ _).lt).cell 1)
  have z2 : ∀ W, Ext w2 W → W.cell? ⟨w1.heap.size, 2, none⟩ = some (.string wh) := laters (((Blk.new w1 24 #[.string na, .string id, .string wh, .int .i64 ti]).below hE2 (Blk.new w1 _ _).lt).cell 2)
  have z3 : ∀ W, Ext w2 W → W.cell? ⟨w1.heap.size, 3, none⟩ = some (.int .i64 ti) := laters (((Blk.new w1 24 #[.string na, .string id, .string wh, .int .i64 ti]).below hE2 (Blk.new w1 _ _).lt).cell 3)
  have y5 : ∀ W, Ext w2 W → W.cell? ⟨w.heap.size, 5, none⟩ = some (.int .i64 no) := fun W hE => x5 W (hE12.trans hE)
  clear x1 x2 x3 x4 x5
  unfold lkV lk0
  dsimp only
  go_wp2
  go_ret
  exact ⟨rfl, by repeat (first | exact hE01.trans hE12 | refine Ext.alloc ?_ _)⟩

set_option maxRecDepth 100000 in
theorem liftedLockNil (os : Os) (started : os.Started) (H : Type) (enc : TypeId × Value → H) :
    ReturnsInHanded {} Tryd.checked os 8 .any (fun w args => (Rows.lockNilSpec.pre enc Tryd.prog Tryd.f8 [] false w args ∧ laidMetH Tryd.prog laidL w) ∧ sizedMet enc Tryd.prog Tryd.f8 (OpenSpec.ofChange Rows.lockNilSpec) false w args) (Rows.lockNilSpec.post enc Tryd.prog Tryd.f8 false true false false) := by
  refine returnsInHanded_of_change_and (C := Tryd.checked) (X := fun w _ => laidMetH Tryd.prog laidL w) (fun _ _ _ hh h => h.of_heap hh) ownK started (by kernel_rfl) Tryd.func8
    (ChangeSpec.witness_shaped (enc := enc) (C := Tryd.checked) (os := os) (X := fun w _ => laidMetH Tryd.prog laidL w) false (World.laidAll Tryd.prog os laidL) #[.agg #[.int .i64 0, .string ⟨#[]⟩, .string ⟨#[]⟩, .string ⟨#[]⟩, .int .i64 0, .int .i64 0]] 8 (World.laidAll_os _ _ _)
      (World.shaped_of_ZipB (by kernel_rfl) (by kernel_rfl)) (by kernel_rfl) (by kernel_rfl) (by kernel_rfl)
      (by rw [MakeChecks.laidMetH_plain _ _ _ (by kernel_rfl)]; exact laidMet_laidAll _ (by kernel_rfl) (by kernel_rfl))) ?_
  intro W base args ds gs before hval0 hW hcnd hsz0 hL _
  have hT := tabs_of_laid hL
  have hval : ∀ (j : Nat) t v, Tryd.f8.params[j]? = some t → args[j]? = some v → Value.okWide Tryd.prog W .any base t v := hval0
  have hW' := hW
  obtain ⟨p, q, hA0, hV, rfl, hfz, hnd⟩ := hW
  have hA : DataW.TrodAll enc Tryd.prog W 0 (fun _ => true) true Tryd.f8.params.toList args.toList ds p := hA0
  have hsz : (DataW.weightsEach Tryd.prog (Tryd.f8.params.toList ++ Rows.lockNilSpec.plain.varTypes Tryd.prog) (ds ++ gs)).all (· ≤ reachBytes) = true := hsz0
  rw [Tryd.params8] at hA hval hsz
  obtain ⟨v0, vs0, d0, ds0, p0, q0, hargs0, rfl, rfl, h0, r0⟩ := trodAll_cons hA
  obtain ⟨rfl, rfl, rfl⟩ := trodAll_nil r0
  obtain rfl : args = #[v0] := by cases args; simp_all
  obtain ⟨rfl, rfl⟩ := trodVars_none hV
  have k0 := h0
  have lt0 : ∀ x ∈ p0, x.block < W.heap.size := by obtain ⟨m, hm⟩ := k0; exact DataW.trod_lt m _ _ _ hm
  obtain ⟨x1, rfl, g1⟩ := opn_top_agg opn_step ((okWide_struct Tryd.underlying29 (hval 0 29 v0 rfl rfl)).imp fun _ hh => hh.1) h0 (WOk.top hsz (j := 0) rfl rfl)
  clear hA0 hval0
  refine (nil_walk x1 hT).mono fun e W' ⟨he, bel⟩ => ?_
  subst he
  exact ⟨_, rfl, _, _, _, [], _, [], hW', trodAll_mk1 (shut_bool Tryd.underlying4 _), (trodAll_cons_mk (Below.trod laidK (by kernel_rfl) (of_decide_eq_true (by kernel_rfl)) k0 bel lt0) trodAll_mk0), rfl, Below.frame bel _, fun h => by cases h⟩
theorem LockNil_row : Rows.LockNilSaid :=
  OpenClaim.holds_of_wide 8 Tryd.f8 rfl rfl rfl rfl rfl rfl rfl ⟨rfl, rfl, rfl, rfl, rfl⟩ rfl rfl rfl rfl rfl (by kernel_rfl) Tryd.func8 (by kernel_rfl)
    (of_decide_eq_true (by kernel_rfl)) (by unfold Func.isWrapper; rw [if_neg (of_decide_eq_false (by kernel_rfl))]; exact ⟨rfl, rfl⟩)
    (fun os started H enc _ => liftedLockNil os started H enc)
theorem LockNil_holds : Rows.LockNilCardSaid :=
  Claim7.holds_tied_plain_at .later [] Rows.lockNilCard.laidKinds true Rows.lockNilCard.stood.harness true
    LockNil_row (fun _ h => by cases h) (by kernel_rfl) (fun _ h => by cases h) lockNil_row_tie rfl ⟨rfl, rfl⟩ (by kernel_rfl) rfl
    (fun f fn hf hfn => by
      obtain rfl : f = 8 := Option.some.inj ((show Tryd.prog.funcNamed Rows.lockNilRow.func = some 8 by kernel_rfl).symm.trans hf) |>.symm
      obtain rfl : fn = Tryd.f8 := (Option.some.inj (Tryd.func8.symm.trans hfn)).symm
      exact ⟨by kernel_rfl, fun j t ht => by
        rw [Tryd.params8] at ht
        have hm : t ∈ [29] := by simpa using Array.mem_of_getElem? ht
        have hall : ([29].all fun u => !Tryd.prog.wantsStandIn u) = true := by kernel_rfl
        exact (show Tryd.prog.wantsStandIn t = false by simpa using List.all_eq_true.1 hall t hm)⟩)
    (by kernel_rfl)
#print axioms LockNil_holds
end Go.Proofs.YthmeobjomidkoaaDoor
