/- A catalog and an entry are valid as specified. No condition. -/
import Derived.Test.YtikbjaopcminaaaDoorREq
import Derived.Test.YtikbjaopcminaaaDoorRFew
import Derived.Test.YtikbjaopcminaaaDoorCatCard
import Derived.ProofKit
import Derived.OpenShut
import Derived.ShutString
import Derived.ChangeOld
import Derived.SizedLaws
namespace Go.Proofs.YtikbjaopcminaaaDoor
open Go.ChangeShapes Go.WideShapes Go.ChangeAt Go.RowKit
set_option maxRecDepth 100000
attribute [local go_sem] ext_refl_t ext_alloc_t ext_drew_t ext_drewN_t ext_alloc2_t ext_alloc3_t ext_alloc4_t ext_alloc5_t ext_alloc6_t ext_alloc7_t ext_alloc8_t ext_alloc1d_t ext_alloc2d_t ext_alloc3d_t ext_alloc4d_t
def laidL2 : List (String × DataW Unit) := Rows.catalogValidRow.laid
theorem tabs2 {W : World} (h : laidMetH Tryd.prog laidL2 W) : Tabs W := tabs_of_laid h
set_option maxHeartbeats 3200000 in
theorem valid_walk {w : World} {x : Cat} {y : Ent} (hx : CatW w x) (hy : EntW w y) (hT : Tabs w) :
    Calls Tryd.prog 4 #[catV x, entV y] w fun e w' => e = .returned (.bool true) ∧ Ext w w' := by
  have HX := Lib.hid hx
  have HY := Lib.hid hy
  obtain ⟨tag, com, fd, es, hc, hd, he⟩ := x
  obtain ⟨⟨bid, bsrc, btgt, bcom, bfl, bst, bfd⟩, bhc, bhf, bhd⟩ := y
  have HCA : Hid (catV ⟨tag, com, fd, es, hc, hd, he⟩ = .agg #[.string tag, .slice hc.A hc.m hc.c, .slice hd.A hd.m hd.c, .slice he.A he.m he.c]) := rfl
  have HCB : Hid (entV ⟨⟨bid, bsrc, btgt, bcom, bfl, bst, bfd⟩, bhc, bhf, bhd⟩ = .agg #[.string bid, .string bsrc, .string btgt, .slice bhc.A bhc.m bhc.c, .slice bhf.A bhf.m bhf.c, .int .i64 bst, .slice bhd.A bhd.m bhd.c]) := rfl
  rw [HCA.out, HCB.out]
  obtain ⟨W0, hW0⟩ : ∃ W0, W0 = (w.alloc (Obj.cells #[.string tag, .slice hc.A hc.m hc.c, .slice hd.A hd.m hd.c, .slice he.A he.m he.c] 28)).alloc (Obj.cells #[.string bid, .string bsrc, .string btgt, .slice bhc.A bhc.m bhc.c, .slice bhf.A bhf.m bhf.c, .int .i64 bst, .slice bhd.A bhd.m bhd.c] 30) := ⟨_, rfl⟩
  have hb0 : Blk W0 w.heap.size 28 #[.string tag, .slice hc.A hc.m hc.c, .slice hd.A hd.m hd.c, .slice he.A he.m he.c] := by rw [hW0]; exact (Blk.new w _ _).alloc _
  have hb1 : Blk W0 (w.heap.size + 1) 30 #[.string bid, .string bsrc, .string btgt, .slice bhc.A bhc.m bhc.c, .slice bhf.A bhf.m bhf.c, .int .i64 bst, .slice bhd.A bhd.m bhd.c] := by
    have h := Blk.new (w.alloc (Obj.cells #[.string tag, .slice hc.A hc.m hc.c, .slice hd.A hd.m hd.c, .slice he.A he.m he.c] 28)) 30 #[.string bid, .string bsrc, .string btgt, .slice bhc.A bhc.m bhc.c, .slice bhf.A bhf.m bhf.c, .int .i64 bst, .slice bhd.A bhd.m bhd.c]
    rw [hW0]; simpa using h
  have hE0 : Ext w W0 := by rw [hW0]; exact ((Ext.refl w).alloc _).alloc _
  have hawk := awake_cat (hT.ext hE0)
  go_enter Tryd.func4, Tryd.ntmps4
  go_wp2_with (first
    | (go_at_call 12; refine Hid.out ?_))
  rw [← hW0]
  obtain ⟨g, hg⟩ : ∃ g, g = w.heap.size := ⟨_, rfl⟩
  rw [← hg] at hb0 hb1 ⊢
  refine Hid.mk_ (hawk.mono ?_)
  rintro e w1 ⟨rfl, hE1⟩
  have hE01 := hE0.trans hE1
  have XA := Lib.hid (And.intro (laters (show W0.cell? ⟨g, 0, none⟩ = some (.string tag) from hb0.cell 0)) (And.intro (laters (show W0.cell? ⟨g, 1, none⟩ = some (.slice hc.A hc.m hc.c) from hb0.cell 1)) (And.intro (laters (show W0.cell? ⟨g, 2, none⟩ = some (.slice hd.A hd.m hd.c) from hb0.cell 2)) (laters (show W0.cell? ⟨g, 3, none⟩ = some (.slice he.A he.m he.c) from hb0.cell 3)))))
  have X0 := XA.out.1
  have X1 := XA.out.2.1
  have X2 := XA.out.2.2.1
  have X3 := XA.out.2.2.2
  have Y0 := laters (show W0.cell? ⟨g + 1, 0, none⟩ = some (.string bid) from hb1.cell 0)
  have Y1 := laters (show W0.cell? ⟨g + 1, 1, none⟩ = some (.string bsrc) from hb1.cell 1)
  have Y2 := laters (show W0.cell? ⟨g + 1, 2, none⟩ = some (.string btgt) from hb1.cell 2)
  have Y3 := laters (show W0.cell? ⟨g + 1, 3, none⟩ = some (.slice bhc.A bhc.m bhc.c) from hb1.cell 3)
  have Y4 := laters (show W0.cell? ⟨g + 1, 4, none⟩ = some (.slice bhf.A bhf.m bhf.c) from hb1.cell 4)
  have Y5 := laters (show W0.cell? ⟨g + 1, 5, none⟩ = some (.int .i64 bst) from hb1.cell 5)
  have Y6 := laters (show W0.cell? ⟨g + 1, 6, none⟩ = some (.slice bhd.A bhd.m bhd.c) from hb1.cell 6)
  clear hb0 hb1 hW0 hg hawk
  have hfc := few_any (HX.out.ext hE01)
  rw [HCA.out] at hfc
  go_wp2_with (first
    | (go_at_call 19; refine Hid.out ?_))
  refine Hid.mk_ ((hfc).mono ?_)
  rintro e w2 ⟨rfl, hE2⟩
  clear hfc
  have hE12 := hE1.trans hE2
  have hE02 := hE01.trans hE2
  cases hf1 : fewC (Cat.p ⟨tag, com, fd, es, hc, hd, he⟩) with
  | false =>
    clear hf1
    go_wp2
    go_ret
    exact ⟨rfl, hE02⟩
  | true =>
  clear hf1
  have hfe := fewEntry_any (HY.out.ext hE02)
  rw [HCB.out] at hfe
  go_wp2_with (first
    | (go_at_call 20; refine Hid.out ?_))
  refine Hid.mk_ ((hfe).mono ?_)
  rintro e w3 ⟨rfl, hE3⟩
  clear hfe
  have hE13 := hE12.trans hE3
  have hE03 := hE02.trans hE3
  cases hf1 : fewE ⟨bid, bsrc, btgt, bcom, bfl, bst, bfd⟩ with
  | false =>
    clear hf1
    go_wp2
    go_ret
    exact ⟨rfl, hE03⟩
  | true =>
  clear hf1
  obtain ⟨r, hr⟩ : ∃ r, r = validC (Cat.p ⟨tag, com, fd, es, hc, hd, he⟩) := ⟨_, rfl⟩
  obtain ⟨s, hs⟩ : ∃ s, s = validE ⟨bid, bsrc, btgt, bcom, bfl, bst, bfd⟩ := ⟨_, rfl⟩
  have hrr : (r == r) = true := by simp
  have hss : (s == s) = true := by simp
  have V1 : Hid (∀ u : ExtOf w3, Calls Tryd.prog 21 #[.agg #[.string tag, .slice hc.A hc.m hc.c, .slice hd.A hd.m hd.c, .slice he.A he.m he.c]] u.1 fun e w' => e = .returned (.bool r) ∧ Ext u.1 w') := fun u => by
    have h := valid_any' (HX.out.ext (hE03.trans u.ext)) (hT.ext (hE03.trans u.ext))
    rw [HCA.out, ← hr] at h
    exact h
  have V2 : Hid (∀ u : ExtOf w3, Calls Tryd.prog 22 #[.agg #[.string tag, .slice hc.A hc.m hc.c, .slice hd.A hd.m hd.c, .slice he.A he.m he.c]] u.1 fun e w' => e = .returned (.bool r) ∧ Ext u.1 w') := fun u => by
    have h := rvalid_any (HX.out.ext (hE03.trans u.ext))
    rw [HCA.out, ← hr] at h
    exact h
  have V3 : Hid (∀ u : ExtOf w3, Calls Tryd.prog 23 #[.agg #[.string bid, .string bsrc, .string btgt, .slice bhc.A bhc.m bhc.c, .slice bhf.A bhf.m bhf.c, .int .i64 bst, .slice bhd.A bhd.m bhd.c]] u.1 fun e w' => e = .returned (.bool s) ∧ Ext u.1 w') := fun u => by
    have h := validEntry_any (HY.out.ext (hE03.trans u.ext)) (hT.ext (hE03.trans u.ext))
    rw [HCB.out, ← hs] at h
    exact h
  have V4 : Hid (∀ u : ExtOf w3, Calls Tryd.prog 24 #[.agg #[.string bid, .string bsrc, .string btgt, .slice bhc.A bhc.m bhc.c, .slice bhf.A bhf.m bhf.c, .int .i64 bst, .slice bhd.A bhd.m bhd.c]] u.1 fun e w' => e = .returned (.bool s) ∧ Ext u.1 w') := fun u => by
    have h := rentry_any (HY.out.ext (hE03.trans u.ext))
    rw [HCB.out, ← hs] at h
    exact h
  have Z0 : ∀ u : ExtOf w3, u.val.cell? ⟨g, 0, none⟩ = some (.string tag) := fun u => X0 _ (hE13.trans u.ext)
  have Z1 : ∀ u : ExtOf w3, u.val.cell? ⟨g, 1, none⟩ = some (.slice hc.A hc.m hc.c) := fun u => X1 _ (hE13.trans u.ext)
  have Z2 : ∀ u : ExtOf w3, u.val.cell? ⟨g, 2, none⟩ = some (.slice hd.A hd.m hd.c) := fun u => X2 _ (hE13.trans u.ext)
  have Z3 : ∀ u : ExtOf w3, u.val.cell? ⟨g, 3, none⟩ = some (.slice he.A he.m he.c) := fun u => X3 _ (hE13.trans u.ext)
  have U0 : ∀ u : ExtOf w3, u.val.cell? ⟨g + 1, 0, none⟩ = some (.string bid) := fun u => Y0 _ (hE13.trans u.ext)
  have U1 : ∀ u : ExtOf w3, u.val.cell? ⟨g + 1, 1, none⟩ = some (.string bsrc) := fun u => Y1 _ (hE13.trans u.ext)
  have U2 : ∀ u : ExtOf w3, u.val.cell? ⟨g + 1, 2, none⟩ = some (.string btgt) := fun u => Y2 _ (hE13.trans u.ext)
  have U3 : ∀ u : ExtOf w3, u.val.cell? ⟨g + 1, 3, none⟩ = some (.slice bhc.A bhc.m bhc.c) := fun u => Y3 _ (hE13.trans u.ext)
  have U4 : ∀ u : ExtOf w3, u.val.cell? ⟨g + 1, 4, none⟩ = some (.slice bhf.A bhf.m bhf.c) := fun u => Y4 _ (hE13.trans u.ext)
  have U5 : ∀ u : ExtOf w3, u.val.cell? ⟨g + 1, 5, none⟩ = some (.int .i64 bst) := fun u => Y5 _ (hE13.trans u.ext)
  have U6 : ∀ u : ExtOf w3, u.val.cell? ⟨g + 1, 6, none⟩ = some (.slice bhd.A bhd.m bhd.c) := fun u => Y6 _ (hE13.trans u.ext)
  clear X0 X1 X2 X3 Y0 Y1 Y2 Y3 Y4 Y5 Y6 hr hs
  go_wp2
  refine wp_region_ext_lit (by kernel_rfl) (by kernel_rfl) ?_
  repeat (go_big_quiet_step (first | (go_at_call 21; with_reducible exact Calls.quiet_ext (V1.out _)) | (go_at_call 22; with_reducible exact Calls.quiet_ext (V2.out _)) | (go_at_call 23; with_reducible exact Calls.quiet_ext (V3.out _)) | (go_at_call 24; with_reducible exact Calls.quiet_ext (V4.out _))))
  refine wpQuiet_nil ?_
  rintro w5 ⟨⟨_, h5⟩, rfl⟩
  try dsimp only
  go_wp2
  go_ret
  exact ⟨rfl, hE03.trans h5⟩

set_option maxRecDepth 100000 in
theorem liftedCatalogValid (os : Os) (started : os.Started) (H : Type) (enc : TypeId × Value → H) :
    ReturnsInHanded {} Tryd.checked os 4 .any (fun w args => (Rows.catalogValidSpec.pre enc Tryd.prog Tryd.f4 [] false w args ∧ laidMetH Tryd.prog laidL2 w) ∧ sizedMet enc Tryd.prog Tryd.f4 (OpenSpec.ofChange Rows.catalogValidSpec) false w args) (Rows.catalogValidSpec.post enc Tryd.prog Tryd.f4 false true false false) := by
  refine returnsInHanded_of_change_and (C := Tryd.checked) (X := fun w _ => laidMetH Tryd.prog laidL2 w) (fun _ _ _ hh h => h.of_heap hh) ownK started (by kernel_rfl) Tryd.func4
    (ChangeSpec.witness_shaped (enc := enc) (C := Tryd.checked) (os := os) (X := fun w _ => laidMetH Tryd.prog laidL2 w) false (World.laidAll Tryd.prog os laidL2) #[.agg #[.string ⟨#[]⟩, .slice none 0 0, .slice none 0 0, .slice none 0 0], .agg #[.string ⟨#[]⟩, .string ⟨#[]⟩, .string ⟨#[]⟩, .slice none 0 0, .slice none 0 0, .int .i64 0, .slice none 0 0]] 8 (World.laidAll_os _ _ _)
      (World.shaped_of_ZipB (by kernel_rfl) (by kernel_rfl)) (by kernel_rfl) (by kernel_rfl) (by kernel_rfl)
      (by rw [MakeChecks.laidMetH_plain _ _ _ (by kernel_rfl)]; exact laidMet_laidAll _ (by kernel_rfl) (by kernel_rfl))) ?_
  intro W base args ds gs before hval0 hW hcnd hsz0 hL _
  have hT := tabs2 hL
  have hval : ∀ (j : Nat) t v, Tryd.f4.params[j]? = some t → args[j]? = some v → Value.okWide Tryd.prog W .any base t v := hval0
  have hW' := hW
  obtain ⟨p, q, hA0, hV, rfl, hfz, hnd⟩ := hW
  have hA : DataW.TrodAll enc Tryd.prog W 0 (fun _ => true) true Tryd.f4.params.toList args.toList ds p := hA0
  have hsz : (DataW.weightsEach Tryd.prog (Tryd.f4.params.toList ++ Rows.catalogValidSpec.plain.varTypes Tryd.prog) (ds ++ gs)).all (· ≤ reachBytes) = true := hsz0
  rw [Tryd.params4] at hA hval hsz
  obtain ⟨v0, vs0, d0, ds0, p0, q0, hargs0, rfl, rfl, h0, r0⟩ := trodAll_cons hA
  obtain ⟨v1, vs1, d1, ds1, p1, q1, hargs1, rfl, rfl, h1, r1⟩ := trodAll_cons r0
  obtain ⟨rfl, rfl, rfl⟩ := trodAll_nil r1
  obtain rfl : args = #[v0, v1] := by cases args; simp_all
  obtain ⟨rfl, rfl⟩ := trodVars_none hV
  have k0 := h0
  have lt0 : ∀ x ∈ p0, x.block < W.heap.size := by obtain ⟨m, hm⟩ := k0; exact DataW.trod_lt m _ _ _ hm
  have k1 := h1
  have lt1 : ∀ x ∈ p1, x.block < W.heap.size := by obtain ⟨m, hm⟩ := k1; exact DataW.trod_lt m _ _ _ hm
  obtain ⟨x0, rfl, g0⟩ := opn_top_agg opn_cat ((okWide_struct Tryd.underlying28 (hval 0 28 v0 rfl rfl)).imp fun _ hh => hh.1) h0 (WOk.top hsz (j := 0) rfl rfl)
  obtain ⟨x1, rfl, g1⟩ := opn_top_agg opn_entry ((okWide_struct Tryd.underlying30 (hval 1 30 v1 rfl rfl)).imp fun _ hh => hh.1) h1 (WOk.top hsz (j := 1) rfl rfl)
  clear hA0 hval0
  refine (valid_walk g0 g1 hT).mono fun e W' ⟨he, bel⟩ => ?_
  subst he
  exact ⟨_, rfl, _, _, _, [], _, [], hW', trodAll_mk1 (shut_bool Tryd.underlying4 _), (trodAll_cons_mk (Below.trod laidK (by kernel_rfl) (of_decide_eq_true (by kernel_rfl)) k0 bel lt0) (trodAll_cons_mk (Below.trod laidK (by kernel_rfl) (of_decide_eq_true (by kernel_rfl)) k1 bel lt1) trodAll_mk0)), rfl, Below.frame bel _, fun h => by cases h⟩
theorem CatalogValid_row : Rows.CatalogValidSaid :=
  OpenClaim.holds_of_wide 4 Tryd.f4 rfl rfl rfl rfl rfl rfl rfl ⟨rfl, rfl, rfl, rfl, rfl⟩ rfl rfl rfl rfl rfl (by kernel_rfl) Tryd.func4 (by kernel_rfl)
    (of_decide_eq_true (by kernel_rfl)) (by unfold Func.isWrapper; rw [if_neg (of_decide_eq_false (by kernel_rfl))]; exact ⟨rfl, rfl⟩)
    (fun os started H enc _ => liftedCatalogValid os started H enc)
theorem CatalogValid_holds : Rows.CatalogValidCardSaid :=
  Claim7.holds_tied_plain_at .later [] Rows.catalogValidCard.laidKinds true Rows.catalogValidCard.stood.harness Rows.catalogValidCard.stood.looks
    CatalogValid_row (fun _ h => by cases h) (by kernel_rfl) (fun _ h => by cases h) catalogValid_row_tie rfl ⟨rfl, rfl⟩ (by kernel_rfl) rfl
    (fun f fn hf hfn => by
      obtain rfl : f = 4 := Option.some.inj ((show Tryd.prog.funcNamed Rows.catalogValidRow.func = some 4 by kernel_rfl).symm.trans hf) |>.symm
      obtain rfl : fn = Tryd.f4 := (Option.some.inj (Tryd.func4.symm.trans hfn)).symm
      exact ⟨by kernel_rfl, fun j t ht => by
        rw [Tryd.params4] at ht
        have hm : t ∈ [28, 30] := by simpa using Array.mem_of_getElem? ht
        have hall : ([28, 30].all fun u => !Tryd.prog.wantsStandIn u) = true := by kernel_rfl
        exact (show Tryd.prog.wantsStandIn t = false by simpa using List.all_eq_true.1 hall t hm)⟩)
    (by kernel_rfl)
#print axioms CatalogValid_holds

end Go.Proofs.YtikbjaopcminaaaDoor
