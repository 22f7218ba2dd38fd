/- Find, IDs, Count, Equal and EqualEntry return the specified results for any catalogs. No condition. -/
import Derived.Test.YtikbjaopcminaaaDoorCatG
import Derived.ProofKit
import Derived.OpenShut
import Derived.ShutString
import Derived.ChangeOld
import Derived.SizedLaws
import Derived.Outline
namespace Go.Proofs.YtikbjaopcminaaaDoor
open Go.ChangeShapes Go.WideShapes Go.ChangeAt Go.RowKit
set_option maxRecDepth 100000
attribute [local go_sem] ext_refl_t ext_alloc_t ext_drew_t ext_drewN_t ext_alloc2_t ext_alloc3_t ext_alloc4_t ext_alloc5_t ext_alloc6_t ext_alloc7_t ext_alloc8_t ext_alloc1d_t ext_alloc2d_t ext_alloc3d_t ext_alloc4d_t
def laidL2 : List (String × DataW Unit) := Rows.catalogFindRow.laid
theorem tabs2 {W : World} (h : laidMetH Tryd.prog laidL2 W) : Tabs W := tabs_of_laid h
set_option maxHeartbeats 12800000 in
theorem findlaw_walk {w : World} {x x2 : Cat} (hx : CatW w x) (hy : CatW w x2) (id : ByteArray) (hT : Tabs w) :
    Calls Tryd.prog 9 #[catV x, catV x2, .string id] w fun e w' => e = .returned (.bool true) ∧ Ext w w' := by
  have HIDV : Hid (∀ y : Cat, catV y = .agg #[.string y.tag, .slice y.c.A y.c.m y.c.c, .slice y.d.A y.d.m y.d.c, .slice y.e.A y.e.m y.e.c]) := fun _ => rfl
  have HIDE : Hid (∀ z : Ent, entV z = .agg #[.string z.p.id, .string z.p.src, .string z.p.tgt, .slice z.c.A z.c.m z.c.c, .slice z.f.A z.f.m z.f.c, .int .i64 z.p.st, .slice z.d.A z.d.m z.d.c]) := fun _ => rfl
  rw [HIDV.out x, HIDV.out x2]
  obtain ⟨W0, hW0⟩ : ∃ W0, W0 = (w.alloc (Obj.cells #[.string x.tag, .slice x.c.A x.c.m x.c.c, .slice x.d.A x.d.m x.d.c, .slice x.e.A x.e.m x.e.c] 28)).alloc (Obj.cells #[.string x2.tag, .slice x2.c.A x2.c.m x2.c.c, .slice x2.d.A x2.d.m x2.d.c, .slice x2.e.A x2.e.m x2.e.c] 28) := ⟨_, rfl⟩
  have hb0 : Blk W0 w.heap.size 28 #[.string x.tag, .slice x.c.A x.c.m x.c.c, .slice x.d.A x.d.m x.d.c, .slice x.e.A x.e.m x.e.c] := by rw [hW0]; exact (Blk.new w _ _).alloc _
  have hb1 : Blk W0 (w.heap.size + 1) 28 #[.string x2.tag, .slice x2.c.A x2.c.m x2.c.c, .slice x2.d.A x2.d.m x2.d.c, .slice x2.e.A x2.e.m x2.e.c] := by rw [hW0]; exact Blk.new1 w _ _ _
  have hE0 : Ext w W0 := by rw [hW0]; exact ((Ext.refl w).alloc _).alloc _
  have hawk := awake_cat (hT.ext hE0)
  obtain ⟨g, hg⟩ : ∃ g, g = w.heap.size := ⟨_, rfl⟩
  obtain ⟨g1, hg1⟩ : ∃ g1, g1 = w.heap.size + 1 := ⟨_, rfl⟩
  go_enter Tryd.func9, Tryd.ntmps9
  go_wp2_with (first
    | (go_at_call 12; refine Hid.out ?_))
  rw [← hW0, ← hg1, ← hg]
  rw [← hg] at hb0
  rw [← hg1] at hb1
  refine Hid.mk_ (hawk.mono ?_)
  rintro e w1 ⟨rfl, hE1⟩
  have hE01 := hE0.trans hE1
  have X00 := laters (show W0.cell? ⟨g, 0, none⟩ = some (.string x.tag) from hb0.cell 0)
  have X01 := laters (show W0.cell? ⟨g, 1, none⟩ = some (.slice x.c.A x.c.m x.c.c) from hb0.cell 1)
  have X02 := laters (show W0.cell? ⟨g, 2, none⟩ = some (.slice x.d.A x.d.m x.d.c) from hb0.cell 2)
  have X03 := laters (show W0.cell? ⟨g, 3, none⟩ = some (.slice x.e.A x.e.m x.e.c) from hb0.cell 3)
  have X10 := laters (show W0.cell? ⟨g1, 0, none⟩ = some (.string x2.tag) from hb1.cell 0)
  have X11 := laters (show W0.cell? ⟨g1, 1, none⟩ = some (.slice x2.c.A x2.c.m x2.c.c) from hb1.cell 1)
  have X12 := laters (show W0.cell? ⟨g1, 2, none⟩ = some (.slice x2.d.A x2.d.m x2.d.c) from hb1.cell 2)
  have X13 := laters (show W0.cell? ⟨g1, 3, none⟩ = some (.slice x2.e.A x2.e.m x2.e.c) from hb1.cell 3)
  clear hW0 hg hg1 hawk hb0 hb1
  have hfc := few_any (hx.ext hE01)
  rw [HIDV.out x] at hfc
  go_wp2_with (first
    | (go_at_call 19; refine Hid.out ?_))
  refine Hid.mk_ ((hfc).mono ?_)
  rintro e w2 ⟨rfl, hE2⟩
  clear hfc
  have hE12 := hE1.trans hE2
  have hE02 := hE01.trans hE2
  cases hf1 : fewC x.p with
  | false =>
    clear hf1
    go_wp2
    go_ret
    exact ⟨rfl, hE02⟩
  | true =>
  have hxm : x.e.m ≤ 12 := by
    have h1 : x.e.m = x.es.length := hx.e.sl.len
    have h2 : x.p.es.length = x.es.length := List.length_map _
    unfold fewC at hf1
    simp only [Bool.and_eq_true, decide_eq_true_eq] at hf1
    omega
  clear hf1
  have hfc := few_any (hy.ext hE02)
  rw [HIDV.out x2] at hfc
  go_wp2_with (first
    | (go_at_call 19; refine Hid.out ?_))
  refine Hid.mk_ ((hfc).mono ?_)
  rintro e w3 ⟨rfl, hE3⟩
  clear hfc
  have hE13 := hE12.trans hE3
  have hE03 := hE02.trans hE3
  cases hf1 : fewC x2.p with
  | false =>
    clear hf1
    go_wp2
    go_ret
    exact ⟨rfl, hE03⟩
  | true =>
  have hym : x2.e.m ≤ 12 := by
    have h1 : x2.e.m = x2.es.length := hy.e.sl.len
    have h2 : x2.p.es.length = x2.es.length := List.length_map _
    unfold fewC at hf1
    simp only [Bool.and_eq_true, decide_eq_true_eq] at hf1
    omega
  clear hf1
  have hfd := find_any (hx.ext hE03) id
  rw [HIDV.out x] at hfd
  go_wp2_with (first
    | (go_at_call 32; refine Hid.out ?_))
  refine Hid.mk_ ((hfd).mono ?_)
  rintro e w4 ⟨⟨z, hz, rfl⟩, hE4⟩
  obtain ⟨zi, zb, HFV⟩ : ∃ zi zb, Hid (FindV z = .tuple #[.int .i64 zi, .bool zb]) := ⟨_, _, Lib.hid rfl⟩
  rw [HFV.out]
  have HZ := Lib.hid hz
  have hE14 := hE13.trans hE4
  have hE04 := hE03.trans hE4
  have hfd2 := refFind_any (hx.ext hE04) id
  rw [HIDV.out x] at hfd2
  clear hfd hz
  go_wp2_with (first
    | (go_at_call 35; refine Hid.out ?_))
  refine Hid.mk_ ((hfd2).mono ?_)
  rintro e w5 ⟨⟨z', hz, rfl⟩, hE5⟩
  obtain rfl := HZ.out.uniq hz
  rw [HFV.out]
  clear hz hfd2
  have hE15 := hE14.trans hE5
  have hE05 := hE04.trans hE5
  have hzz : (zi == zi) = true := by simp
  have hbb : (zb == zb) = true := by simp
  replace X00 := laters (X00 _ hE15)
  replace X01 := laters (X01 _ hE15)
  replace X02 := laters (X02 _ hE15)
  replace X03 := laters (X03 _ hE15)
  replace X10 := laters (X10 _ hE15)
  replace X11 := laters (X11 _ hE15)
  replace X12 := laters (X12 _ hE15)
  replace X13 := laters (X13 _ hE15)
  clear hE1 hE2 hE3 hE4 hE5 hE01 hE12 hE02 hE13 hE03 hE14 hE04 hE15
  go_wp2
  go_loopw [11] (fun i wr => ∃ s : Int, -1 ≤ s ∧ s ≤ 6 ∧ i = .int .i64 s ∧ Ext w5 wr) (fun i _ => (6 - intOf i).toNat)
  case atStart => exact ⟨-1, by omega, by omega, rfl, Ext.refl _⟩
  case round =>
    obtain ⟨s, hs1, hs2, rfl, hEr⟩ := hrel
    have hE0r := hE05.trans hEr
    by_cases hs5 : s ≤ 5
    · obtain ⟨kc, hkc⟩ : ∃ kc : Int, kc = (countN x.es s : Int) := ⟨_, rfl⟩
      have V1 : Hid (∀ u : ExtOf wr, Calls Tryd.prog 36 #[.agg #[.string x.tag, .slice x.c.A x.c.m x.c.c, .slice x.d.A x.d.m x.d.c, .slice x.e.A x.e.m x.e.c], .int .i64 s] u.1 fun e w' => e = .returned (.int .i64 kc) ∧ Ext u.1 w') := fun u => by
        have h := pcount_any (hx.ext (hE0r.trans u.ext)) s (by omega)
        rw [HIDV.out x, ← hkc] at h
        exact h
      have V2 : Hid (∀ u : ExtOf wr, Calls Tryd.prog 37 #[.agg #[.string x.tag, .slice x.c.A x.c.m x.c.c, .slice x.d.A x.d.m x.d.c, .slice x.e.A x.e.m x.e.c], .int .i64 s] u.1 fun e w' => e = .returned (.int .i64 kc) ∧ Ext u.1 w') := fun u => by
        have h := rcount_any (hx.ext (hE0r.trans u.ext)) s (by omega)
        rw [HIDV.out x, ← hkc] at h
        exact h
      have hkk : (kc != kc) = false := by simp
      have U00 := fun (u : ExtOf wr) => X00 u.val ((hEr).trans u.ext)
      have U01 := fun (u : ExtOf wr) => X01 u.val ((hEr).trans u.ext)
      have U02 := fun (u : ExtOf wr) => X02 u.val ((hEr).trans u.ext)
      have U03 := fun (u : ExtOf wr) => X03 u.val ((hEr).trans u.ext)
      clear hkc
      go_wp2
      refine wp_region_ext_lit (by kernel_rfl) (by kernel_rfl) ?_
      try dsimp only [List.append]
      repeat (go_big_quiet_step (first | (go_at_call 36; with_reducible exact Calls.quiet_ext (V1.out _)) | (go_at_call 37; with_reducible exact Calls.quiet_ext (V2.out _))))
      refine wpQuiet_nil ?_
      rintro w6 ⟨⟨_, h6⟩, rfl⟩
      try dsimp only
      go_wp2
      go_roundw
      case rel => exact ⟨s + 1, by omega, by omega, by go_num, hEr.trans h6⟩
      case measure => simp [intOf]; omega
    · have hs6 : s = 6 := by omega
      subst hs6
      clear hs1 hs2 hs5
      have U00 := fun (u : ExtOf wr) => X00 u.val ((hEr).trans u.ext)
      have U01 := fun (u : ExtOf wr) => X01 u.val ((hEr).trans u.ext)
      have U02 := fun (u : ExtOf wr) => X02 u.val ((hEr).trans u.ext)
      have U03 := fun (u : ExtOf wr) => X03 u.val ((hEr).trans u.ext)
      have U10 := fun (u : ExtOf wr) => X10 u.val ((hEr).trans u.ext)
      have U11 := fun (u : ExtOf wr) => X11 u.val ((hEr).trans u.ext)
      have U12 := fun (u : ExtOf wr) => X12 u.val ((hEr).trans u.ext)
      have U13 := fun (u : ExtOf wr) => X13 u.val ((hEr).trans u.ext)
      have hcut0 : ∀ {P : Prop}, (x.e.m = 0 → P) → (0 < x.e.m → x2.e.m = 0 → P) → (0 < x.e.m → 0 < x2.e.m → P) → P := fun h1 h2 h3 => by
        rcases Nat.eq_zero_or_pos x.e.m with h | h
        · exact h1 h
        · rcases Nat.eq_zero_or_pos x2.e.m with h' | h'
          · exact h2 h h'
          · exact h3 h h'
      go_wp2
      go_cut [75] from 45 (fun s75 wx => s75 = .bool false ∧ Ext wr wx)
      case first =>
        refine hcut0 (fun h1 => ?_) (fun h1 h2 => ?_) (fun h1 h2 => ?_)
        · have hg1 : decide (0 < (x.e.m : Int)) = false := decide_eq_false (by omega)
          have hg2 : decide (0 < x.e.m) = false := decide_eq_false (by omega)
          clear h1
          refine wp_region_ext_lit (by kernel_rfl) (by kernel_rfl) ?_
          try dsimp only [List.append]
          repeat (go_big_quiet_step (fail))
          refine wpQuiet_nil ?_
          rintro w6 ⟨⟨_, h6⟩, rfl⟩
          try dsimp only
          go_wp2_with fail
          go_meet
          exact ⟨rfl, h6⟩
        · have hg1 : decide (0 < (x.e.m : Int)) = true := decide_eq_true (by omega)
          have hg2 : decide (0 < x.e.m) = true := decide_eq_true (by omega)
          have hg3 : decide (0 < (x2.e.m : Int)) = false := decide_eq_false (by omega)
          have hg4 : decide (0 < x2.e.m) = false := decide_eq_false (by omega)
          clear h1 h2
          refine wp_region_ext_lit (by kernel_rfl) (by kernel_rfl) ?_
          try dsimp only [List.append]
          repeat (go_big_quiet_step (fail))
          refine wpQuiet_nil ?_
          rintro w6 ⟨⟨_, h6⟩, rfl⟩
          try dsimp only
          go_wp2_with fail
          go_meet
          exact ⟨rfl, h6⟩
        · have hg1 : decide (0 < (x.e.m : Int)) = true := decide_eq_true (by omega)
          have hg2 : decide (0 < x.e.m) = true := decide_eq_true (by omega)
          have hg3 : decide (0 < (x2.e.m : Int)) = true := decide_eq_true (by omega)
          have hg4 : decide (0 < x2.e.m) = true := decide_eq_true (by omega)
          have k1 : 0 < x.es.length := by have h9 : x.e.m = x.es.length := hx.e.sl.len; omega
          have k2 : 0 < x2.es.length := by have h9 : x2.e.m = x2.es.length := hy.e.sl.len; omega
          obtain ⟨eb1, eo1, eA1, _, hcs1⟩ := ((hx.e.sl.ext hE0r)).at_ h1 (by omega)
          obtain ⟨v1, hv1⟩ : ∃ v, v = x.es[0]'k1 := ⟨_, rfl⟩
          have q10 := hcs1 0 k1 0 (by omega)
          have q11 := hcs1 0 k1 1 (by omega)
          have q12 := hcs1 0 k1 2 (by omega)
          have q13 := hcs1 0 k1 3 (by omega)
          have q14 := hcs1 0 k1 4 (by omega)
          have q15 := hcs1 0 k1 5 (by omega)
          have q16 := hcs1 0 k1 6 (by omega)
          simp only [← hv1, entC, List.getElem_cons_zero, List.getElem_cons_succ, Nat.zero_mul, Nat.zero_add, Nat.add_zero] at q10 q11 q12 q13 q14 q15 q16
          have Z10 := laters q10
          have Z11 := laters q11
          have Z12 := laters q12
          have Z13 := laters q13
          have Z14 := laters q14
          have Z15 := laters q15
          have Z16 := laters q16
          have HVN1 := Lib.hid hv1
          clear hcs1 q10 q11 q12 q13 q14 q15 q16 hv1
          obtain ⟨eb2, eo2, eA2, _, hcs2⟩ := ((hy.e.sl.ext hE0r)).at_ h2 (by omega)
          obtain ⟨v2, hv2⟩ : ∃ v, v = x2.es[0]'k2 := ⟨_, rfl⟩
          have q20 := hcs2 0 k2 0 (by omega)
          have q21 := hcs2 0 k2 1 (by omega)
          have q22 := hcs2 0 k2 2 (by omega)
          have q23 := hcs2 0 k2 3 (by omega)
          have q24 := hcs2 0 k2 4 (by omega)
          have q25 := hcs2 0 k2 5 (by omega)
          have q26 := hcs2 0 k2 6 (by omega)
          simp only [← hv2, entC, List.getElem_cons_zero, List.getElem_cons_succ, Nat.zero_mul, Nat.zero_add, Nat.add_zero] at q20 q21 q22 q23 q24 q25 q26
          have Z20 := laters q20
          have Z21 := laters q21
          have Z22 := laters q22
          have Z23 := laters q23
          have Z24 := laters q24
          have Z25 := laters q25
          have Z26 := laters q26
          have HVN2 := Lib.hid hv2
          clear hcs2 q20 q21 q22 q23 q24 q25 q26 hv2
          have hv1W : EntW w v1 := by rw [HVN1.out]; exact hx.e.good _ (List.getElem_mem k1)
          have hv2W : EntW w v2 := by rw [HVN2.out]; exact hy.e.good _ (List.getElem_mem k2)
          rw [eA1] at U03
          rw [eA2] at U13
          obtain ⟨bq, hbq⟩ : ∃ bq : Bool, bq = decide (v1.p = v2.p) := ⟨_, rfl⟩
          have hbb2 : (bq != bq) = false := by simp
          have C1 : Hid (∀ u : ExtOf wr, Calls Tryd.prog 38 #[.agg #[.string v1.p.id, .string v1.p.src, .string v1.p.tgt, .slice v1.c.A v1.c.m v1.c.c, .slice v1.f.A v1.f.m v1.f.c, .int .i64 v1.p.st, .slice v1.d.A v1.d.m v1.d.c], .agg #[.string v2.p.id, .string v2.p.src, .string v2.p.tgt, .slice v2.c.A v2.c.m v2.c.c, .slice v2.f.A v2.f.m v2.f.c, .int .i64 v2.p.st, .slice v2.d.A v2.d.m v2.d.c]] u.1 fun e w' => e = .returned (.bool bq) ∧ Ext u.1 w') := fun u => by
            have h := peqE_any (hv1W.ext (hE0r.trans u.ext)) (hv2W.ext (hE0r.trans u.ext))
            rw [← hbq, HIDE.out v1, HIDE.out v2] at h
            exact h
          have C2 : Hid (∀ u : ExtOf wr, Calls Tryd.prog 33 #[.agg #[.string v1.p.id, .string v1.p.src, .string v1.p.tgt, .slice v1.c.A v1.c.m v1.c.c, .slice v1.f.A v1.f.m v1.f.c, .int .i64 v1.p.st, .slice v1.d.A v1.d.m v1.d.c], .agg #[.string v2.p.id, .string v2.p.src, .string v2.p.tgt, .slice v2.c.A v2.c.m v2.c.c, .slice v2.f.A v2.f.m v2.f.c, .int .i64 v2.p.st, .slice v2.d.A v2.d.m v2.d.c]] u.1 fun e w' => e = .returned (.bool bq) ∧ Ext u.1 w') := fun u => by
            have h := reqE_any (hv1W.ext (hE0r.trans u.ext)) (hv2W.ext (hE0r.trans u.ext))
            rw [← hbq, HIDE.out v1, HIDE.out v2] at h
            exact h
          have V80 := fun (u : ExtOf wr) => Z10 u.val (((Ext.refl wr)).trans u.ext)
          have V81 := fun (u : ExtOf wr) => Z11 u.val (((Ext.refl wr)).trans u.ext)
          have V82 := fun (u : ExtOf wr) => Z12 u.val (((Ext.refl wr)).trans u.ext)
          have V83 := fun (u : ExtOf wr) => Z13 u.val (((Ext.refl wr)).trans u.ext)
          have V84 := fun (u : ExtOf wr) => Z14 u.val (((Ext.refl wr)).trans u.ext)
          have V85 := fun (u : ExtOf wr) => Z15 u.val (((Ext.refl wr)).trans u.ext)
          have V86 := fun (u : ExtOf wr) => Z16 u.val (((Ext.refl wr)).trans u.ext)
          have V90 := fun (u : ExtOf wr) => Z20 u.val (((Ext.refl wr)).trans u.ext)
          have V91 := fun (u : ExtOf wr) => Z21 u.val (((Ext.refl wr)).trans u.ext)
          have V92 := fun (u : ExtOf wr) => Z22 u.val (((Ext.refl wr)).trans u.ext)
          have V93 := fun (u : ExtOf wr) => Z23 u.val (((Ext.refl wr)).trans u.ext)
          have V94 := fun (u : ExtOf wr) => Z24 u.val (((Ext.refl wr)).trans u.ext)
          have V95 := fun (u : ExtOf wr) => Z25 u.val (((Ext.refl wr)).trans u.ext)
          have V96 := fun (u : ExtOf wr) => Z26 u.val (((Ext.refl wr)).trans u.ext)
          have hp1 : (0 : Int) < (x.e.m : Int) := by omega
          have hp2 : (0 : Int) < (x2.e.m : Int) := by omega
          clear hbq eA1 eA2
          refine wp_region_ext_lit (by kernel_rfl) (by kernel_rfl) ?_
          try dsimp only [List.append]
          repeat (go_big_quiet_step (first | (go_at_call 38; with_reducible exact Calls.quiet_ext (C1.out _)) | (go_at_call 33; with_reducible exact Calls.quiet_ext (C2.out _))))
          refine wpQuiet_nil ?_
          rintro w6 ⟨⟨_, h6⟩, rfl⟩
          try dsimp only
          go_wp2_with fail
          go_meet
          exact ⟨rfl, h6⟩
      case rest =>
        obtain ⟨rfl, hcut⟩ := hcut
        have hE5c := hEr.trans hcut
        have hE0c := hE0r.trans hcut
        clear hcut0 U00 U01 U02 U03 U10 U11 U12 U13
        replace X00 := laters (X00 _ hE5c)
        replace X01 := laters (X01 _ hE5c)
        replace X02 := laters (X02 _ hE5c)
        replace X03 := laters (X03 _ hE5c)
        replace X10 := laters (X10 _ hE5c)
        replace X11 := laters (X11 _ hE5c)
        replace X12 := laters (X12 _ hE5c)
        replace X13 := laters (X13 _ hE5c)
        have HIDS : Hid (∀ W : World, Ext wc W → Calls Tryd.prog 40 #[.agg #[.string x.tag, .slice x.c.A x.c.m x.c.c, .slice x.d.A x.d.m x.d.c, .slice x.e.A x.e.m x.e.c]] W fun e w' => (∃ A m c, e = .returned (.slice A m c) ∧ SlC strF 1 w' A m (x.p.es.map Ep.id) ∧ m ≤ 1000) ∧ Ext W w') := fun W hE => by
          have h9 := ids_any (hx.ext (hE0c.trans hE)) (by omega)
          rw [HIDV.out x] at h9
          exact h9
        have HRID : Hid (∀ W : World, Ext wc W → Calls Tryd.prog 41 #[.agg #[.string x.tag, .slice x.c.A x.c.m x.c.c, .slice x.d.A x.d.m x.d.c, .slice x.e.A x.e.m x.e.c]] W fun e w' => (∃ A m c, e = .returned (.slice A m c) ∧ SlC strF 1 w' A m (x.p.es.map Ep.id) ∧ m ≤ 1000) ∧ Ext W w') := fun W hE => by
          have h9 := rids_any (hx.ext (hE0c.trans hE)) (by omega)
          rw [HIDV.out x] at h9
          exact h9
        have HSAM : Hid (∀ (W : World) A m c A' m' c', SlC strF 1 W A m (x.p.es.map Ep.id) → SlC strF 1 W A' m' (x.p.es.map Ep.id) → m ≤ 1000 → m' ≤ 1000 → Calls Tryd.prog 39 #[.slice A m c, .slice A' m' c'] W fun e w' => e = .returned (.bool true) ∧ Ext W w') := fun W A m c A' m' c' h1 h2 h3 h4 => by
          have h9 := same5 c c' (h1.sls (by omega)) (h2.sls (by omega))
          rw [decide_eq_true (rfl : x.p.es.map Ep.id = x.p.es.map Ep.id)] at h9
          exact h9
        obtain ⟨br, hbr⟩ : ∃ br : Bool, br = eqC x.p x2.p := ⟨_, rfl⟩
        have hbr2 : (br == br) = true := by simp
        have HPE : Hid (∀ W : World, Ext wc W → Calls Tryd.prog 42 #[.agg #[.string x.tag, .slice x.c.A x.c.m x.c.c, .slice x.d.A x.d.m x.d.c, .slice x.e.A x.e.m x.e.c], .agg #[.string x2.tag, .slice x2.c.A x2.c.m x2.c.c, .slice x2.d.A x2.d.m x2.d.c, .slice x2.e.A x2.e.m x2.e.c]] W fun e w' => e = .returned (.bool br) ∧ Ext W w') := fun W hE => by
          have h9 := peqC_any (hx.ext (hE0c.trans hE)) (hy.ext (hE0c.trans hE))
          rw [← hbr, HIDV.out x, HIDV.out x2] at h9
          exact h9
        have HRE : Hid (∀ W : World, Ext wc W → Calls Tryd.prog 29 #[.agg #[.string x.tag, .slice x.c.A x.c.m x.c.c, .slice x.d.A x.d.m x.d.c, .slice x.e.A x.e.m x.e.c], .agg #[.string x2.tag, .slice x2.c.A x2.c.m x2.c.c, .slice x2.d.A x2.d.m x2.d.c, .slice x2.e.A x2.e.m x2.e.c]] W fun e w' => e = .returned (.bool br) ∧ Ext W w') := fun W hE => by
          have h9 := reqC_any (hx.ext (hE0c.trans hE)) (hy.ext (hE0c.trans hE))
          rw [← hbr, HIDV.out x, HIDV.out x2] at h9
          exact h9
        have HPS : Hid (∀ W : World, Ext wc W → Calls Tryd.prog 42 #[.agg #[.string x.tag, .slice x.c.A x.c.m x.c.c, .slice x.d.A x.d.m x.d.c, .slice x.e.A x.e.m x.e.c], .agg #[.string x.tag, .slice x.c.A x.c.m x.c.c, .slice x.d.A x.d.m x.d.c, .slice x.e.A x.e.m x.e.c]] W fun e w' => e = .returned (.bool true) ∧ Ext W w') := fun W hE => by
          have h9 := peqC_any (hx.ext (hE0c.trans hE)) (hx.ext (hE0c.trans hE))
          rw [eqC_iff.2 (rfl : x.p = x.p), HIDV.out x] at h9
          exact h9
        have hEd : Ext wc wc.drew := (Ext.refl _).drew
        clear hbr hcut
        go_wp2
        go_region_held3 (fun w' => w'.cell? ⟨g, 0, none⟩ = some (.string x.tag) ∧ w'.cell? ⟨g, 1, none⟩ = some (.slice x.c.A x.c.m x.c.c) ∧ w'.cell? ⟨g, 2, none⟩ = some (.slice x.d.A x.d.m x.d.c) ∧ w'.cell? ⟨g, 3, none⟩ = some (.slice x.e.A x.e.m x.e.c) ∧ w'.cell? ⟨g1, 0, none⟩ = some (.string x2.tag) ∧ w'.cell? ⟨g1, 1, none⟩ = some (.slice x2.c.A x2.c.m x2.c.c) ∧ w'.cell? ⟨g1, 2, none⟩ = some (.slice x2.d.A x2.d.m x2.d.c) ∧ w'.cell? ⟨g1, 3, none⟩ = some (.slice x2.e.A x2.e.m x2.e.c))
          (exact ⟨X00 _ (by assumption), X01 _ (by assumption), X02 _ (by assumption), X03 _ (by assumption), X10 _ (by assumption), X11 _ (by assumption), X12 _ (by assumption), X13 _ (by assumption)⟩)
          (first
            | (go_at_call 42; (with_reducible refine (HPS.out _ (by assumption)).mono ?_); rintro e wi ⟨rfl, hEi⟩; have hEci : Ext wc wi := Ext.trans (by assumption) hEi)
            | (go_at_call 42; (with_reducible refine (HPE.out _ (by assumption)).mono ?_); rintro e wg ⟨rfl, hEg⟩; have hEcg : Ext wc wg := Ext.trans (by assumption) hEg)
            | (go_at_call 29; (with_reducible refine (HRE.out _ (by assumption)).mono ?_); rintro e wh ⟨rfl, hEh⟩; have hEch : Ext wc wh := Ext.trans (by assumption) hEh)
            | (go_at_call 39; (with_reducible refine (HSAM.out _ _ _ _ _ _ _ (hsa.ext (by first | assumption | exact Ext.refl _)) (hsb.ext (by first | assumption | exact Ext.refl _)) hma hmb).mono ?_); rintro e wf ⟨rfl, hEf⟩; have hEcf : Ext wc wf := Ext.trans (by assumption) hEf)
            | (go_at_call 40; (with_reducible refine (HIDS.out _ (by assumption)).mono ?_); rintro e wa ⟨⟨A1, m1, c1, rfl, hsa, hma⟩, hEa⟩; have hEca : Ext wc wa := Ext.trans (by assumption) hEa)
            | (go_at_call 41; (with_reducible refine (HRID.out _ (by assumption)).mono ?_); rintro e wb ⟨⟨A2, m2, c2, rfl, hsb, hmb⟩, hEb⟩; have hEcb : Ext wc wb := Ext.trans (by assumption) hEb)
            | fail)
        all_goals
          go_wp2
          go_ret
          exact ⟨rfl, hE0c.trans hEci⟩

set_option maxRecDepth 100000 in
theorem liftedCatalogFind (os : Os) (started : os.Started) (H : Type) (enc : TypeId × Value → H) :
    ReturnsInHanded {} Tryd.checked os 9 .any (fun w args => (Rows.catalogFindSpec.pre enc Tryd.prog Tryd.f9 [] false w args ∧ laidMetH Tryd.prog laidL2 w) ∧ sizedMet enc Tryd.prog Tryd.f9 (OpenSpec.ofChange Rows.catalogFindSpec) false w args) (Rows.catalogFindSpec.post enc Tryd.prog Tryd.f9 false true false false) := by
  refine returnsInHanded_of_change_and (C := Tryd.checked) (X := fun w _ => laidMetH Tryd.prog laidL2 w) (fun _ _ _ hh h => h.of_heap hh) ownK started (by kernel_rfl) Tryd.func9
    (ChangeSpec.witness_shaped (enc := enc) (C := Tryd.checked) (os := os) (X := fun w _ => laidMetH Tryd.prog laidL2 w) false (World.laidAll Tryd.prog os laidL2) #[.agg #[.string ⟨#[]⟩, .slice none 0 0, .slice none 0 0, .slice none 0 0], .agg #[.string ⟨#[]⟩, .slice none 0 0, .slice none 0 0, .slice none 0 0], .string ⟨#[]⟩] 8 (World.laidAll_os _ _ _)
      (World.shaped_of_ZipB (by kernel_rfl) (by kernel_rfl)) (by kernel_rfl) (by kernel_rfl) (by kernel_rfl)
      (by rw [MakeChecks.laidMetH_plain _ _ _ (by kernel_rfl)]; exact laidMet_laidAll _ (by kernel_rfl) (by kernel_rfl))) ?_
  intro W base args ds gs before hval0 hW hcnd hsz0 hL _
  have hT := tabs2 hL
  have hval : ∀ (j : Nat) t v, Tryd.f9.params[j]? = some t → args[j]? = some v → Value.okWide Tryd.prog W .any base t v := hval0
  have hW' := hW
  obtain ⟨p, q, hA0, hV, rfl, hfz, hnd⟩ := hW
  have hA : DataW.TrodAll enc Tryd.prog W 0 (fun _ => true) true Tryd.f9.params.toList args.toList ds p := hA0
  have hsz : (DataW.weightsEach Tryd.prog (Tryd.f9.params.toList ++ Rows.catalogFindSpec.plain.varTypes Tryd.prog) (ds ++ gs)).all (· ≤ reachBytes) = true := hsz0
  rw [Tryd.params9] at hA hval hsz
  obtain ⟨v0, vs0, d0, ds0, p0, q0, hargs0, rfl, rfl, h0, r0⟩ := trodAll_cons hA
  obtain ⟨v1, vs1, d1, ds1, p1, q1, hargs1, rfl, rfl, h1, r1⟩ := trodAll_cons r0
  obtain ⟨v2, vs2, d2, ds2, p2, q2, hargs2, rfl, rfl, h2, r2⟩ := trodAll_cons r1
  obtain ⟨rfl, rfl, rfl⟩ := trodAll_nil r2
  obtain rfl : args = #[v0, v1, v2] := by cases args; simp_all
  obtain ⟨rfl, rfl⟩ := trodVars_none hV
  have k0 := h0
  have lt0 : ∀ x ∈ p0, x.block < W.heap.size := by obtain ⟨m, hm⟩ := k0; exact DataW.trod_lt m _ _ _ hm
  have k1 := h1
  have lt1 : ∀ x ∈ p1, x.block < W.heap.size := by obtain ⟨m, hm⟩ := k1; exact DataW.trod_lt m _ _ _ hm
  obtain ⟨x0, rfl, g0⟩ := opn_top_agg opn_cat ((okWide_struct Tryd.underlying28 (hval 0 28 v0 rfl rfl)).imp fun _ hh => hh.1) h0 (WOk.top hsz (j := 0) rfl rfl)
  obtain ⟨x1, rfl, g1⟩ := opn_top_agg opn_cat ((okWide_struct Tryd.underlying28 (hval 1 28 v1 rfl rfl)).imp fun _ hh => hh.1) h1 (WOk.top hsz (j := 1) rfl rfl)
  obtain ⟨s2, rfl, rfl, rfl, ws2⟩ := Go.ChangeMaps.open_string Tryd.underlying9 (hval 2 9 v2 rfl rfl) h2
  clear hA0 hval0
  refine (findlaw_walk g0 g1 s2 hT).mono fun e W' ⟨he, bel⟩ => ?_
  subst he
  exact ⟨_, rfl, _, _, _, [], _, [], hW', trodAll_mk1 (shut_bool Tryd.underlying4 _), (trodAll_cons_mk (Below.trod laidK (by kernel_rfl) (of_decide_eq_true (by kernel_rfl)) k0 bel lt0) (trodAll_cons_mk (Below.trod laidK (by kernel_rfl) (of_decide_eq_true (by kernel_rfl)) k1 bel lt1) (trodAll_cons_mk (Go.ChangeMaps.shut_string Tryd.underlying9 ws2) trodAll_mk0))), rfl, Below.frame bel _, fun h => by cases h⟩
theorem CatalogFind_row : Rows.CatalogFindSaid :=
  OpenClaim.holds_of_wide 9 Tryd.f9 rfl rfl rfl rfl rfl rfl rfl ⟨rfl, rfl, rfl, rfl, rfl⟩ rfl rfl rfl rfl rfl (by kernel_rfl) Tryd.func9 (by kernel_rfl)
    (of_decide_eq_true (by kernel_rfl)) (by unfold Func.isWrapper; rw [if_neg (of_decide_eq_false (by kernel_rfl))]; exact ⟨rfl, rfl⟩)
    (fun os started H enc _ => liftedCatalogFind os started H enc)
theorem CatalogFind_holds : Rows.CatalogFindCardSaid :=
  Claim7.holds_tied_plain_at .later [] Rows.catalogFindCard.laidKinds true Rows.catalogFindCard.stood.harness Rows.catalogFindCard.stood.looks
    CatalogFind_row (fun _ h => by cases h) (by kernel_rfl) (fun _ h => by cases h) catalogFind_row_tie rfl ⟨rfl, rfl⟩ (by kernel_rfl) rfl
    (fun f fn hf hfn => by
      obtain rfl : f = 9 := Option.some.inj ((show Tryd.prog.funcNamed Rows.catalogFindRow.func = some 9 by kernel_rfl).symm.trans hf) |>.symm
      obtain rfl : fn = Tryd.f9 := (Option.some.inj (Tryd.func9.symm.trans hfn)).symm
      exact ⟨by kernel_rfl, fun j t ht => by
        rw [Tryd.params9] at ht
        have hm : t ∈ [28, 9] := by simpa using Array.mem_of_getElem? ht
        have hall : ([28, 9].all fun u => !Tryd.prog.wantsStandIn u) = true := by kernel_rfl
        exact (show Tryd.prog.wantsStandIn t = false by simpa using List.all_eq_true.1 hall t hm)⟩)
    (by kernel_rfl)
#print axioms CatalogFind_holds

end Go.Proofs.YtikbjaopcminaaaDoor
