/- After Put, the entry is found, the catalog is valid, and no other entry has changed; removing a new entry restores the catalog. No condition. -/
import Derived.Test.YtikbjaopcminaaaDoorCatPl
import Derived.ProofKit
import Derived.OpenShut
import Derived.ShutString
import Derived.ChangeOld
import Derived.SizedLaws
namespace Go.Proofs.YtikbjaopcminaaaDoor
open Go.ChangeShapes Go.WideShapes Go.ChangeAt Go.RowKit
set_option maxRecDepth 100000
attribute [local go_sem] ext_refl_t ext_alloc_t ext_drew_t ext_drewN_t ext_alloc2_t ext_alloc3_t ext_alloc4_t ext_alloc5_t ext_alloc6_t ext_alloc7_t ext_alloc8_t ext_alloc1d_t ext_alloc2d_t ext_alloc3d_t ext_alloc4d_t
def laidL2 : List (String × DataW Unit) := Rows.catalogPutsRow.laid
theorem tabs2 {W : World} (h : laidMetH Tryd.prog laidL2 W) : Tabs W := tabs_of_laid h
set_option maxHeartbeats 12800000 in
theorem putslaw_walk {w : World} {x : Cat} {v : Ent} (hx : CatW w x) (hv : EntW w v) (at_ : Int) (hat1 : -9223372036854775808 ≤ at_) (hat2 : at_ ≤ 9223372036854775807) (hT : Tabs w) :
    Calls Tryd.prog 7 #[catV x, entV v, .int .i64 at_] w fun e w' => e = .returned (.bool true) ∧ Ext w w' := by
  have HIDV : Hid (∀ y : Cat, catV y = .agg #[.string y.tag, .slice y.c.A y.c.m y.c.c, .slice y.d.A y.d.m y.d.c, .slice y.e.A y.e.m y.e.c]) := fun _ => rfl
  have HIDE : Hid (∀ z : Ent, entV z = .agg #[.string z.p.id, .string z.p.src, .string z.p.tgt, .slice z.c.A z.c.m z.c.c, .slice z.f.A z.f.m z.f.c, .int .i64 z.p.st, .slice z.d.A z.d.m z.d.c]) := fun _ => rfl
  rw [HIDV.out x, HIDE.out v]
  obtain ⟨W0, hW0⟩ : ∃ W0, W0 = (w.alloc (Obj.cells #[.string x.tag, .slice x.c.A x.c.m x.c.c, .slice x.d.A x.d.m x.d.c, .slice x.e.A x.e.m x.e.c] 28)).alloc (Obj.cells #[.string v.p.id, .string v.p.src, .string v.p.tgt, .slice v.c.A v.c.m v.c.c, .slice v.f.A v.f.m v.f.c, .int .i64 v.p.st, .slice v.d.A v.d.m v.d.c] 30) := ⟨_, rfl⟩
  have hb0 : Blk W0 w.heap.size 28 #[.string x.tag, .slice x.c.A x.c.m x.c.c, .slice x.d.A x.d.m x.d.c, .slice x.e.A x.e.m x.e.c] := by rw [hW0]; exact (Blk.new w _ _).alloc _
  have hb1 : Blk W0 (w.heap.size + 1) 30 #[.string v.p.id, .string v.p.src, .string v.p.tgt, .slice v.c.A v.c.m v.c.c, .slice v.f.A v.f.m v.f.c, .int .i64 v.p.st, .slice v.d.A v.d.m v.d.c] := by rw [hW0]; exact Blk.new1 w _ _ _
  have hE0 : Ext w W0 := by rw [hW0]; exact ((Ext.refl w).alloc _).alloc _
  have hawk := awake_cat (hT.ext hE0)
  obtain ⟨g, hg⟩ : ∃ g, g = w.heap.size := ⟨_, rfl⟩
  obtain ⟨g1, hg1⟩ : ∃ g1, g1 = w.heap.size + 1 := ⟨_, rfl⟩
  go_enter Tryd.func7, Tryd.ntmps7
  go_wp2_with (first
    | (go_at_call 12; refine Hid.out ?_))
  rw [← hW0, ← hg1, ← hg]
  rw [← hg] at hb0
  rw [← hg1] at hb1
  refine Hid.mk_ (hawk.mono ?_)
  rintro e wA ⟨rfl, hE1⟩
  have hE01 := hE0.trans hE1
  have X00 := laters (show W0.cell? ⟨g, 0, none⟩ = some (.string x.tag) from hb0.cell 0)
  have X01 := laters (show W0.cell? ⟨g, 1, none⟩ = some (.slice x.c.A x.c.m x.c.c) from hb0.cell 1)
  have X02 := laters (show W0.cell? ⟨g, 2, none⟩ = some (.slice x.d.A x.d.m x.d.c) from hb0.cell 2)
  have X03 := laters (show W0.cell? ⟨g, 3, none⟩ = some (.slice x.e.A x.e.m x.e.c) from hb0.cell 3)
  have Y0 := laters (show W0.cell? ⟨g1, 0, none⟩ = some (.string v.p.id) from (hb1).cell 0)
  have Y1 := laters (show W0.cell? ⟨g1, 1, none⟩ = some (.string v.p.src) from (hb1).cell 1)
  have Y2 := laters (show W0.cell? ⟨g1, 2, none⟩ = some (.string v.p.tgt) from (hb1).cell 2)
  have Y3 := laters (show W0.cell? ⟨g1, 3, none⟩ = some (.slice v.c.A v.c.m v.c.c) from (hb1).cell 3)
  have Y4 := laters (show W0.cell? ⟨g1, 4, none⟩ = some (.slice v.f.A v.f.m v.f.c) from (hb1).cell 4)
  have Y5 := laters (show W0.cell? ⟨g1, 5, none⟩ = some (.int .i64 v.p.st) from (hb1).cell 5)
  have Y6 := laters (show W0.cell? ⟨g1, 6, none⟩ = some (.slice v.d.A v.d.m v.d.c) from (hb1).cell 6)
  clear hW0 hg hg1 hawk hb1
  have hfc := few_any (hx.ext hE01)
  rw [HIDV.out x] at hfc
  go_wp2_with (first
    | (go_at_call 19; refine Hid.out ?_))
  refine Hid.mk_ ((hfc).mono ?_)
  rintro e w1 ⟨rfl, hE2⟩
  clear hfc
  have hE11 := hE1.trans hE2
  have hE0b := hE01.trans hE2
  cases hf1 : fewC x.p with
  | false =>
    clear hf1
    go_wp2
    go_ret
    exact ⟨rfl, hE0b⟩
  | true =>
  have hxm : x.e.m ≤ 12 := by
    have h1 : x.e.m = x.es.length := hx.e.sl.len
    have h2 : x.p.es.length = x.es.length := List.length_map _
    unfold fewC at hf1
    simp only [Bool.and_eq_true, decide_eq_true_eq] at hf1
    omega
  clear hf1
  have hfe := fewEntry_any (hv.ext hE0b)
  rw [HIDE.out v] at hfe
  go_wp2_with (first
    | (go_at_call 20; refine Hid.out ?_))
  refine Hid.mk_ ((hfe).mono ?_)
  rintro e w2 ⟨rfl, hE2'⟩
  clear hfe
  have hE12 := hE11.trans hE2'
  have hE02 := hE0b.trans hE2'
  cases hf1 : fewE v.p with
  | false =>
    clear hf1
    go_wp2
    go_ret
    exact ⟨rfl, hE02⟩
  | true =>
  clear hf1
  have hput := put_any (hx.ext hE02) (hv.ext hE02) at_ (hT.ext hE02) hat1 hat2
  rw [HIDV.out x, HIDE.out v] at hput
  go_wp2_with (first
    | (go_at_call 30; refine Hid.out ?_))
  refine Hid.mk_ ((hput).mono ?_)
  rintro e w3 ⟨⟨y1, k1, rfl, hR1, hO1⟩, hE3⟩
  have hY1 := hO1.w' hR1.len
  have HR1 := Lib.hid hR1
  have hcode := hR1.code
  have HYL : Hid (y1.e.m = y1.p.es.length) := by show _ = _; rw [hO1.own.len, ← show y1.p.es.length = y1.es.length from List.length_map _]
  clear hR1 hO1 hput
  rw [HIDV.out y1]
  obtain ⟨w4, hw4⟩ : ∃ W : World, W = w3.alloc (Obj.cells #[.string y1.tag, .slice y1.c.A y1.c.m y1.c.c, .slice y1.d.A y1.d.m y1.d.c, .slice y1.e.A y1.e.m y1.e.c] 28) := ⟨_, rfl⟩
  have hb2 : Blk w4 w3.heap.size 28 #[.string y1.tag, .slice y1.c.A y1.c.m y1.c.c, .slice y1.d.A y1.d.m y1.d.c, .slice y1.e.A y1.e.m y1.e.c] := by rw [hw4]; exact Blk.new w3 _ _
  have hEw4 : Ext w3 w4 := by rw [hw4]; exact (Ext.refl _).alloc _
  obtain ⟨g4, hg4⟩ : ∃ k, k = w3.heap.size := ⟨_, rfl⟩
  have hE24 := hE3.trans hEw4
  have hE03 := hE12.trans hE3
  have hE04 := hE12.trans hE24
  rcases hcode with rfl | rfl | rfl | rfl
  · skip
    have hp0 : y1.p = cat0.p := HR1.out.fail (by omega)
    have hq1 := reqC_true (hY1.ext hEw4) (cat0_W w4) hp0
    rw [HIDV.out y1] at hq1
    have HC0 : Hid (catV cat0 = .agg #[.string ⟨#[]⟩, .slice none 0 0, .slice none 0 0, .slice none 0 0]) := rfl
    rw [HC0.out] at hq1
    clear hp0
    go_wp2_with (first
      | (go_at_call 29; refine Hid.out ?_))
    rw [← hw4]
    refine Hid.mk_ (hq1.mono ?_)
    rintro e w5 ⟨rfl, hE5⟩
    clear hw4 hg4
    go_wp2
    go_ret
    exact ⟨rfl, (hE02.trans hE24).trans hE5⟩
  · skip
    have hp0 : y1.p = cat0.p := HR1.out.fail (by omega)
    have hq1 := reqC_true (hY1.ext hEw4) (cat0_W w4) hp0
    rw [HIDV.out y1] at hq1
    have HC0 : Hid (catV cat0 = .agg #[.string ⟨#[]⟩, .slice none 0 0, .slice none 0 0, .slice none 0 0]) := rfl
    rw [HC0.out] at hq1
    clear hp0
    go_wp2_with (first
      | (go_at_call 29; refine Hid.out ?_))
    rw [← hw4]
    refine Hid.mk_ (hq1.mono ?_)
    rintro e w5 ⟨rfl, hE5⟩
    clear hw4 hg4
    go_wp2
    go_ret
    exact ⟨rfl, (hE02.trans hE24).trans hE5⟩
  · skip
    have hp0 : y1.p = cat0.p := HR1.out.fail (by omega)
    have hq1 := reqC_true (hY1.ext hEw4) (cat0_W w4) hp0
    rw [HIDV.out y1] at hq1
    have HC0 : Hid (catV cat0 = .agg #[.string ⟨#[]⟩, .slice none 0 0, .slice none 0 0, .slice none 0 0]) := rfl
    rw [HC0.out] at hq1
    clear hp0
    go_wp2_with (first
      | (go_at_call 29; refine Hid.out ?_))
    rw [← hw4]
    refine Hid.mk_ (hq1.mono ?_)
    rintro e w5 ⟨rfl, hE5⟩
    clear hw4 hg4
    go_wp2
    go_ret
    exact ⟨rfl, (hE02.trans hE24).trans hE5⟩
  obtain ⟨was, i, hok⟩ := HR1.out.ok
  have HOK := Lib.hid hok
  clear hok
  have hEw04 := hE02.trans hE24
  have hf1 := find_any (hY1.ext hEw4) v.p.id
  rw [HIDV.out y1] at hf1
  go_wp2_with (first
    | (go_at_call 32; refine Hid.out ?_))
  rw [← hw4, ← hg4]
  rw [← hg4] at hb2
  refine Hid.mk_ (hf1.mono ?_)
  have X20 := laters (show w4.cell? ⟨g4, 0, none⟩ = some (.string y1.tag) from hb2.cell 0)
  have X21 := laters (show w4.cell? ⟨g4, 1, none⟩ = some (.slice y1.c.A y1.c.m y1.c.c) from hb2.cell 1)
  have X22 := laters (show w4.cell? ⟨g4, 2, none⟩ = some (.slice y1.d.A y1.d.m y1.d.c) from hb2.cell 2)
  have X23 := laters (show w4.cell? ⟨g4, 3, none⟩ = some (.slice y1.e.A y1.e.m y1.e.c) from hb2.cell 3)
  replace X00 := laters (X00 _ hE04)
  replace X01 := laters (X01 _ hE04)
  replace X02 := laters (X02 _ hE04)
  replace X03 := laters (X03 _ hE04)
  replace Y0 := laters (Y0 _ hE04)
  replace Y1 := laters (Y1 _ hE04)
  replace Y2 := laters (Y2 _ hE04)
  replace Y3 := laters (Y3 _ hE04)
  replace Y4 := laters (Y4 _ hE04)
  replace Y5 := laters (Y5 _ hE04)
  replace Y6 := laters (Y6 _ hE04)
  clear hw4 hg4 hf1
  rintro e w5 ⟨⟨z, hz, rfl⟩, hE5⟩
  obtain rfl : z = (i : Int) := hz.uniq HOK.out.find
  have HFV : Hid (FindV (i : Int) = .tuple #[.int .i64 i, .bool true]) := by show FindV _ = _; unfold FindV; rw [if_pos (by omega), decide_eq_true (by omega)]
  rw [HFV.out]
  clear hz
  have him : i < y1.e.m := by rw [HYL.out]; exact HOK.out.lt
  have himi : (i : Int) < (y1.e.m : Int) := by omega
  have hiu : i < y1.es.length := by have h9 := hY1.e.sl.len; omega
  have hf2 := find_any (hx.ext (hEw04.trans hE5)) v.p.id
  rw [HIDV.out x] at hf2
  go_wp2_with (first
    | (go_at_call 32; refine Hid.out ?_))
  refine Hid.mk_ ((hf2).mono ?_)
  rintro e w6 ⟨⟨z, hz, rfl⟩, hE6⟩
  have hE46 := hE5.trans hE6
  have HZ := Lib.hid hz
  clear hf2
  obtain ⟨eb1, eo1, eA1, _, hcs1⟩ := ((hY1.e.sl.ext (hEw4.trans hE46))).at_ him (by omega)
  obtain ⟨v1, hv1⟩ : ∃ v, v = y1.es[i]'hiu := ⟨_, rfl⟩
  have q10 := hcs1 i hiu 0 (by omega)
  have q11 := hcs1 i hiu 1 (by omega)
  have q12 := hcs1 i hiu 2 (by omega)
  have q13 := hcs1 i hiu 3 (by omega)
  have q14 := hcs1 i hiu 4 (by omega)
  have q15 := hcs1 i hiu 5 (by omega)
  have q16 := hcs1 i hiu 6 (by omega)
  simp only [← hv1, entC, List.getElem_cons_zero, List.getElem_cons_succ, Nat.add_zero, ← Nat.add_assoc] at q10 q11 q12 q13 q14 q15 q16
  have Z10 := laters q10
  have Z11 := laters q11
  have Z12 := laters q12
  have Z13 := laters q13
  have Z14 := laters q14
  have Z15 := laters q15
  have Z16 := laters q16
  have HVN1 := Lib.hid hv1
  clear hcs1 q10 q11 q12 q13 q14 q15 q16 hv1
  rw [eA1] at X23
  have EA1 := Lib.hid eA1
  clear eA1
  have hp1 : v1.p = v.p := by
    rw [HVN1.out]
    have h9 := HOK.out.get HOK.out.lt
    rw [← h9]
    exact (List.getElem_map ..).symm
  have HP1 := Lib.hid hp1
  have hv1W : EntW (w4) v1 := by rw [HVN1.out]; exact (hY1.e.good _ (List.getElem_mem hiu)).ext hEw4
  have HFE : Hid (∀ z, FindV z = FindV z) := fun _ => rfl
  have C1 : Hid (∀ u : ExtOf w6, Calls Tryd.prog 21 #[.agg #[.string y1.tag, .slice y1.c.A y1.c.m y1.c.c, .slice y1.d.A y1.d.m y1.d.c, .slice (some ⟨eb1, eo1, none⟩) y1.e.m y1.e.c]] u.1 fun e w' => e = .returned (.bool true) ∧ Ext u.1 w') := fun u => by
    have h := valid_any' (hY1.ext ((hEw4.trans hE46).trans u.ext)) (hT.ext ((hEw04.trans hE46).trans u.ext))
    rw [HOK.out.ha, HIDV.out y1, EA1.out] at h
    exact h
  have C2 : Hid (∀ u : ExtOf w6, Calls Tryd.prog 33 #[.agg #[.string v1.p.id, .string v1.p.src, .string v1.p.tgt, .slice v1.c.A v1.c.m v1.c.c, .slice v1.f.A v1.f.m v1.f.c, .int .i64 v1.p.st, .slice v1.d.A v1.d.m v1.d.c], .agg #[.string v.p.id, .string v.p.src, .string v.p.tgt, .slice v.c.A v.c.m v.c.c, .slice v.f.A v.f.m v.f.c, .int .i64 v.p.st, .slice v.d.A v.d.m v.d.c]] u.1 fun e w' => e = .returned (.bool true) ∧ Ext u.1 w') := fun u => by
    have h := reqE_any (hv1W.ext (hE46.trans u.ext)) (hv.ext ((hEw04.trans hE46).trans u.ext))
    rw [decide_eq_true HP1.out, HIDE.out v1, HIDE.out v] at h
    exact h
  have C3 : Hid (∀ u : ExtOf w6, Calls Tryd.prog 34 #[.agg #[.string y1.tag, .slice y1.c.A y1.c.m y1.c.c, .slice y1.d.A y1.d.m y1.d.c, .slice (some ⟨eb1, eo1, none⟩) y1.e.m y1.e.c], .agg #[.string x.tag, .slice x.c.A x.c.m x.c.c, .slice x.d.A x.d.m x.d.c, .slice x.e.A x.e.m x.e.c]] u.1 fun e w' => e = .returned (.bool true) ∧ Ext u.1 w') := fun u => by
    have h := reqH_any (hY1.ext ((hEw4.trans hE46).trans u.ext)) (hx.ext ((hEw04.trans hE46).trans u.ext))
    rw [HOK.out.head, HIDV.out y1, HIDV.out x, EA1.out] at h
    exact h
  clear hp1 HFE
  cases was with
  | true =>
    obtain ⟨hfk, hkl, hset⟩ := HOK.out.was_ rfl
    obtain rfl : z = (i : Int) := hz.uniq hfk
    clear hz
    rw [HFV.out]
    have hkl2 : i < x.es.length := by rwa [show x.p.es.length = x.es.length from List.length_map _] at hkl
    have hkm2 : i < x.e.m := by have h9 : x.e.m = x.es.length := hx.e.sl.len; omega
    have hkmi : (i : Int) < (x.e.m : Int) := by omega
    have HKL := Lib.hid hkl
    clear hfk hset hkl
    obtain ⟨eb2, eo2, eA2, _, hcs2⟩ := ((hx.e.sl.ext hEw04)).at_ hkm2 (by omega)
    obtain ⟨v2, hv2⟩ : ∃ v, v = x.es[i]'hkl2 := ⟨_, rfl⟩
    have q20 := hcs2 i hkl2 0 (by omega)
    have q21 := hcs2 i hkl2 1 (by omega)
    have q22 := hcs2 i hkl2 2 (by omega)
    have q23 := hcs2 i hkl2 3 (by omega)
    have q24 := hcs2 i hkl2 4 (by omega)
    have q25 := hcs2 i hkl2 5 (by omega)
    have q26 := hcs2 i hkl2 6 (by omega)
    simp only [← hv2, entC, List.getElem_cons_zero, List.getElem_cons_succ, Nat.add_zero, ← Nat.add_assoc] at q20 q21 q22 q23 q24 q25 q26
    have Z20 := laters q20
    have Z21 := laters q21
    have Z22 := laters q22
    have Z23 := laters q23
    have Z24 := laters q24
    have Z25 := laters q25
    have Z26 := laters q26
    have HVN2 := Lib.hid hv2
    clear hcs2 q20 q21 q22 q23 q24 q25 q26 hv2
    have EA2 := Lib.hid eA2
    clear eA2
    have hv2W : EntW w v2 := by rw [HVN2.out]; exact hx.e.good _ (List.getElem_mem hkl2)
    have HP2 : Hid (v2.p = x.p.es[i]'HKL.out) := by show _ = _; rw [HVN2.out]; exact (List.getElem_map ..).symm
    have hd4 : decide ((x.e.m : Int) ≤ (i : Int)) = false := decide_eq_false (by omega)
    have hd5 : decide (x.e.m ≤ i) = false := decide_eq_false (by omega)
    have U20 := fun (u : ExtOf w6) => X20 u.val ((hE46).trans u.ext)
    have U21 := fun (u : ExtOf w6) => X21 u.val ((hE46).trans u.ext)
    have U22 := fun (u : ExtOf w6) => X22 u.val ((hE46).trans u.ext)
    have U23 := fun (u : ExtOf w6) => X23 u.val ((hE46).trans u.ext)
    have U00 := fun (u : ExtOf w6) => X00 u.val ((hE46).trans u.ext)
    have U01 := fun (u : ExtOf w6) => X01 u.val ((hE46).trans u.ext)
    have U02 := fun (u : ExtOf w6) => X02 u.val ((hE46).trans u.ext)
    have U03 := fun (u : ExtOf w6) => X03 u.val ((hE46).trans u.ext)
    have V80 := fun (u : ExtOf w6) => Y0 u.val ((hE46).trans u.ext)
    have V81 := fun (u : ExtOf w6) => Y1 u.val ((hE46).trans u.ext)
    have V82 := fun (u : ExtOf w6) => Y2 u.val ((hE46).trans u.ext)
    have V83 := fun (u : ExtOf w6) => Y3 u.val ((hE46).trans u.ext)
    have V84 := fun (u : ExtOf w6) => Y4 u.val ((hE46).trans u.ext)
    have V85 := fun (u : ExtOf w6) => Y5 u.val ((hE46).trans u.ext)
    have V86 := fun (u : ExtOf w6) => Y6 u.val ((hE46).trans u.ext)
    have V90 := fun (u : ExtOf w6) => Z10 u.val (((Ext.refl w6)).trans u.ext)
    have V91 := fun (u : ExtOf w6) => Z11 u.val (((Ext.refl w6)).trans u.ext)
    have V92 := fun (u : ExtOf w6) => Z12 u.val (((Ext.refl w6)).trans u.ext)
    have V93 := fun (u : ExtOf w6) => Z13 u.val (((Ext.refl w6)).trans u.ext)
    have V94 := fun (u : ExtOf w6) => Z14 u.val (((Ext.refl w6)).trans u.ext)
    have V95 := fun (u : ExtOf w6) => Z15 u.val (((Ext.refl w6)).trans u.ext)
    have V96 := fun (u : ExtOf w6) => Z16 u.val (((Ext.refl w6)).trans u.ext)
    have hd1 : decide ((i : Int) < 0) = false := decide_eq_false (by omega)
    have hd2 : decide ((y1.e.m : Int) ≤ (i : Int)) = false := decide_eq_false (by omega)
    have hd3 : decide (y1.e.m ≤ i) = false := decide_eq_false (by omega)
    go_wp2
    refine wp_region_ext_lit (by kernel_rfl) (by kernel_rfl) ?_
    try dsimp only [List.append]
    repeat (go_big_quiet_step (first | (go_at_call 21; with_reducible exact Calls.quiet_ext (C1.out _)) | (go_at_call 33; with_reducible exact Calls.quiet_ext (C2.out _)) | (go_at_call 34; with_reducible exact Calls.quiet_ext (C3.out _))))
    refine wpQuiet_nil ?_
    rintro w7 ⟨⟨_, h7⟩, rfl⟩
    try dsimp only
    clear U20 U21 U22 U23 U00 U01 U02 U03 V80 V81 V82 V83 V84 V85 V86 V90 V91 V92 V93 V94 V95 V96 hd1 hd2 hd3
    have hE47 := hE46.trans h7
    clear hd4 hd5
    rw [EA2.out] at X03
    have HPUT : Hid (∀ W : World, Ext w7 W → Calls Tryd.prog 30 #[.agg #[.string y1.tag, .slice y1.c.A y1.c.m y1.c.c, .slice y1.d.A y1.d.m y1.d.c, .slice (some ⟨eb1, eo1, none⟩) y1.e.m y1.e.c], .agg #[.string v2.p.id, .string v2.p.src, .string v2.p.tgt, .slice v2.c.A v2.c.m v2.c.c, .slice v2.f.A v2.f.m v2.f.c, .int .i64 v2.p.st, .slice v2.d.A v2.d.m v2.d.c], .int .i64 0] W fun e w' => (∃ (y : Cat) (code : Int), e = .returned (.tuple #[catV y, .int .i64 code]) ∧ PutR y1.p v2.p 0 y.p code ∧ CatO w' W.heap.size y) ∧ Ext W w') := fun W hE => by
      have h9 := put_any (hY1.ext ((hEw4.trans hE47).trans hE)) (hv2W.ext ((hEw04.trans hE47).trans hE)) 0 (hT.ext ((hEw04.trans hE47).trans hE)) (by omega) (by omega)
      rw [HIDV.out y1, EA1.out, HIDE.out v2] at h9
      exact h9
    have hEd7 : Ext w7 w7.drew := (Ext.refl _).drew
    go_wp2
    have hgl : g ≠ w7.heap.size := by have h1 := hb0.lt; have h2 := (hE04.trans hE47).size_le; omega
    have hgl2 : w7.heap.size ≠ g := fun h => hgl h.symm
    go_cut [13, 14] from 119 (fun s13 s14 wx => ∃ (gb : Nat) (y2 : Cat), s13 = .pointer (some ⟨gb, 0, none⟩) ∧ s14 = .int .i64 0 ∧ Ext w7 wx ∧ CatW wx y2 ∧ Hid (y2.p = x.p) ∧ Blk wx gb 28 #[.string y2.tag, .slice y2.c.A y2.c.m y2.c.c, .slice y2.d.A y2.d.m y2.d.c, .slice y2.e.A y2.e.m y2.e.c])
    case first =>
      first
      | (go_region_law (first
          | (go_simp; go_at_call 30; refine (HPUT.out _ hEd7).mono ?_; rintro e w8 ⟨⟨y2, k2, rfl, hR2, hO2⟩, hE8⟩; have HR2 := Lib.hid hR2; have HO2 := Lib.hid hO2; have HBK : Hid (y2.p = x.p ∧ k2 = 0) := HOK.out.back HKL.out (by have h9 := HR2.out; rw [HP2.out] at h9; exact h9); obtain ⟨hpp, rfl⟩ := HBK.out; have HPP := Lib.hid hpp; clear hR2 hO2 hpp; rw [HIDV.out y2])
          | (go_simp; go_at_call 30; refine (HPUT.out _ (hEd7.alloc _)).mono ?_; rintro e w8 ⟨⟨y2, k2, rfl, hR2, hO2⟩, hE8⟩; have HR2 := Lib.hid hR2; have HO2 := Lib.hid hO2; have HBK : Hid (y2.p = x.p ∧ k2 = 0) := HOK.out.back HKL.out (by have h9 := HR2.out; rw [HP2.out] at h9; exact h9); obtain ⟨hpp, rfl⟩ := HBK.out; have HPP := Lib.hid hpp; clear hR2 hO2 hpp; rw [HIDV.out y2]; have hr1 : Blk w8 w7.heap.size 28 #[.string ⟨#[]⟩, .slice none 0 0, .slice none 0 0, .slice none 0 0] := (Blk.new w7.drew _ _).below hE8 (by simp); have s0 := hr1.cell 0; have s1 := hr1.cell 1; have s2 := hr1.cell 2; have s3 := hr1.cell 3; have t0 := hr1.frozen 0; have t1 := hr1.frozen 1; have t2 := hr1.frozen 2; have t3 := hr1.frozen 3; have HBR := Lib.hid hr1; clear hr1)
          | fail))
      | fail
      all_goals
        go_wp2_with fail
        go_meet
        first
        | exact ⟨w8.heap.size, y2, rfl, rfl, (hEd7.trans hE8).alloc _, (HO2.out.w' HR2.out.len).ext ((Ext.refl w8).alloc _), HPP, Blk.new w8 _ _⟩
        | exact ⟨w7.heap.size, y2, rfl, rfl, by (iterate 4 refine Ext.set_ ?_ (Nat.le_refl _) _); exact (hEd7.alloc _).trans hE8, by
            refine CatO.w' (base := w7.heap.size + 1) ?_ HR2.out.len
            iterate 4 refine CatO.set_ ?_ (CatO.lt_all HO2.out (by simp)) _
            have h9 := HO2.out
            simpa using h9, HPP, (((HBR.out.set_ 0 _).set_ 1 _).set_ 2 _).set_ 3 _⟩
    case rest =>
      obtain ⟨gb, y2, rfl, rfl, hE7c, hY2, HPP, hbb⟩ := hcut
      have Q0 := laters (show wc.cell? ⟨gb, 0, none⟩ = some (.string y2.tag) from hbb.cell 0)
      have Q1 := laters (show wc.cell? ⟨gb, 1, none⟩ = some (.slice y2.c.A y2.c.m y2.c.c) from hbb.cell 1)
      have Q2 := laters (show wc.cell? ⟨gb, 2, none⟩ = some (.slice y2.d.A y2.d.m y2.d.c) from hbb.cell 2)
      have Q3 := laters (show wc.cell? ⟨gb, 3, none⟩ = some (.slice y2.e.A y2.e.m y2.e.c) from hbb.cell 3)
      have hE4c := hE47.trans hE7c
      have hq1 := reqC_true hY2 (hx.ext (hEw04.trans hE4c)) HPP.out
      rw [HIDV.out y2, HIDV.out x, EA2.out] at hq1
      clear hbb
      go_wp2_with (first
        | (go_at_call 29; refine Hid.out ?_))
      refine Hid.mk_ ((hq1).mono ?_)
      rintro e wa ⟨rfl, hEa⟩
      go_wp2
      go_ret
      exact ⟨rfl, (hEw04.trans hE4c).trans hEa⟩
  | false =>
    obtain ⟨hfk, hat, hile, hl1000, hins⟩ := HOK.out.new_ rfl
    obtain rfl : z = -1 := hz.uniq hfk
    clear hz
    have HFN : Hid (FindV (-1) = .tuple #[.int .i64 0, .bool false]) := rfl
    rw [HFN.out]
    subst hat
    clear hfk hile hl1000 hins
    have U20 := fun (u : ExtOf w6) => X20 u.val ((hE46).trans u.ext)
    have U21 := fun (u : ExtOf w6) => X21 u.val ((hE46).trans u.ext)
    have U22 := fun (u : ExtOf w6) => X22 u.val ((hE46).trans u.ext)
    have U23 := fun (u : ExtOf w6) => X23 u.val ((hE46).trans u.ext)
    have U00 := fun (u : ExtOf w6) => X00 u.val ((hE46).trans u.ext)
    have U01 := fun (u : ExtOf w6) => X01 u.val ((hE46).trans u.ext)
    have U02 := fun (u : ExtOf w6) => X02 u.val ((hE46).trans u.ext)
    have U03 := fun (u : ExtOf w6) => X03 u.val ((hE46).trans u.ext)
    have V80 := fun (u : ExtOf w6) => Y0 u.val ((hE46).trans u.ext)
    have V81 := fun (u : ExtOf w6) => Y1 u.val ((hE46).trans u.ext)
    have V82 := fun (u : ExtOf w6) => Y2 u.val ((hE46).trans u.ext)
    have V83 := fun (u : ExtOf w6) => Y3 u.val ((hE46).trans u.ext)
    have V84 := fun (u : ExtOf w6) => Y4 u.val ((hE46).trans u.ext)
    have V85 := fun (u : ExtOf w6) => Y5 u.val ((hE46).trans u.ext)
    have V86 := fun (u : ExtOf w6) => Y6 u.val ((hE46).trans u.ext)
    have V90 := fun (u : ExtOf w6) => Z10 u.val (((Ext.refl w6)).trans u.ext)
    have V91 := fun (u : ExtOf w6) => Z11 u.val (((Ext.refl w6)).trans u.ext)
    have V92 := fun (u : ExtOf w6) => Z12 u.val (((Ext.refl w6)).trans u.ext)
    have V93 := fun (u : ExtOf w6) => Z13 u.val (((Ext.refl w6)).trans u.ext)
    have V94 := fun (u : ExtOf w6) => Z14 u.val (((Ext.refl w6)).trans u.ext)
    have V95 := fun (u : ExtOf w6) => Z15 u.val (((Ext.refl w6)).trans u.ext)
    have V96 := fun (u : ExtOf w6) => Z16 u.val (((Ext.refl w6)).trans u.ext)
    have hd1 : decide ((i : Int) < 0) = false := decide_eq_false (by omega)
    have hd2 : decide ((y1.e.m : Int) ≤ (i : Int)) = false := decide_eq_false (by omega)
    have hd3 : decide (y1.e.m ≤ i) = false := decide_eq_false (by omega)
    go_wp2
    refine wp_region_ext_lit (by kernel_rfl) (by kernel_rfl) ?_
    try dsimp only [List.append]
    repeat (go_big_quiet_step (first | (go_at_call 21; with_reducible exact Calls.quiet_ext (C1.out _)) | (go_at_call 33; with_reducible exact Calls.quiet_ext (C2.out _)) | (go_at_call 34; with_reducible exact Calls.quiet_ext (C3.out _))))
    refine wpQuiet_nil ?_
    rintro w7 ⟨⟨_, h7⟩, rfl⟩
    try dsimp only
    clear U20 U21 U22 U23 U00 U01 U02 U03 V80 V81 V82 V83 V84 V85 V86 V90 V91 V92 V93 V94 V95 V96 hd1 hd2 hd3
    have hE47 := hE46.trans h7
    have hrem := remove_any (hY1.ext (hEw4.trans hE47)) v.p.id (hT.ext (hEw04.trans hE47))
    rw [HIDV.out y1, EA1.out] at hrem
    go_wp2_with (first
      | (go_at_call 25; refine Hid.out ?_))
    refine Hid.mk_ ((hrem).mono ?_)
    rintro e w8 ⟨⟨y2, k2, rfl, hR2, hO2⟩, hE8⟩
    have hY2 := hO2.w' hR2.len
    have HR2 := Lib.hid hR2
    clear hR2 hO2 hrem
    rw [HIDV.out y2]
    obtain ⟨w9, hw9⟩ : ∃ W : World, W = w8.alloc (Obj.cells #[.string y2.tag, .slice y2.c.A y2.c.m y2.c.c, .slice y2.d.A y2.d.m y2.d.c, .slice y2.e.A y2.e.m y2.e.c] 28) := ⟨_, rfl⟩
    have hb3 : Blk w9 w8.heap.size 28 #[.string y2.tag, .slice y2.c.A y2.c.m y2.c.c, .slice y2.d.A y2.d.m y2.d.c, .slice y2.e.A y2.e.m y2.e.c] := by rw [hw9]; exact Blk.new w8 _ _
    have hEw9 : Ext w8 w9 := by rw [hw9]; exact (Ext.refl _).alloc _
    obtain ⟨g9, hg9⟩ : ∃ k, k = w8.heap.size := ⟨_, rfl⟩
    have hE48 := hE47.trans hE8
    have hE49 := hE47.trans (hE8.trans hEw9)
    have HBK : Hid (y2.p = x.p ∧ k2 = 0) := HOK.out.undo HR2.out
    clear hg9
    obtain ⟨hpp, rfl⟩ := HBK.out
    have hq1 := reqC_true (hY2.ext hEw9) (hx.ext (hEw04.trans hE49)) hpp
    rw [HIDV.out y2, HIDV.out x] at hq1
    clear hpp
    go_wp2_with (first
      | (go_at_call 29; refine Hid.out ?_))
    rw [← hw9]
    refine Hid.mk_ (hq1.mono ?_)
    rintro e wa ⟨rfl, hEa⟩
    clear hw9
    go_wp2
    go_ret
    exact ⟨rfl, (hEw04.trans hE49).trans hEa⟩

set_option maxRecDepth 100000 in
theorem liftedCatalogPuts (os : Os) (started : os.Started) (H : Type) (enc : TypeId × Value → H) :
    ReturnsInHanded {} Tryd.checked os 7 .any (fun w args => (Rows.catalogPutsSpec.pre enc Tryd.prog Tryd.f7 [] false w args ∧ laidMetH Tryd.prog laidL2 w) ∧ sizedMet enc Tryd.prog Tryd.f7 (OpenSpec.ofChange Rows.catalogPutsSpec) false w args) (Rows.catalogPutsSpec.post enc Tryd.prog Tryd.f7 false true false false) := by
  refine returnsInHanded_of_change_and (C := Tryd.checked) (X := fun w _ => laidMetH Tryd.prog laidL2 w) (fun _ _ _ hh h => h.of_heap hh) ownK started (by kernel_rfl) Tryd.func7
    (ChangeSpec.witness_shaped (enc := enc) (C := Tryd.checked) (os := os) (X := fun w _ => laidMetH Tryd.prog laidL2 w) false (World.laidAll Tryd.prog os laidL2) #[.agg #[.string ⟨#[]⟩, .slice none 0 0, .slice none 0 0, .slice none 0 0], .agg #[.string ⟨#[]⟩, .string ⟨#[]⟩, .string ⟨#[]⟩, .slice none 0 0, .slice none 0 0, .int .i64 0, .slice none 0 0], .int .i64 0] 8 (World.laidAll_os _ _ _)
      (World.shaped_of_ZipB (by kernel_rfl) (by kernel_rfl)) (by kernel_rfl) (by kernel_rfl) (by kernel_rfl)
      (by rw [MakeChecks.laidMetH_plain _ _ _ (by kernel_rfl)]; exact laidMet_laidAll _ (by kernel_rfl) (by kernel_rfl))) ?_
  intro W base args ds gs before hval0 hW hcnd hsz0 hL _
  have hT := tabs2 hL
  have hval : ∀ (j : Nat) t v, Tryd.f7.params[j]? = some t → args[j]? = some v → Value.okWide Tryd.prog W .any base t v := hval0
  have hW' := hW
  obtain ⟨p, q, hA0, hV, rfl, hfz, hnd⟩ := hW
  have hA : DataW.TrodAll enc Tryd.prog W 0 (fun _ => true) true Tryd.f7.params.toList args.toList ds p := hA0
  have hsz : (DataW.weightsEach Tryd.prog (Tryd.f7.params.toList ++ Rows.catalogPutsSpec.plain.varTypes Tryd.prog) (ds ++ gs)).all (· ≤ reachBytes) = true := hsz0
  rw [Tryd.params7] at hA hval hsz
  obtain ⟨v0, vs0, d0, ds0, p0, q0, hargs0, rfl, rfl, h0, r0⟩ := trodAll_cons hA
  obtain ⟨v1, vs1, d1, ds1, p1, q1, hargs1, rfl, rfl, h1, r1⟩ := trodAll_cons r0
  obtain ⟨v2, vs2, d2, ds2, p2, q2, hargs2, rfl, rfl, h2, r2⟩ := trodAll_cons r1
  obtain ⟨rfl, rfl, rfl⟩ := trodAll_nil r2
  obtain rfl : args = #[v0, v1, v2] := by cases args; simp_all
  obtain ⟨rfl, rfl⟩ := trodVars_none hV
  have k0 := h0
  have lt0 : ∀ x ∈ p0, x.block < W.heap.size := by obtain ⟨m, hm⟩ := k0; exact DataW.trod_lt m _ _ _ hm
  have k1 := h1
  have lt1 : ∀ x ∈ p1, x.block < W.heap.size := by obtain ⟨m, hm⟩ := k1; exact DataW.trod_lt m _ _ _ hm
  obtain ⟨x0, rfl, g0⟩ := opn_top_agg opn_cat ((okWide_struct Tryd.underlying28 (hval 0 28 v0 rfl rfl)).imp fun _ hh => hh.1) h0 (WOk.top hsz (j := 0) rfl rfl)
  obtain ⟨x1, rfl, g1⟩ := opn_top_agg opn_entry ((okWide_struct Tryd.underlying30 (hval 1 30 v1 rfl rfl)).imp fun _ hh => hh.1) h1 (WOk.top hsz (j := 1) rfl rfl)
  obtain ⟨a2, rfl, rfl, rfl, w2⟩ := open_int Tryd.underlying3 (hval 2 3 v2 rfl rfl) h2
  clear hA0 hval0
  have hb2 := bounds_i64 w2
  refine (putslaw_walk g0 g1 a2 hb2.1 hb2.2 hT).mono fun e W' ⟨he, bel⟩ => ?_
  subst he
  exact ⟨_, rfl, _, _, _, [], _, [], hW', trodAll_mk1 (shut_bool Tryd.underlying4 _), (trodAll_cons_mk (Below.trod laidK (by kernel_rfl) (of_decide_eq_true (by kernel_rfl)) k0 bel lt0) (trodAll_cons_mk (Below.trod laidK (by kernel_rfl) (of_decide_eq_true (by kernel_rfl)) k1 bel lt1) (trodAll_cons_mk (shut_int Tryd.underlying3 w2) trodAll_mk0))), rfl, Below.frame bel _, fun h => by cases h⟩
theorem CatalogPuts_row : Rows.CatalogPutsSaid :=
  OpenClaim.holds_of_wide 7 Tryd.f7 rfl rfl rfl rfl rfl rfl rfl ⟨rfl, rfl, rfl, rfl, rfl⟩ rfl rfl rfl rfl rfl (by kernel_rfl) Tryd.func7 (by kernel_rfl)
    (of_decide_eq_true (by kernel_rfl)) (by unfold Func.isWrapper; rw [if_neg (of_decide_eq_false (by kernel_rfl))]; exact ⟨rfl, rfl⟩)
    (fun os started H enc _ => liftedCatalogPuts os started H enc)
theorem CatalogPuts_holds : Rows.CatalogPutsCardSaid :=
  Claim7.holds_tied_plain_at .later [] Rows.catalogPutsCard.laidKinds true Rows.catalogPutsCard.stood.harness Rows.catalogPutsCard.stood.looks
    CatalogPuts_row (fun _ h => by cases h) (by kernel_rfl) (fun _ h => by cases h) catalogPuts_row_tie rfl ⟨rfl, rfl⟩ (by kernel_rfl) rfl
    (fun f fn hf hfn => by
      obtain rfl : f = 7 := Option.some.inj ((show Tryd.prog.funcNamed Rows.catalogPutsRow.func = some 7 by kernel_rfl).symm.trans hf) |>.symm
      obtain rfl : fn = Tryd.f7 := (Option.some.inj (Tryd.func7.symm.trans hfn)).symm
      exact ⟨by kernel_rfl, fun j t ht => by
        rw [Tryd.params7] at ht
        have hm : t ∈ [28, 30, 3] := by simpa using Array.mem_of_getElem? ht
        have hall : ([28, 30, 3].all fun u => !Tryd.prog.wantsStandIn u) = true := by kernel_rfl
        exact (show Tryd.prog.wantsStandIn t = false by simpa using List.all_eq_true.1 hall t hm)⟩)
    (by kernel_rfl)
#print axioms CatalogPuts_holds

end Go.Proofs.YtikbjaopcminaaaDoor
