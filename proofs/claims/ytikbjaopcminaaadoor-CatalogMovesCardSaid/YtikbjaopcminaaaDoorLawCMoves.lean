/- An entry that is removed is not found, and putting it back at its index restores the catalog; moving an entry back does, too, and a moved entry has its new index. No condition. -/
import Derived.Test.YtikbjaopcminaaaDoorCatPm
import Derived.ProofKit
import Derived.OpenShut
import Derived.ShutString
import Derived.ChangeOld
import Derived.SizedLaws
namespace Go.Proofs.YtikbjaopcminaaaDoor
open Go.ChangeShapes Go.WideShapes Go.ChangeAt Go.RowKit
set_option maxRecDepth 100000
attribute [local go_sem] ext_refl_t ext_alloc_t ext_drew_t ext_drewN_t ext_alloc2_t ext_alloc3_t ext_alloc4_t ext_alloc5_t ext_alloc6_t ext_alloc7_t ext_alloc8_t ext_alloc1d_t ext_alloc2d_t ext_alloc3d_t ext_alloc4d_t
def laidL2 : List (String × DataW Unit) := Rows.catalogMovesRow.laid
theorem tabs2 {W : World} (h : laidMetH Tryd.prog laidL2 W) : Tabs W := tabs_of_laid h
set_option maxHeartbeats 12800000 in
theorem moveslaw_walk {w : World} {x : Cat} (hx : CatW w x) (k : Nat) (hk256 : k < 256) (at_ : Int) (hat1 : -9223372036854775808 ≤ at_) (hat2 : at_ ≤ 9223372036854775807) (hT : Tabs w) :
    Calls Tryd.prog 8 #[catV x, .int .u8 k, .int .i64 at_] w fun e w' => e = .returned (.bool true) ∧ Ext w w' := by
  have HIDV : Hid (∀ y : Cat, catV y = .agg #[.string y.tag, .slice y.c.A y.c.m y.c.c, .slice y.d.A y.d.m y.d.c, .slice y.e.A y.e.m y.e.c]) := fun _ => rfl
  have HIDE : Hid (∀ z : Ent, entV z = .agg #[.string z.p.id, .string z.p.src, .string z.p.tgt, .slice z.c.A z.c.m z.c.c, .slice z.f.A z.f.m z.f.c, .int .i64 z.p.st, .slice z.d.A z.d.m z.d.c]) := fun _ => rfl
  rw [HIDV.out x]
  obtain ⟨W0, hW0⟩ : ∃ W0, W0 = w.alloc (Obj.cells #[.string x.tag, .slice x.c.A x.c.m x.c.c, .slice x.d.A x.d.m x.d.c, .slice x.e.A x.e.m x.e.c] 28) := ⟨_, rfl⟩
  have hb0 : Blk W0 w.heap.size 28 #[.string x.tag, .slice x.c.A x.c.m x.c.c, .slice x.d.A x.d.m x.d.c, .slice x.e.A x.e.m x.e.c] := by rw [hW0]; exact Blk.new w _ _
  have hE0 : Ext w W0 := by rw [hW0]; exact (Ext.refl w).alloc _
  have hawk := awake_cat (hT.ext hE0)
  obtain ⟨g, hg⟩ : ∃ g, g = w.heap.size := ⟨_, rfl⟩
  go_enter Tryd.func8, Tryd.ntmps8
  go_wp2_with (first
    | (go_at_call 12; refine Hid.out ?_))
  rw [← hW0, ← hg]
  rw [← hg] at hb0
  refine Hid.mk_ (hawk.mono ?_)
  rintro e w1 ⟨rfl, hE1⟩
  have hE01 := hE0.trans hE1
  have X00 := laters (show W0.cell? ⟨g, 0, none⟩ = some (.string x.tag) from hb0.cell 0)
  have X01 := laters (show W0.cell? ⟨g, 1, none⟩ = some (.slice x.c.A x.c.m x.c.c) from hb0.cell 1)
  have X02 := laters (show W0.cell? ⟨g, 2, none⟩ = some (.slice x.d.A x.d.m x.d.c) from hb0.cell 2)
  have X03 := laters (show W0.cell? ⟨g, 3, none⟩ = some (.slice x.e.A x.e.m x.e.c) from hb0.cell 3)
  clear hW0 hg hawk
  have hfc := few_any (hx.ext hE01)
  rw [HIDV.out x] at hfc
  go_wp2_with (first
    | (go_at_call 19; refine Hid.out ?_))
  refine Hid.mk_ ((hfc).mono ?_)
  rintro e w2 ⟨rfl, hE2⟩
  clear hfc
  have hE12 := hE1.trans hE2
  have hE02 := hE01.trans hE2
  cases hf1 : fewC x.p with
  | false =>
    clear hf1
    go_wp2
    go_ret
    exact ⟨rfl, hE02⟩
  | true =>
  have hxm : x.e.m ≤ 12 := by
    have h1 : x.e.m = x.es.length := hx.e.sl.len
    have h2 : x.p.es.length = x.es.length := List.length_map _
    unfold fewC at hf1
    simp only [Bool.and_eq_true, decide_eq_true_eq] at hf1
    omega
  clear hf1
  have hfv := rvalid_any (hx.ext hE02)
  rw [HIDV.out x] at hfv
  go_wp2_with (first
    | (go_at_call 22; refine Hid.out ?_))
  refine Hid.mk_ ((hfv).mono ?_)
  rintro e w3 ⟨rfl, hE3⟩
  clear hfv
  have hE13 := hE12.trans hE3
  have hE03 := hE02.trans hE3
  cases hf1 : validC x.p with
  | false =>
    clear hf1
    go_wp2
    go_ret
    exact ⟨rfl, hE03⟩
  | true =>
  have HV := Lib.hid hf1
  clear hf1
  by_cases hz : x.e.m = 0
  · have hz1 : ((x.e.m : Int) == 0) = true := by rw [beq_iff_eq]; omega
    clear hz
    go_wp2
    go_ret
    exact ⟨rfl, hE03⟩
  have hz1 : ((x.e.m : Int) == 0) = false := by rw [beq_eq_false_iff_ne]; omega
  have hpos : 0 < x.e.m := by omega
  obtain ⟨i, hi⟩ : ∃ i, i = k % x.e.m := ⟨_, rfl⟩
  have him : i < x.e.m := by rw [hi]; exact Nat.mod_lt _ hpos
  have HI := Lib.hid hi
  have hmi : (k : Int) % (x.e.m : Int) = (i : Int) := by rw [hi]; exact (Int.natCast_emod _ _).symm
  clear hi
  have hXL : x.e.m = x.es.length := hx.e.sl.len
  have hil : i < x.es.length := by omega
  have HKL : Hid (i < x.p.es.length) := by show _ < _; rw [show x.p.es.length = x.es.length from List.length_map _]; exact hil
  have HXL : Hid (x.e.m = x.p.es.length) := by show _ = _; rw [show x.p.es.length = x.es.length from List.length_map _]; exact hXL
  clear hXL
  obtain ⟨eb1, eo1, eA1, _, hcs1⟩ := ((hx.e.sl.ext hE03)).at_ him (by omega)
  obtain ⟨v1, hv1⟩ : ∃ v, v = x.es[i]'hil := ⟨_, rfl⟩
  have q10 := hcs1 i hil 0 (by omega)
  have q11 := hcs1 i hil 1 (by omega)
  have q12 := hcs1 i hil 2 (by omega)
  have q13 := hcs1 i hil 3 (by omega)
  have q14 := hcs1 i hil 4 (by omega)
  have q15 := hcs1 i hil 5 (by omega)
  have q16 := hcs1 i hil 6 (by omega)
  simp only [← hv1, entC, List.getElem_cons_zero, List.getElem_cons_succ, Nat.add_zero, ← Nat.add_assoc] at q10 q11 q12 q13 q14 q15 q16
  have Z10 := laters q10
  have Z11 := laters q11
  have Z12 := laters q12
  have Z13 := laters q13
  have Z14 := laters q14
  have Z15 := laters q15
  have Z16 := laters q16
  have HVN1 := Lib.hid hv1
  clear hcs1 q10 q11 q12 q13 q14 q15 q16 hv1
  replace X00 := laters (X00 _ hE13)
  replace X01 := laters (X01 _ hE13)
  replace X02 := laters (X02 _ hE13)
  replace X03 := laters (X03 _ hE13)
  rw [eA1] at X03
  have EA1 := Lib.hid eA1
  clear eA1
  have hv1W : EntW w v1 := by rw [HVN1.out]; exact hx.e.good _ (List.getElem_mem hil)
  have HP1 : Hid (v1.p = x.p.es[i]'HKL.out) := by show _ = _; rw [HVN1.out]; exact (List.getElem_map ..).symm
  have HID1 : Hid ((x.p.es[i]'HKL.out).id = v1.p.id) := by show _ = _; rw [HP1.out]
  have himi : (i : Int) < (x.e.m : Int) := by omega
  obtain ⟨w4, hw4⟩ : ∃ W : World, W = w3.alloc (Obj.cells #[.string v1.p.id, .string v1.p.src, .string v1.p.tgt, .slice v1.c.A v1.c.m v1.c.c, .slice v1.f.A v1.f.m v1.f.c, .int .i64 v1.p.st, .slice v1.d.A v1.d.m v1.d.c] 30) := ⟨_, rfl⟩
  have hb1 : Blk w4 w3.heap.size 30 #[.string v1.p.id, .string v1.p.src, .string v1.p.tgt, .slice v1.c.A v1.c.m v1.c.c, .slice v1.f.A v1.f.m v1.f.c, .int .i64 v1.p.st, .slice v1.d.A v1.d.m v1.d.c] := by rw [hw4]; exact Blk.new w3 _ _
  have hEw4 : Ext w3 w4 := by rw [hw4]; exact (Ext.refl _).alloc _
  obtain ⟨g1, hg1⟩ : ∃ k, k = w3.heap.size := ⟨_, rfl⟩
  have hE14 := hE13.trans hEw4
  have hE04 := hE03.trans hEw4
  have hrem := remove_any (hx.ext hE04) v1.p.id (hT.ext hE04)
  rw [HIDV.out x, EA1.out] at hrem
  go_wp2_with (first
    | (go_at_call 25; refine Hid.out ?_))
  rw [← hw4, ← hg1, hmi]
  rw [← hg1] at hb1
  refine Hid.mk_ (hrem.mono ?_)
  have Y0 := laters (show w4.cell? ⟨g1, 0, none⟩ = some (.string v1.p.id) from (hb1).cell 0)
  have Y1 := laters (show w4.cell? ⟨g1, 1, none⟩ = some (.string v1.p.src) from (hb1).cell 1)
  have Y2 := laters (show w4.cell? ⟨g1, 2, none⟩ = some (.string v1.p.tgt) from (hb1).cell 2)
  have Y3 := laters (show w4.cell? ⟨g1, 3, none⟩ = some (.slice v1.c.A v1.c.m v1.c.c) from (hb1).cell 3)
  have Y4 := laters (show w4.cell? ⟨g1, 4, none⟩ = some (.slice v1.f.A v1.f.m v1.f.c) from (hb1).cell 4)
  have Y5 := laters (show w4.cell? ⟨g1, 5, none⟩ = some (.int .i64 v1.p.st) from (hb1).cell 5)
  have Y6 := laters (show w4.cell? ⟨g1, 6, none⟩ = some (.slice v1.d.A v1.d.m v1.d.c) from (hb1).cell 6)
  replace X00 := laters (X00 _ hEw4)
  replace X01 := laters (X01 _ hEw4)
  replace X02 := laters (X02 _ hEw4)
  replace X03 := laters (X03 _ hEw4)
  clear hw4 hg1 hrem hb1 hmi hpos hz hz1
  rintro e w5 ⟨⟨y1, k1, rfl, hR1, hO1⟩, hE5⟩
  have hY1 := hO1.w' hR1.len
  obtain ⟨rfl, hy1, hv1, hf1⟩ := hR1.at_ HV.out HKL.out HID1.out
  have HY1 := Lib.hid hy1; have HV1 := Lib.hid hv1; have HF1 := Lib.hid hf1
  clear hR1 hO1 hy1 hv1 hf1
  rw [HIDV.out y1]
  obtain ⟨w6, hw6⟩ : ∃ W : World, W = w5.alloc (Obj.cells #[.string y1.tag, .slice y1.c.A y1.c.m y1.c.c, .slice y1.d.A y1.d.m y1.d.c, .slice y1.e.A y1.e.m y1.e.c] 28) := ⟨_, rfl⟩
  have hb2 : Blk w6 w5.heap.size 28 #[.string y1.tag, .slice y1.c.A y1.c.m y1.c.c, .slice y1.d.A y1.d.m y1.d.c, .slice y1.e.A y1.e.m y1.e.c] := by rw [hw6]; exact Blk.new w5 _ _
  have hEw6 : Ext w5 w6 := by rw [hw6]; exact (Ext.refl _).alloc _
  obtain ⟨g6, hg6⟩ : ∃ k, k = w5.heap.size := ⟨_, rfl⟩
  have hE46 := hE5.trans hEw6
  have hE06 := hE04.trans hE46
  have hfnd := find_any (hY1.ext hEw6) v1.p.id
  rw [HIDV.out y1] at hfnd
  go_wp2_with (first
    | (go_at_call 32; refine Hid.out ?_))
  rw [← hw6, ← hg6]
  rw [← hg6] at hb2
  refine Hid.mk_ (hfnd.mono ?_)
  have X20 := laters (show w6.cell? ⟨g6, 0, none⟩ = some (.string y1.tag) from hb2.cell 0)
  have X21 := laters (show w6.cell? ⟨g6, 1, none⟩ = some (.slice y1.c.A y1.c.m y1.c.c) from hb2.cell 1)
  have X22 := laters (show w6.cell? ⟨g6, 2, none⟩ = some (.slice y1.d.A y1.d.m y1.d.c) from hb2.cell 2)
  have X23 := laters (show w6.cell? ⟨g6, 3, none⟩ = some (.slice y1.e.A y1.e.m y1.e.c) from hb2.cell 3)
  clear hw6 hg6 hfnd
  rintro e w7 ⟨⟨z, hz, rfl⟩, hE7⟩
  obtain rfl : z = -1 := hz.uniq HF1.out
  have HFN : Hid (FindV (-1) = .tuple #[.int .i64 0, .bool false]) := rfl
  rw [HFN.out]
  clear hz
  have hE47 := hE46.trans hE7
  have hE07 := hE06.trans hE7
  have hput := put_any (hY1.ext (hEw6.trans hE7)) (hv1W.ext hE07) (i : Int) (hT.ext hE07) (by omega) (by omega)
  rw [HIDV.out y1, HIDE.out v1] at hput
  go_wp2_with (first
    | (go_at_call 30; refine Hid.out ?_))
  refine Hid.mk_ ((hput).mono ?_)
  rintro e w8 ⟨⟨y2, k2, rfl, hR2, hO2⟩, hE8⟩
  have hY2 := hO2.w' hR2.len
  have HPB : Hid (y2.p = x.p ∧ k2 = 0) := put_back HV.out HKL.out (by rw [← HY1.out]; exact HV1.out) (by
    have h9 := HF1.out
    rw [HY1.out, ← HID1.out] at h9
    exact h9) (by
    have h9 := hR2
    rw [HY1.out, HP1.out] at h9
    exact h9)
  obtain ⟨hp2, rfl⟩ := HPB.out
  have HP2 := Lib.hid hp2
  clear hR2 hO2 hput hp2
  rw [HIDV.out y2]
  obtain ⟨w9, hw9⟩ : ∃ W : World, W = w8.alloc (Obj.cells #[.string y2.tag, .slice y2.c.A y2.c.m y2.c.c, .slice y2.d.A y2.d.m y2.d.c, .slice y2.e.A y2.e.m y2.e.c] 28) := ⟨_, rfl⟩
  have hb3 : Blk w9 w8.heap.size 28 #[.string y2.tag, .slice y2.c.A y2.c.m y2.c.c, .slice y2.d.A y2.d.m y2.d.c, .slice y2.e.A y2.e.m y2.e.c] := by rw [hw9]; exact Blk.new w8 _ _
  have hEw9 : Ext w8 w9 := by rw [hw9]; exact (Ext.refl _).alloc _
  obtain ⟨g9, hg9⟩ : ∃ k, k = w8.heap.size := ⟨_, rfl⟩
  have hE49 := hE47.trans (hE8.trans hEw9)
  have hE68 := hE7.trans hE8
  have hE48 := hE47.trans hE8
  have hE69 := hE68.trans hEw9
  have hE09 := hE04.trans hE49
  have hval := valid_any' (hY1.ext (hEw6.trans hE69)) (hT.ext hE09)
  rw [HV1.out, HIDV.out y1] at hval
  go_wp2_with (first
    | (go_at_call 21; refine Hid.out ?_))
  rw [← hw9, ← hg9]
  rw [← hg9] at hb3
  refine Hid.mk_ (hval.mono ?_)
  have X30 := laters (show w9.cell? ⟨g9, 0, none⟩ = some (.string y2.tag) from hb3.cell 0)
  have X31 := laters (show w9.cell? ⟨g9, 1, none⟩ = some (.slice y2.c.A y2.c.m y2.c.c) from hb3.cell 1)
  have X32 := laters (show w9.cell? ⟨g9, 2, none⟩ = some (.slice y2.d.A y2.d.m y2.d.c) from hb3.cell 2)
  have X33 := laters (show w9.cell? ⟨g9, 3, none⟩ = some (.slice y2.e.A y2.e.m y2.e.c) from hb3.cell 3)
  replace X00 := laters (X00 _ hE49)
  replace X01 := laters (X01 _ hE49)
  replace X02 := laters (X02 _ hE49)
  replace X03 := laters (X03 _ hE49)
  replace X20 := laters (X20 _ hE69)
  replace X21 := laters (X21 _ hE69)
  replace X22 := laters (X22 _ hE69)
  replace X23 := laters (X23 _ hE69)
  replace Y0 := laters (Y0 _ hE49)
  replace Y1 := laters (Y1 _ hE49)
  replace Y2 := laters (Y2 _ hE49)
  replace Y3 := laters (Y3 _ hE49)
  replace Y4 := laters (Y4 _ hE49)
  replace Y5 := laters (Y5 _ hE49)
  replace Y6 := laters (Y6 _ hE49)
  clear hw9 hg9 hval hb0 hb2 hb3 Z10 Z11 Z12 Z13 Z14 Z15 Z16
  rintro e wa ⟨rfl, hEa⟩
  have hq1 := reqC_true (hY2.ext (hEw9.trans hEa)) (hx.ext (hE09.trans hEa)) HP2.out
  rw [HIDV.out y2, HIDV.out x, EA1.out] at hq1
  go_wp2_with (first
    | (go_at_call 29; refine Hid.out ?_))
  refine Hid.mk_ ((hq1).mono ?_)
  rintro e wb ⟨rfl, hEb⟩
  have hE9b := hEa.trans hEb
  have hE0b := hE09.trans hE9b
  have hmov := move_any (hx.ext hE0b) v1.p.id at_ (hT.ext hE0b) hat1 hat2
  rw [HIDV.out x, EA1.out] at hmov
  clear hq1
  go_wp2_with (first
    | (go_at_call 27; refine Hid.out ?_))
  refine Hid.mk_ ((hmov).mono ?_)
  rintro e wc ⟨⟨y3, k3, rfl, hR3, hO3⟩, hEc⟩
  have hdis := hR3.at_ HV.out HKL.out HID1.out
  have hY3 := hO3.w' hR3.len
  have hE0c := hE0b.trans hEc
  have hE9c := hE9b.trans hEc
  clear hR3 hO3 hmov
  rw [HIDV.out y3]
  rcases hdis with ⟨hrg, rfl⟩ | ⟨q, rfl, hql, rfl, hy3, hv3, hf3⟩
  · rw [← HXL.out] at hrg
    by_cases h0 : at_ < 0
    · clear hrg
      go_wp2
      go_ret
      exact ⟨rfl, hE0c.alloc _⟩
    · have h1 : (x.e.m : Int) ≤ at_ := by omega
      clear hrg
      go_wp2
      go_ret
      exact ⟨rfl, hE0c.alloc _⟩
  · have hqm : (q : Int) < (x.e.m : Int) := by rw [HXL.out]; omega
    have HQL := Lib.hid hql; have HY3 := Lib.hid hy3; have HV3 := Lib.hid hv3; have HF3 := Lib.hid hf3
    clear hql hy3 hv3 hf3
    obtain ⟨wd, hwd⟩ : ∃ W : World, W = wc.alloc (Obj.cells #[.string y3.tag, .slice y3.c.A y3.c.m y3.c.c, .slice y3.d.A y3.d.m y3.d.c, .slice y3.e.A y3.e.m y3.e.c] 28) := ⟨_, rfl⟩
    have hb4 : Blk wd wc.heap.size 28 #[.string y3.tag, .slice y3.c.A y3.c.m y3.c.c, .slice y3.d.A y3.d.m y3.d.c, .slice y3.e.A y3.e.m y3.e.c] := by rw [hwd]; exact Blk.new wc _ _
    have hEwd : Ext wc wd := by rw [hwd]; exact (Ext.refl _).alloc _
    obtain ⟨gd, hgd⟩ : ∃ k, k = wc.heap.size := ⟨_, rfl⟩
    have hE9d := hE9c.trans hEwd
    have hE0d := hE0c.trans hEwd
    have hfnd := find_any (hY3.ext hEwd) v1.p.id
    rw [HIDV.out y3] at hfnd
    go_wp2_with (first
      | (go_at_call 32; refine Hid.out ?_))
    rw [← hwd, ← hgd]
    rw [← hgd] at hb4
    refine Hid.mk_ (hfnd.mono ?_)
    have X40 := laters (show wd.cell? ⟨gd, 0, none⟩ = some (.string y3.tag) from hb4.cell 0)
    have X41 := laters (show wd.cell? ⟨gd, 1, none⟩ = some (.slice y3.c.A y3.c.m y3.c.c) from hb4.cell 1)
    have X42 := laters (show wd.cell? ⟨gd, 2, none⟩ = some (.slice y3.d.A y3.d.m y3.d.c) from hb4.cell 2)
    have X43 := laters (show wd.cell? ⟨gd, 3, none⟩ = some (.slice y3.e.A y3.e.m y3.e.c) from hb4.cell 3)
    replace X00 := laters (X00 _ hE9d)
    replace X01 := laters (X01 _ hE9d)
    replace X02 := laters (X02 _ hE9d)
    replace X03 := laters (X03 _ hE9d)
    clear hwd hgd hfnd hb4 X20 X21 X22 X23 X30 X31 X32 X33
    replace Y0 := laters (Y0 _ hE9d)
    replace Y1 := laters (Y1 _ hE9d)
    replace Y2 := laters (Y2 _ hE9d)
    replace Y3 := laters (Y3 _ hE9d)
    replace Y4 := laters (Y4 _ hE9d)
    replace Y5 := laters (Y5 _ hE9d)
    replace Y6 := laters (Y6 _ hE9d)
    rintro e we ⟨⟨z, hz, rfl⟩, hEe⟩
    obtain rfl : z = (q : Int) := hz.uniq HF3.out
    have HFV : Hid (FindV (q : Int) = .tuple #[.int .i64 q, .bool true]) := by show FindV _ = _; unfold FindV; rw [if_pos (by omega), decide_eq_true (by omega)]
    rw [HFV.out]
    clear hz
    have hE0e := hE0d.trans hEe
    have hmov := move_any (hY3.ext (hEwd.trans hEe)) v1.p.id (i : Int) (hT.ext hE0e) (by omega) (by omega)
    rw [HIDV.out y3] at hmov
    go_wp2_with (first
      | (go_at_call 27; refine Hid.out ?_))
    refine Hid.mk_ ((hmov).mono ?_)
    rintro e wf ⟨⟨y4, k4, rfl, hR4, hO4⟩, hEf⟩
    have hY4 := hO4.w' hR4.len
    have HMB : Hid (y4.p = x.p ∧ k4 = 0) := mov_back HKL.out HQL.out HY3.out HV3.out (by rw [HID1.out]; exact hR4)
    obtain ⟨hp4, rfl⟩ := HMB.out
    have HP4 := Lib.hid hp4
    clear hR4 hO4 hmov hp4
    rw [HIDV.out y4]
    obtain ⟨wg, hwg⟩ : ∃ W : World, W = wf.alloc (Obj.cells #[.string y4.tag, .slice y4.c.A y4.c.m y4.c.c, .slice y4.d.A y4.d.m y4.d.c, .slice y4.e.A y4.e.m y4.e.c] 28) := ⟨_, rfl⟩
    have hb5 : Blk wg wf.heap.size 28 #[.string y4.tag, .slice y4.c.A y4.c.m y4.c.c, .slice y4.d.A y4.d.m y4.d.c, .slice y4.e.A y4.e.m y4.e.c] := by rw [hwg]; exact Blk.new wf _ _
    have hEwg : Ext wf wg := by rw [hwg]; exact (Ext.refl _).alloc _
    obtain ⟨gg, hgg⟩ : ∃ k, k = wf.heap.size := ⟨_, rfl⟩
    have hEdf := hEe.trans hEf
    have hEdg := hEdf.trans hEwg
    have hE0g := hE0d.trans hEdg
    have hval := valid_any' (hY3.ext (hEwd.trans hEdg)) (hT.ext hE0g)
    rw [HV3.out, HIDV.out y3] at hval
    go_wp2_with (first
      | (go_at_call 21; refine Hid.out ?_))
    rw [← hwg, ← hgg]
    rw [← hgg] at hb5
    refine Hid.mk_ (hval.mono ?_)
    have X50 := laters (show wg.cell? ⟨gg, 0, none⟩ = some (.string y4.tag) from hb5.cell 0)
    have X51 := laters (show wg.cell? ⟨gg, 1, none⟩ = some (.slice y4.c.A y4.c.m y4.c.c) from hb5.cell 1)
    have X52 := laters (show wg.cell? ⟨gg, 2, none⟩ = some (.slice y4.d.A y4.d.m y4.d.c) from hb5.cell 2)
    have X53 := laters (show wg.cell? ⟨gg, 3, none⟩ = some (.slice y4.e.A y4.e.m y4.e.c) from hb5.cell 3)
    replace X00 := laters (X00 _ hEdg)
    replace X01 := laters (X01 _ hEdg)
    replace X02 := laters (X02 _ hEdg)
    replace X03 := laters (X03 _ hEdg)
    clear hwg hgg hval hb5
    rintro e wh ⟨rfl, hEh⟩
    have hq1 := reqC_true (hY4.ext (hEwg.trans hEh)) (hx.ext (hE0g.trans hEh)) HP4.out
    rw [HIDV.out y4, HIDV.out x, EA1.out] at hq1
    go_wp2_with (first
      | (go_at_call 29; refine Hid.out ?_))
    refine Hid.mk_ ((hq1).mono ?_)
    rintro e wi ⟨rfl, hEi⟩
    go_wp2
    go_ret
    exact ⟨rfl, (hE0g.trans hEh).trans hEi⟩

set_option maxRecDepth 100000 in
theorem liftedCatalogMoves (os : Os) (started : os.Started) (H : Type) (enc : TypeId × Value → H) :
    ReturnsInHanded {} Tryd.checked os 8 .any (fun w args => (Rows.catalogMovesSpec.pre enc Tryd.prog Tryd.f8 [] false w args ∧ laidMetH Tryd.prog laidL2 w) ∧ sizedMet enc Tryd.prog Tryd.f8 (OpenSpec.ofChange Rows.catalogMovesSpec) false w args) (Rows.catalogMovesSpec.post enc Tryd.prog Tryd.f8 false true false false) := by
  refine returnsInHanded_of_change_and (C := Tryd.checked) (X := fun w _ => laidMetH Tryd.prog laidL2 w) (fun _ _ _ hh h => h.of_heap hh) ownK started (by kernel_rfl) Tryd.func8
    (ChangeSpec.witness_shaped (enc := enc) (C := Tryd.checked) (os := os) (X := fun w _ => laidMetH Tryd.prog laidL2 w) false (World.laidAll Tryd.prog os laidL2) #[.agg #[.string ⟨#[]⟩, .slice none 0 0, .slice none 0 0, .slice none 0 0], .int .u8 0, .int .i64 0] 8 (World.laidAll_os _ _ _)
      (World.shaped_of_ZipB (by kernel_rfl) (by kernel_rfl)) (by kernel_rfl) (by kernel_rfl) (by kernel_rfl)
      (by rw [MakeChecks.laidMetH_plain _ _ _ (by kernel_rfl)]; exact laidMet_laidAll _ (by kernel_rfl) (by kernel_rfl))) ?_
  intro W base args ds gs before hval0 hW hcnd hsz0 hL _
  have hT := tabs2 hL
  have hval : ∀ (j : Nat) t v, Tryd.f8.params[j]? = some t → args[j]? = some v → Value.okWide Tryd.prog W .any base t v := hval0
  have hW' := hW
  obtain ⟨p, q, hA0, hV, rfl, hfz, hnd⟩ := hW
  have hA : DataW.TrodAll enc Tryd.prog W 0 (fun _ => true) true Tryd.f8.params.toList args.toList ds p := hA0
  have hsz : (DataW.weightsEach Tryd.prog (Tryd.f8.params.toList ++ Rows.catalogMovesSpec.plain.varTypes Tryd.prog) (ds ++ gs)).all (· ≤ reachBytes) = true := hsz0
  rw [Tryd.params8] at hA hval hsz
  obtain ⟨v0, vs0, d0, ds0, p0, q0, hargs0, rfl, rfl, h0, r0⟩ := trodAll_cons hA
  obtain ⟨v1, vs1, d1, ds1, p1, q1, hargs1, rfl, rfl, h1, r1⟩ := trodAll_cons r0
  obtain ⟨v2, vs2, d2, ds2, p2, q2, hargs2, rfl, rfl, h2, r2⟩ := trodAll_cons r1
  obtain ⟨rfl, rfl, rfl⟩ := trodAll_nil r2
  obtain rfl : args = #[v0, v1, v2] := by cases args; simp_all
  obtain ⟨rfl, rfl⟩ := trodVars_none hV
  have k0 := h0
  have lt0 : ∀ x ∈ p0, x.block < W.heap.size := by obtain ⟨m, hm⟩ := k0; exact DataW.trod_lt m _ _ _ hm
  obtain ⟨x0, rfl, g0⟩ := opn_top_agg opn_cat ((okWide_struct Tryd.underlying28 (hval 0 28 v0 rfl rfl)).imp fun _ hh => hh.1) h0 (WOk.top hsz (j := 0) rfl rfl)
  obtain ⟨a1, rfl, rfl, rfl, w1⟩ := open_int Tryd.underlying5 (hval 1 5 v1 rfl rfl) h1
  obtain ⟨a2, rfl, rfl, rfl, w2⟩ := open_int Tryd.underlying3 (hval 2 3 v2 rfl rfl) h2
  clear hA0 hval0
  have hb1 := bounds_u8 w1
  have hb2 := bounds_i64 w2
  obtain ⟨k1, rfl⟩ : ∃ u : Nat, a1 = u := ⟨a1.toNat, by omega⟩
  refine (moveslaw_walk g0 k1 (by omega) a2 hb2.1 hb2.2 hT).mono fun e W' ⟨he, bel⟩ => ?_
  subst he
  exact ⟨_, rfl, _, _, _, [], _, [], hW', trodAll_mk1 (shut_bool Tryd.underlying4 _), (trodAll_cons_mk (Below.trod laidK (by kernel_rfl) (of_decide_eq_true (by kernel_rfl)) k0 bel lt0) (trodAll_cons_mk (shut_int Tryd.underlying5 w1) (trodAll_cons_mk (shut_int Tryd.underlying3 w2) trodAll_mk0))), rfl, Below.frame bel _, fun h => by cases h⟩
theorem CatalogMoves_row : Rows.CatalogMovesSaid :=
  OpenClaim.holds_of_wide 8 Tryd.f8 rfl rfl rfl rfl rfl rfl rfl ⟨rfl, rfl, rfl, rfl, rfl⟩ rfl rfl rfl rfl rfl (by kernel_rfl) Tryd.func8 (by kernel_rfl)
    (of_decide_eq_true (by kernel_rfl)) (by unfold Func.isWrapper; rw [if_neg (of_decide_eq_false (by kernel_rfl))]; exact ⟨rfl, rfl⟩)
    (fun os started H enc _ => liftedCatalogMoves os started H enc)
theorem CatalogMoves_holds : Rows.CatalogMovesCardSaid :=
  Claim7.holds_tied_plain_at .later [] Rows.catalogMovesCard.laidKinds true Rows.catalogMovesCard.stood.harness Rows.catalogMovesCard.stood.looks
    CatalogMoves_row (fun _ h => by cases h) (by kernel_rfl) (fun _ h => by cases h) catalogMoves_row_tie rfl ⟨rfl, rfl⟩ (by kernel_rfl) rfl
    (fun f fn hf hfn => by
      obtain rfl : f = 8 := Option.some.inj ((show Tryd.prog.funcNamed Rows.catalogMovesRow.func = some 8 by kernel_rfl).symm.trans hf) |>.symm
      obtain rfl : fn = Tryd.f8 := (Option.some.inj (Tryd.func8.symm.trans hfn)).symm
      exact ⟨by kernel_rfl, fun j t ht => by
        rw [Tryd.params8] at ht
        have hm : t ∈ [28, 5, 3] := by simpa using Array.mem_of_getElem? ht
        have hall : ([28, 5, 3].all fun u => !Tryd.prog.wantsStandIn u) = true := by kernel_rfl
        exact (show Tryd.prog.wantsStandIn t = false by simpa using List.all_eq_true.1 hall t hm)⟩)
    (by kernel_rfl)
#print axioms CatalogMoves_holds

end Go.Proofs.YtikbjaopcminaaaDoor
