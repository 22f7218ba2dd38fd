/- Put returns the catalog with an entry, or the first error that applies, and does not change its arguments. No condition. -/
import Derived.Test.YtikbjaopcminaaaDoorCatU
import Derived.Test.YtikbjaopcminaaaDoorRPut
import Derived.ProofKit
import Derived.OpenShut
import Derived.ShutString
import Derived.ChangeOld
import Derived.SizedLaws
namespace Go.Proofs.YtikbjaopcminaaaDoor
open Go.ChangeShapes Go.WideShapes Go.ChangeAt Go.RowKit
set_option maxRecDepth 100000
attribute [local go_sem] ext_refl_t ext_alloc_t ext_drew_t ext_drewN_t ext_alloc2_t ext_alloc3_t ext_alloc4_t ext_alloc5_t ext_alloc6_t ext_alloc7_t ext_alloc8_t ext_alloc1d_t ext_alloc2d_t ext_alloc3d_t ext_alloc4d_t
def laidL2 : List (String × DataW Unit) := Rows.catalogPutRow.laid
theorem tabs2 {W : World} (h : laidMetH Tryd.prog laidL2 W) : Tabs W := tabs_of_laid h
theorem PutR.uniq {c : Cp} {x : Ep} {at_ : Int} {a b : Cp} {m n : Int} (h : PutR c x at_ a m) (h' : PutR c x at_ b n) : a = b ∧ m = n := by
  have hno : ∀ {P : Prop}, (validC c = false ∨ validE x = false) → validC c = true → validE x = true → P := fun h1 h2 h3 => by
    rcases h1 with h1 | h1
    · rw [h1] at h2; cases h2
    · rw [h1] at h3; cases h3
  rcases h with ⟨h1, h2, h3⟩ | ⟨hv, he, h⟩
  · rcases h' with ⟨i1, i2, i3⟩ | ⟨iv, ie, _⟩
    · exact ⟨h3.trans i3.symm, h2.trans i2.symm⟩
    · exact hno h1 iv ie
  · rcases h' with ⟨i1, i2, i3⟩ | ⟨iv, ie, h'⟩
    · exact hno i1 hv he
    · rcases h with ⟨k, h1, h2, h3, h4⟩ | ⟨h1, h⟩ <;> rcases h' with ⟨j, i1, i2, i3, i4⟩ | ⟨i1, h'⟩
      · have e : k = j := by have := h1.uniq i1; omega
        subst e
        exact ⟨h4.trans i4.symm, h3.trans i3.symm⟩
      · have := h1.uniq i1; omega
      · have := h1.uniq i1; omega
      · rcases h with ⟨h2, h3, h4⟩ | ⟨q, h2, h3, ⟨h4, h5, h6⟩ | ⟨h4, h5, h6⟩⟩ <;> rcases h' with ⟨i2, i3, i4⟩ | ⟨r, i2, i3, ⟨i4, i5, i6⟩ | ⟨i4, i5, i6⟩⟩
        · exact ⟨h4.trans i4.symm, h3.trans i3.symm⟩
        · omega
        · omega
        · omega
        · exact ⟨h6.trans i6.symm, h5.trans i5.symm⟩
        · omega
        · omega
        · omega
        · have e : q = r := by omega
          subst e
          exact ⟨h6.trans i6.symm, h5.trans i5.symm⟩
theorem PutR.len {c : Cp} {x : Ep} {at_ : Int} {a : Cp} {m : Int} (h : PutR c x at_ a m) : a.es.length ≤ 1000 := by
  rcases h with ⟨_, _, rfl⟩ | ⟨hv, _, ⟨k, _, _, _, rfl⟩ | ⟨_, ⟨_, _, rfl⟩ | ⟨q, _, h3, ⟨_, _, rfl⟩ | ⟨h4, _, rfl⟩⟩⟩⟩
  · exact Nat.zero_le _
  · show (c.es.set k x).length ≤ 1000
    rw [List.length_set]; exact validC_len hv
  · exact Nat.zero_le _
  · exact Nat.zero_le _
  · show (c.es.take q ++ [x] ++ c.es.drop q).length ≤ 1000
    simp only [List.length_append, List.length_take, List.length_drop, List.length_cons, List.length_nil]
    omega
set_option maxHeartbeats 12800000 in
theorem putlaw_walk {w : World} {x : Cat} {v : Ent} (hx : CatW w x) (hv : EntW w v) (at_ : Int) (hat1 : -9223372036854775808 ≤ at_) (hat2 : at_ ≤ 9223372036854775807) (hT : Tabs w) :
    Calls Tryd.prog 6 #[catV x, entV v, .int .i64 at_] w fun e w' => e = .returned (.bool true) ∧ Ext w w' := by
  have HIDV : Hid (∀ y : Cat, catV y = .agg #[.string y.tag, .slice y.c.A y.c.m y.c.c, .slice y.d.A y.d.m y.d.c, .slice y.e.A y.e.m y.e.c]) := fun _ => rfl
  have HIDE : Hid (∀ z : Ent, entV z = .agg #[.string z.p.id, .string z.p.src, .string z.p.tgt, .slice z.c.A z.c.m z.c.c, .slice z.f.A z.f.m z.f.c, .int .i64 z.p.st, .slice z.d.A z.d.m z.d.c]) := fun _ => rfl
  rw [HIDV.out x, HIDE.out v]
  obtain ⟨W0, hW0⟩ : ∃ W0, W0 = (w.alloc (Obj.cells #[.string x.tag, .slice x.c.A x.c.m x.c.c, .slice x.d.A x.d.m x.d.c, .slice x.e.A x.e.m x.e.c] 28)).alloc (Obj.cells #[.string v.p.id, .string v.p.src, .string v.p.tgt, .slice v.c.A v.c.m v.c.c, .slice v.f.A v.f.m v.f.c, .int .i64 v.p.st, .slice v.d.A v.d.m v.d.c] 30) := ⟨_, rfl⟩
  have hb0 : Blk W0 w.heap.size 28 #[.string x.tag, .slice x.c.A x.c.m x.c.c, .slice x.d.A x.d.m x.d.c, .slice x.e.A x.e.m x.e.c] := by rw [hW0]; exact (Blk.new w _ _).alloc _
  have hb1 : Blk W0 (w.heap.size + 1) 30 #[.string v.p.id, .string v.p.src, .string v.p.tgt, .slice v.c.A v.c.m v.c.c, .slice v.f.A v.f.m v.f.c, .int .i64 v.p.st, .slice v.d.A v.d.m v.d.c] := by rw [hW0]; exact Blk.new1 w _ _ _
  have hE0 : Ext w W0 := by rw [hW0]; exact ((Ext.refl w).alloc _).alloc _
  have hawk := awake_cat (hT.ext hE0)
  obtain ⟨g, hg⟩ : ∃ g, g = w.heap.size := ⟨_, rfl⟩
  obtain ⟨g1, hg1⟩ : ∃ g1, g1 = w.heap.size + 1 := ⟨_, rfl⟩
  go_enter Tryd.func6, Tryd.ntmps6
  go_wp2_with (first
    | (go_at_call 12; refine Hid.out ?_))
  rw [← hW0, ← hg1, ← hg]
  rw [← hg] at hb0
  rw [← hg1] at hb1
  refine Hid.mk_ (hawk.mono ?_)
  rintro e wA ⟨rfl, hE1⟩
  have hE01 := hE0.trans hE1
  have X00 := laters (show W0.cell? ⟨g, 0, none⟩ = some (.string x.tag) from hb0.cell 0)
  have X01 := laters (show W0.cell? ⟨g, 1, none⟩ = some (.slice x.c.A x.c.m x.c.c) from hb0.cell 1)
  have X02 := laters (show W0.cell? ⟨g, 2, none⟩ = some (.slice x.d.A x.d.m x.d.c) from hb0.cell 2)
  have X03 := laters (show W0.cell? ⟨g, 3, none⟩ = some (.slice x.e.A x.e.m x.e.c) from hb0.cell 3)
  have Y0 := laters (show W0.cell? ⟨g1, 0, none⟩ = some (.string v.p.id) from (hb1).cell 0)
  have Y1 := laters (show W0.cell? ⟨g1, 1, none⟩ = some (.string v.p.src) from (hb1).cell 1)
  have Y2 := laters (show W0.cell? ⟨g1, 2, none⟩ = some (.string v.p.tgt) from (hb1).cell 2)
  have Y3 := laters (show W0.cell? ⟨g1, 3, none⟩ = some (.slice v.c.A v.c.m v.c.c) from (hb1).cell 3)
  have Y4 := laters (show W0.cell? ⟨g1, 4, none⟩ = some (.slice v.f.A v.f.m v.f.c) from (hb1).cell 4)
  have Y5 := laters (show W0.cell? ⟨g1, 5, none⟩ = some (.int .i64 v.p.st) from (hb1).cell 5)
  have Y6 := laters (show W0.cell? ⟨g1, 6, none⟩ = some (.slice v.d.A v.d.m v.d.c) from (hb1).cell 6)
  clear hW0 hg hg1 hawk hb1
  have hfc := few_any (hx.ext hE01)
  rw [HIDV.out x] at hfc
  go_wp2_with (first
    | (go_at_call 19; refine Hid.out ?_))
  refine Hid.mk_ ((hfc).mono ?_)
  rintro e w1 ⟨rfl, hE2⟩
  clear hfc
  have hE11 := hE1.trans hE2
  have hE0b := hE01.trans hE2
  cases hf1 : fewC x.p with
  | false =>
    clear hf1
    go_wp2
    go_ret
    exact ⟨rfl, hE0b⟩
  | true =>
  have hxm : x.e.m ≤ 12 := by
    have h1 : x.e.m = x.es.length := hx.e.sl.len
    have h2 : x.p.es.length = x.es.length := List.length_map _
    unfold fewC at hf1
    simp only [Bool.and_eq_true, decide_eq_true_eq] at hf1
    omega
  clear hf1
  have hfe := fewEntry_any (hv.ext hE0b)
  rw [HIDE.out v] at hfe
  go_wp2_with (first
    | (go_at_call 20; refine Hid.out ?_))
  refine Hid.mk_ ((hfe).mono ?_)
  rintro e w2 ⟨rfl, hE2'⟩
  clear hfe
  have hE12 := hE11.trans hE2'
  have hE02 := hE0b.trans hE2'
  cases hf1 : fewE v.p with
  | false =>
    clear hf1
    go_wp2
    go_ret
    exact ⟨rfl, hE02⟩
  | true =>
  clear hf1
  obtain ⟨w3, hw3⟩ : ∃ w3, w3 = w2.alloc (Obj.cells #[.string x.tag, .slice x.c.A x.c.m x.c.c, .slice x.d.A x.d.m x.d.c, .slice x.e.A x.e.m x.e.c] 28) := ⟨_, rfl⟩
  have hb1 : Blk w3 w2.heap.size 28 #[.string x.tag, .slice x.c.A x.c.m x.c.c, .slice x.d.A x.d.m x.d.c, .slice x.e.A x.e.m x.e.c] := by rw [hw3]; exact Blk.new w2 _ _
  have hE23 : Ext w2 w3 := by rw [hw3]; exact (Ext.refl w2).alloc _
  have hsz3 : w3.heap.size = w2.heap.size + 1 := by rw [hw3]; simp
  obtain ⟨gI, hgI⟩ : ∃ gI, gI = w2.heap.size := ⟨_, rfl⟩
  go_wp2_with (first
    | (at_builtin; refine Hid.out ?_))
  rw [← hw3, ← hgI]
  rw [← hgI] at hb1 hsz3
  have ho0 : OsC entC 30 7 (w3.alloc (.cells #[] 30)) w3.heap.size (some ⟨gI + 1, 0, none⟩) 0 0 [] := by
    have h9 := OsC.new0 (cs := entC) (e := 30) (k := 7) w3 w3.heap.size (Nat.le_refl _) entC_len entC_cell
    rw [show (⟨w3.heap.size, 0, none⟩ : Addr) = ⟨gI + 1, 0, none⟩ by rw [hsz3]] at h9
    exact h9
  have hE3a : Ext w3 (w3.alloc (.cells #[] 30)) := (Ext.refl w3).alloc _
  refine Hid.mk_ ?_
  refine appC einfo_ent rfl _ _ rfl ho0 rfl (hx.e.sl.ext ((hE02.trans hE23).trans hE3a)) rfl (by omega) hE3a.size_le ?_
  intro A4 m4 c4 w4 ho4 hg4 hat4
  have hE34 : Ext w3 w4 := hE3a.grown hg4 ho0.ge
  have hbI := hb1.below hE34 hb1.lt
  have d3 := hbI.cell 3
  have f3 := hbI.frozen 3
  have hbS := hbI.set_ 3 (.slice A4 m4 c4)
  obtain ⟨w5, hw5⟩ : ∃ w5, w5 = w4.setCell ⟨gI, 3, none⟩ (.slice A4 m4 c4) := ⟨_, rfl⟩
  rw [← hw5] at hbS
  have hE25 : Ext w2 w5 := by rw [hw5]; exact (hE23.trans hE34).set_ (p := ⟨gI, 3, none⟩) (by show w2.heap.size ≤ gI; omega) _
  have hE05 := hE02.trans hE25
  have hEW5 := hE12.trans hE25
  have hneI : ob A4 = none ∨ ob A4 ≠ some gI := by
    cases hA : ob A4 with
    | none => exact .inl rfl
    | some j => exact .inr (fun e => by injection e with e; have h1 := ho4.ge j hA; omega)
  have ho5 : OsC entC 30 7 w5 w3.heap.size A4 m4 c4 x.es := by
    rw [hw5]
    have h9 := ho4.kept (grown_set w4 ⟨gI, 3, none⟩ (.slice A4 m4 c4)) hneI
    rwa [List.nil_append] at h9
  have hxi : CatW w5 (x.withE x.es ⟨A4, m4, c4⟩) := CatW.withE (hx.ext hE05) ho5 (by have h1 := ho5.len; have h2 := hx.e.sl.len; omega) (fun z hz => (hx.e.good z hz).ext hE05)
  have X10 := laters (show w5.cell? ⟨gI, 0, none⟩ = some (.string x.tag) from hbS.cell 0)
  have X11 := laters (show w5.cell? ⟨gI, 1, none⟩ = some (.slice x.c.A x.c.m x.c.c) from hbS.cell 1)
  have X12 := laters (show w5.cell? ⟨gI, 2, none⟩ = some (.slice x.d.A x.d.m x.d.c) from hbS.cell 2)
  have X13 := laters (show w5.cell? ⟨gI, 3, none⟩ = some (.slice A4 m4 c4) from hbS.cell 3)
  replace X00 := laters (X00 _ hEW5)
  replace X01 := laters (X01 _ hEW5)
  replace X02 := laters (X02 _ hEW5)
  replace X03 := laters (X03 _ hEW5)
  have hTb := hT.ext hE05
  clear hb1 ho0 hE3a hsz3 hbI hg4 hat4 hneI hgI hw3 hb0 ho4
  replace Y0 := laters (Y0 _ hEW5)
  replace Y1 := laters (Y1 _ hEW5)
  replace Y2 := laters (Y2 _ hEW5)
  replace Y3 := laters (Y3 _ hEW5)
  replace Y4 := laters (Y4 _ hEW5)
  replace Y5 := laters (Y5 _ hEW5)
  replace Y6 := laters (Y6 _ hEW5)
  have hput : Calls Tryd.prog 30 #[.agg #[.string x.tag, .slice x.c.A x.c.m x.c.c, .slice x.d.A x.d.m x.d.c, .slice A4 m4 c4], .agg #[.string v.p.id, .string v.p.src, .string v.p.tgt, .slice v.c.A v.c.m v.c.c, .slice v.f.A v.f.m v.f.c, .int .i64 v.p.st, .slice v.d.A v.d.m v.d.c], .int .i64 at_] w5 fun e w' => (∃ (y : Cat) (code : Int), e = .returned (.tuple #[catV y, .int .i64 code]) ∧ PutR x.p v.p at_ y.p code ∧ CatO w' w5.heap.size y) ∧ Ext w5 w' := put_any hxi (hv.ext hE05) at_ hTb hat1 hat2
  go_wp2_with (first
    | (go_at_call 30; refine Hid.out ?_))
  rw [← hw5]
  refine Hid.mk_ (hput.mono ?_)
  clear hw5 d3 f3 hput
  rintro e w6 ⟨⟨y1, k1, rfl, hR1, hO1⟩, hE56⟩
  have hY1 := hO1.w' hR1.len
  have HR1 := Lib.hid hR1
  clear hR1 hO1
  rw [HIDV.out y1]
  obtain ⟨w7, hw7⟩ : ∃ W : World, W = w6.alloc (Obj.cells #[.string y1.tag, .slice y1.c.A y1.c.m y1.c.c, .slice y1.d.A y1.d.m y1.d.c, .slice y1.e.A y1.e.m y1.e.c] 28) := ⟨_, rfl⟩
  have hb2 : Blk w7 w6.heap.size 28 #[.string y1.tag, .slice y1.c.A y1.c.m y1.c.c, .slice y1.d.A y1.d.m y1.d.c, .slice y1.e.A y1.e.m y1.e.c] := by rw [hw7]; exact Blk.new w6 _ _
  have hEw7 : Ext w6 w7 := by rw [hw7]; exact (Ext.refl _).alloc _
  obtain ⟨g7, hg7⟩ : ∃ k, k = w6.heap.size := ⟨_, rfl⟩
  have hE57 := hE56.trans hEw7
  have hrput := rput_any (hx.ext (hE05.trans hE57)) (hv.ext (hE05.trans hE57)) at_ hat1 hat2
  rw [HIDV.out x, HIDE.out v] at hrput
  go_wp2_with (first
    | (go_at_call 31; refine Hid.out ?_))
  rw [← hw7, ← hg7]
  rw [← hg7] at hb2
  refine Hid.mk_ (hrput.mono ?_)
  have X20 := laters (show w7.cell? ⟨g7, 0, none⟩ = some (.string y1.tag) from hb2.cell 0)
  have X21 := laters (show w7.cell? ⟨g7, 1, none⟩ = some (.slice y1.c.A y1.c.m y1.c.c) from hb2.cell 1)
  have X22 := laters (show w7.cell? ⟨g7, 2, none⟩ = some (.slice y1.d.A y1.d.m y1.d.c) from hb2.cell 2)
  have X23 := laters (show w7.cell? ⟨g7, 3, none⟩ = some (.slice y1.e.A y1.e.m y1.e.c) from hb2.cell 3)
  clear hw7 hg7 hrput
  rintro e w8 ⟨⟨y2, k2, rfl, hR2, hY2⟩, hE78⟩
  have HR2 := Lib.hid hR2
  clear hR2
  rw [HIDV.out y2]
  obtain ⟨w9, hw9⟩ : ∃ W : World, W = w8.alloc (Obj.cells #[.string y2.tag, .slice y2.c.A y2.c.m y2.c.c, .slice y2.d.A y2.d.m y2.d.c, .slice y2.e.A y2.e.m y2.e.c] 28) := ⟨_, rfl⟩
  have hb3 : Blk w9 w8.heap.size 28 #[.string y2.tag, .slice y2.c.A y2.c.m y2.c.c, .slice y2.d.A y2.d.m y2.d.c, .slice y2.e.A y2.e.m y2.e.c] := by rw [hw9]; exact Blk.new w8 _ _
  have hEw9 : Ext w8 w9 := by rw [hw9]; exact (Ext.refl _).alloc _
  obtain ⟨g9, hg9⟩ : ∃ k, k = w8.heap.size := ⟨_, rfl⟩
  have hE58 := hE57.trans hE78
  have hE79 := hE78.trans hEw9
  have hE59 := hE57.trans hE79
  obtain ⟨hp1, rfl⟩ := HR1.out.uniq HR2.out
  have hq1 := reqC_true (hY1.ext (hEw7.trans hE79)) (hY2.ext hEw9) hp1
  rw [HIDV.out y1, HIDV.out y2] at hq1
  have hkk : (k1 == k1) = true := by simp
  clear hp1
  go_wp2_with (first
    | (go_at_call 29; refine Hid.out ?_))
  rw [← hw9, ← hg9]
  rw [← hg9] at hb3
  refine Hid.mk_ (hq1.mono ?_)
  have X30 := laters (show w9.cell? ⟨g9, 0, none⟩ = some (.string y2.tag) from hb3.cell 0)
  have X31 := laters (show w9.cell? ⟨g9, 1, none⟩ = some (.slice y2.c.A y2.c.m y2.c.c) from hb3.cell 1)
  have X32 := laters (show w9.cell? ⟨g9, 2, none⟩ = some (.slice y2.d.A y2.d.m y2.d.c) from hb3.cell 2)
  have X33 := laters (show w9.cell? ⟨g9, 3, none⟩ = some (.slice y2.e.A y2.e.m y2.e.c) from hb3.cell 3)
  replace X00 := laters (X00 _ hE59)
  replace X01 := laters (X01 _ hE59)
  replace X02 := laters (X02 _ hE59)
  replace X03 := laters (X03 _ hE59)
  replace X10 := laters (X10 _ hE59)
  replace X11 := laters (X11 _ hE59)
  replace X12 := laters (X12 _ hE59)
  replace X13 := laters (X13 _ hE59)
  clear hw9 hg9 hq1
  rintro e wa ⟨rfl, hE9a⟩
  have hq3 : Calls Tryd.prog 29 #[.agg #[.string x.tag, .slice x.c.A x.c.m x.c.c, .slice x.d.A x.d.m x.d.c, .slice A4 m4 c4], .agg #[.string x.tag, .slice x.c.A x.c.m x.c.c, .slice x.d.A x.d.m x.d.c, .slice x.e.A x.e.m x.e.c]] wa fun e w' => e = .returned (.bool true) ∧ Ext wa w' := by
    have h9 := reqC_true (hxi.ext (hE59.trans hE9a)) (hx.ext ((hE05.trans hE59).trans hE9a)) (in_p x _)
    rw [HIDV.out x, HIDV.out (x.withE x.es ⟨A4, m4, c4⟩)] at h9
    exact h9
  go_wp2_with (first
    | (go_at_call 29; refine Hid.out ?_))
  refine Hid.mk_ ((hq3).mono ?_)
  rintro e wb ⟨rfl, hEab⟩
  go_wp2
  go_ret
  exact ⟨rfl, ((hE05.trans hE59).trans hE9a).trans hEab⟩

set_option maxRecDepth 100000 in
theorem liftedCatalogPut (os : Os) (started : os.Started) (H : Type) (enc : TypeId × Value → H) :
    ReturnsInHanded {} Tryd.checked os 6 .any (fun w args => (Rows.catalogPutSpec.pre enc Tryd.prog Tryd.f6 [] false w args ∧ laidMetH Tryd.prog laidL2 w) ∧ sizedMet enc Tryd.prog Tryd.f6 (OpenSpec.ofChange Rows.catalogPutSpec) false w args) (Rows.catalogPutSpec.post enc Tryd.prog Tryd.f6 false true false false) := by
  refine returnsInHanded_of_change_and (C := Tryd.checked) (X := fun w _ => laidMetH Tryd.prog laidL2 w) (fun _ _ _ hh h => h.of_heap hh) ownK started (by kernel_rfl) Tryd.func6
    (ChangeSpec.witness_shaped (enc := enc) (C := Tryd.checked) (os := os) (X := fun w _ => laidMetH Tryd.prog laidL2 w) false (World.laidAll Tryd.prog os laidL2) #[.agg #[.string ⟨#[]⟩, .slice none 0 0, .slice none 0 0, .slice none 0 0], .agg #[.string ⟨#[]⟩, .string ⟨#[]⟩, .string ⟨#[]⟩, .slice none 0 0, .slice none 0 0, .int .i64 0, .slice none 0 0], .int .i64 0] 8 (World.laidAll_os _ _ _)
      (World.shaped_of_ZipB (by kernel_rfl) (by kernel_rfl)) (by kernel_rfl) (by kernel_rfl) (by kernel_rfl)
      (by rw [MakeChecks.laidMetH_plain _ _ _ (by kernel_rfl)]; exact laidMet_laidAll _ (by kernel_rfl) (by kernel_rfl))) ?_
  intro W base args ds gs before hval0 hW hcnd hsz0 hL _
  have hT := tabs2 hL
  have hval : ∀ (j : Nat) t v, Tryd.f6.params[j]? = some t → args[j]? = some v → Value.okWide Tryd.prog W .any base t v := hval0
  have hW' := hW
  obtain ⟨p, q, hA0, hV, rfl, hfz, hnd⟩ := hW
  have hA : DataW.TrodAll enc Tryd.prog W 0 (fun _ => true) true Tryd.f6.params.toList args.toList ds p := hA0
  have hsz : (DataW.weightsEach Tryd.prog (Tryd.f6.params.toList ++ Rows.catalogPutSpec.plain.varTypes Tryd.prog) (ds ++ gs)).all (· ≤ reachBytes) = true := hsz0
  rw [Tryd.params6] at hA hval hsz
  obtain ⟨v0, vs0, d0, ds0, p0, q0, hargs0, rfl, rfl, h0, r0⟩ := trodAll_cons hA
  obtain ⟨v1, vs1, d1, ds1, p1, q1, hargs1, rfl, rfl, h1, r1⟩ := trodAll_cons r0
  obtain ⟨v2, vs2, d2, ds2, p2, q2, hargs2, rfl, rfl, h2, r2⟩ := trodAll_cons r1
  obtain ⟨rfl, rfl, rfl⟩ := trodAll_nil r2
  obtain rfl : args = #[v0, v1, v2] := by cases args; simp_all
  obtain ⟨rfl, rfl⟩ := trodVars_none hV
  have k0 := h0
  have lt0 : ∀ x ∈ p0, x.block < W.heap.size := by obtain ⟨m, hm⟩ := k0; exact DataW.trod_lt m _ _ _ hm
  have k1 := h1
  have lt1 : ∀ x ∈ p1, x.block < W.heap.size := by obtain ⟨m, hm⟩ := k1; exact DataW.trod_lt m _ _ _ hm
  obtain ⟨x0, rfl, g0⟩ := opn_top_agg opn_cat ((okWide_struct Tryd.underlying28 (hval 0 28 v0 rfl rfl)).imp fun _ hh => hh.1) h0 (WOk.top hsz (j := 0) rfl rfl)
  obtain ⟨x1, rfl, g1⟩ := opn_top_agg opn_entry ((okWide_struct Tryd.underlying30 (hval 1 30 v1 rfl rfl)).imp fun _ hh => hh.1) h1 (WOk.top hsz (j := 1) rfl rfl)
  obtain ⟨a2, rfl, rfl, rfl, w2⟩ := open_int Tryd.underlying3 (hval 2 3 v2 rfl rfl) h2
  clear hA0 hval0
  have hb2 := bounds_i64 w2
  refine (putlaw_walk g0 g1 a2 hb2.1 hb2.2 hT).mono fun e W' ⟨he, bel⟩ => ?_
  subst he
  exact ⟨_, rfl, _, _, _, [], _, [], hW', trodAll_mk1 (shut_bool Tryd.underlying4 _), (trodAll_cons_mk (Below.trod laidK (by kernel_rfl) (of_decide_eq_true (by kernel_rfl)) k0 bel lt0) (trodAll_cons_mk (Below.trod laidK (by kernel_rfl) (of_decide_eq_true (by kernel_rfl)) k1 bel lt1) (trodAll_cons_mk (shut_int Tryd.underlying3 w2) trodAll_mk0))), rfl, Below.frame bel _, fun h => by cases h⟩
theorem CatalogPut_row : Rows.CatalogPutSaid :=
  OpenClaim.holds_of_wide 6 Tryd.f6 rfl rfl rfl rfl rfl rfl rfl ⟨rfl, rfl, rfl, rfl, rfl⟩ rfl rfl rfl rfl rfl (by kernel_rfl) Tryd.func6 (by kernel_rfl)
    (of_decide_eq_true (by kernel_rfl)) (by unfold Func.isWrapper; rw [if_neg (of_decide_eq_false (by kernel_rfl))]; exact ⟨rfl, rfl⟩)
    (fun os started H enc _ => liftedCatalogPut os started H enc)
theorem CatalogPut_holds : Rows.CatalogPutCardSaid :=
  Claim7.holds_tied_plain_at .later [] Rows.catalogPutCard.laidKinds true Rows.catalogPutCard.stood.harness Rows.catalogPutCard.stood.looks
    CatalogPut_row (fun _ h => by cases h) (by kernel_rfl) (fun _ h => by cases h) catalogPut_row_tie rfl ⟨rfl, rfl⟩ (by kernel_rfl) rfl
    (fun f fn hf hfn => by
      obtain rfl : f = 6 := Option.some.inj ((show Tryd.prog.funcNamed Rows.catalogPutRow.func = some 6 by kernel_rfl).symm.trans hf) |>.symm
      obtain rfl : fn = Tryd.f6 := (Option.some.inj (Tryd.func6.symm.trans hfn)).symm
      exact ⟨by kernel_rfl, fun j t ht => by
        rw [Tryd.params6] at ht
        have hm : t ∈ [28, 30, 3] := by simpa using Array.mem_of_getElem? ht
        have hall : ([28, 30, 3].all fun u => !Tryd.prog.wantsStandIn u) = true := by kernel_rfl
        exact (show Tryd.prog.wantsStandIn t = false by simpa using List.all_eq_true.1 hall t hm)⟩)
    (by kernel_rfl)
#print axioms CatalogPut_holds

end Go.Proofs.YtikbjaopcminaaaDoor
