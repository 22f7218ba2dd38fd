/- Find and IDs of the reference. -/
import Derived.Test.YtngpajaghadhdaaGreatDoorBinQe
import Derived.Test.YtngpajaghadhdaaGreatDoorBinFd
import Derived.Test.YtngpajaghadhdaaGreatDoorRFew
namespace Go.Proofs.YtngpajaghadhdaaGreatDoor
open Go.RowKit
set_option maxRecDepth 100000
attribute [local go_sem] ext_refl_t ext_alloc_t ext_drew_t ext_drewN_t ext_alloc2_t ext_alloc3_t ext_alloc4_t ext_alloc5_t ext_alloc6_t ext_alloc7_t ext_alloc8_t ext_alloc1d_t ext_alloc2d_t ext_alloc3d_t ext_alloc4d_t
theorem findZ_none {y : Cp} {id : ByteArray} (h : FindZ y.es id (-1)) : FindO y id ep0 false := by
  rcases h with ⟨_, h⟩ | ⟨k, h, _⟩
  · refine .inr ⟨rfl, rfl, fun x hx => ?_⟩
    obtain ⟨j, hj, rfl⟩ := List.getElem_of_mem hx
    exact h j hj
  · omega
theorem findZ_some {y : Cp} {id : ByteArray} {k : Nat} (h : FindZ y.es id k) : ∃ hk : k < y.es.length, FindO y id y.es[k] true := by
  rcases h with ⟨h, _⟩ | ⟨j, h, hj, he, _⟩
  · omega
  · have : k = j := by omega
    subst this
    exact ⟨hj, .inl ⟨rfl, List.getElem_mem _, he⟩⟩
section
variable {w : World}
set_option maxHeartbeats 12800000 in
theorem rfind_any {A : Option Addr} {m : Nat} (c : Nat) {l : List UInt8} (hs : SlB w A m l) (hmc : m ≤ c) (hmb : m ≤ 1000000000) (id : ByteArray) :
    Calls Tryz.prog 12 #[.slice A m c, .string id] w fun e w' => (∃ (v : Ent) (f : Bool) (y : Cp) (code : Int), e = .returned (.tuple #[entV v, .bool f]) ∧ DecR l y code ∧ FindO y id v.p f ∧ EntW w' v) ∧ Ext w w' := by
  have HIDV : Hid (∀ y : Cat, catV y = .agg #[.string y.tag, .slice y.c.A y.c.m y.c.c, .slice y.d.A y.d.m y.d.c, .slice y.e.A y.e.m y.e.c]) := fun _ => rfl
  obtain ⟨W0, hW0⟩ : ∃ W0, W0 = w.alloc (Obj.cells #[.string ⟨#[]⟩, .string ⟨#[]⟩, .string ⟨#[]⟩, .slice none 0 0, .slice none 0 0, .int .i64 0, .slice none 0 0] 37) := ⟨_, rfl⟩
  have hb4 : Blk W0 w.heap.size 37 #[.string ⟨#[]⟩, .string ⟨#[]⟩, .string ⟨#[]⟩, .slice none 0 0, .slice none 0 0, .int .i64 0, .slice none 0 0] := by rw [hW0]; exact Blk.new w _ _
  have hEW0 : Ext w W0 := by rw [hW0]; exact (Ext.refl w).alloc _
  have hdec := rdecode_any c (hs.ext hEW0) hmc hmb
  obtain ⟨g, hg⟩ : ∃ g, g = w.heap.size := ⟨_, rfl⟩
  have HG := Lib.hid hg
  go_enter Tryz.func12, Tryz.ntmps12
  go_wp2_with (first
    | (go_at_call 7; refine Hid.out ?_))
  rw [← hW0, ← hg]
  rw [← hg] at hb4
  refine Hid.mk_ (hdec.mono ?_)
  clear hW0 hg hdec
  rintro e wd ⟨⟨y, code0, rfl, hD, hyW, hyA⟩, hEd⟩
  rw [HIDV.out y]
  have HDR := Lib.hid hD
  have HYA := Lib.hid hyA
  have HG1 : Hid (g < W0.heap.size) := hb4.lt
  clear hyA hD
  obtain ⟨wB, hwB⟩ : ∃ wB, wB = wd.alloc (Obj.cells #[.string y.tag, .slice y.c.A y.c.m y.c.c, .slice y.d.A y.d.m y.d.c, .slice y.e.A y.e.m y.e.c] 28) := ⟨_, rfl⟩
  have hbB : Blk wB wd.heap.size 28 #[.string y.tag, .slice y.c.A y.c.m y.c.c, .slice y.d.A y.d.m y.d.c, .slice y.e.A y.e.m y.e.c] := by rw [hwB]; exact Blk.new wd _ _
  have hEB : Ext wd wB := by rw [hwB]; exact (Ext.refl _).alloc _
  obtain ⟨gx, hgx⟩ : ∃ gx, gx = wd.heap.size := ⟨_, rfl⟩
  rw [← hgx] at hbB
  have hE0B := hEd.trans hEB
  have hfd := refFind_any (hyW.ext hEB) id
  rw [HIDV.out y] at hfd
  go_wp2_with (first
    | (go_at_call 41; refine Hid.out ?_))
  rw [← hwB, ← hgx]
  clear hwB hgx
  refine Hid.mk_ (hfd.mono ?_)
  clear hfd
  rintro e ws ⟨⟨z, hz, rfl⟩, hEs⟩
  have hE0s := hE0B.trans hEs
  have hys := hyW.ext (hEB.trans hEs)
  rcases hz.cases_ with rfl | ⟨k, rfl⟩
  · have HFO : Hid (FindO y.p id ep0 false) := findZ_none hz
    have HFV : Hid (FindV (-1) = .tuple #[.int .i64 0, .bool false]) := rfl
    rw [HFV.out]
    clear hz hbB
    have hrb := hb4.below hE0s hb4.lt
    have k0 := hrb.cell 0
    have k1 := hrb.cell 1
    have k2 := hrb.cell 2
    have k3 := hrb.cell 3
    have k4 := hrb.cell 4
    have k5 := hrb.cell 5
    have k6 := hrb.cell 6
    have f0 := hrb.frozen 0
    have f1 := hrb.frozen 1
    have f2 := hrb.frozen 2
    have f3 := hrb.frozen 3
    have f4 := hrb.frozen 4
    have f5 := hrb.frozen 5
    have f6 := hrb.frozen 6
    have HBR : Hid (Blk _ g 37 _) := hrb
    have HEZ : Hid (Ext w _) := hEW0.trans hE0s
    clear hrb hb4
    go_wp2
    refine bodyPost_ret (results_cell_row_tmpD rfl _ _ g 37 #[.string ⟨#[]⟩, .string ⟨#[]⟩, .string ⟨#[]⟩, .slice none 0 0, .slice none 0 0, .int .i64 0, .slice none 0 0] (0, 0) _ rfl (((((((HBR.out.set_ 0 _).set_ 1 _).set_ 2 _).set_ 3 _).set_ 4 _).set_ 5 _).set_ 6 _) Tryz.underlying37 rfl info_ent7) rfl ?_
    refine ⟨⟨entZ, false, y.p, code0, rfl, HDR.out, HFO.out, entZ_W _⟩, ?_⟩
    iterate 7 refine Ext.set_ ?_ (by show w.heap.size ≤ g; rw [HG.out]; exact Nat.le_refl _) _
    exact HEZ.out
  · have HFV : Hid (FindV (k : Int) = .tuple #[.int .i64 k, .bool true]) := by show FindV _ = _; unfold FindV; rw [if_pos (by omega), decide_eq_true (by omega)]
    rw [HFV.out]
    obtain ⟨hkp, hfo⟩ := findZ_some hz
    have hpe : k < y.es.length := by have h9 : y.p.es.length = y.es.length := List.length_map _; omega
    have hpm : k < y.e.m := by rw [hyW.e.sl.len]; exact hpe
    have hki : (k : Int) < (y.e.m : Int) := by omega
    have hk3 : ws.cell? ⟨gx, 3, none⟩ = some (.slice y.e.A y.e.m y.e.c) := (hbB.below hEs hbB.lt).cell 3
    obtain ⟨eb1, eo1, eA1, _, hcs1⟩ := (hys.e.sl).at_ hpm (by omega)
    obtain ⟨v1, hv1⟩ : ∃ v, v = y.es[k]'hpe := ⟨_, rfl⟩
    have q10 := hcs1 k hpe 0 (by omega)
    have q11 := hcs1 k hpe 1 (by omega)
    have q12 := hcs1 k hpe 2 (by omega)
    have q13 := hcs1 k hpe 3 (by omega)
    have q14 := hcs1 k hpe 4 (by omega)
    have q15 := hcs1 k hpe 5 (by omega)
    have q16 := hcs1 k hpe 6 (by omega)
    simp only [← hv1, entC, List.getElem_cons_zero, List.getElem_cons_succ, Nat.add_zero, ← Nat.add_assoc] at q10 q11 q12 q13 q14 q15 q16
    have Z10 := laters q10
    have Z11 := laters q11
    have Z12 := laters q12
    have Z13 := laters q13
    have Z14 := laters q14
    have Z15 := laters q15
    have Z16 := laters q16
    have HVN1 := Lib.hid hv1
    clear hcs1 q10 q11 q12 q13 q14 q15 q16 hv1
    have HFO : Hid (FindO y.p id v1.p true) := by
      show FindO _ _ _ _
      rw [HVN1.out]
      have h9 : y.p.es[k] = y.es[k].p := List.getElem_map ..
      rw [← h9]
      exact hfo
    have hv1W : EntW ws v1 := by rw [HVN1.out]; exact hys.e.good _ (List.getElem_mem hpe)
    have z0 := Z10 _ (Ext.refl _)
    have z1 := Z11 _ (Ext.refl _)
    have z2 := Z12 _ (Ext.refl _)
    have z3 := Z13 _ (Ext.refl _)
    have z4 := Z14 _ (Ext.refl _)
    have z5 := Z15 _ (Ext.refl _)
    have z6 := Z16 _ (Ext.refl _)
    have hrb := hb4.below hE0s hb4.lt
    have k0 := hrb.cell 0
    have k1 := hrb.cell 1
    have k2 := hrb.cell 2
    have k3 := hrb.cell 3
    have k4 := hrb.cell 4
    have k5 := hrb.cell 5
    have k6 := hrb.cell 6
    have f0 := hrb.frozen 0
    have f1 := hrb.frozen 1
    have f2 := hrb.frozen 2
    have f3 := hrb.frozen 3
    have f4 := hrb.frozen 4
    have f5 := hrb.frozen 5
    have f6 := hrb.frozen 6
    have HBR : Hid (Blk _ g 37 _) := hrb
    have HEZ : Hid (Ext w _) := hEW0.trans hE0s
    clear hrb hb4 Z10 Z11 Z12 Z13 Z14 Z15 Z16 hz hfo hbB
    go_wp2
    refine bodyPost_ret (results_cell_row_tmpD rfl _ _ g 37 #[.string v1.p.id, .string v1.p.src, .string v1.p.tgt, .slice v1.c.A v1.c.m v1.c.c, .slice v1.f.A v1.f.m v1.f.c, .int .i64 v1.p.st, .slice v1.d.A v1.d.m v1.d.c] (0, 0) _ rfl (((((((HBR.out.set_ 0 _).set_ 1 _).set_ 2 _).set_ 3 _).set_ 4 _).set_ 5 _).set_ 6 _) Tryz.underlying37 rfl info_ent7) rfl ?_
    refine ⟨⟨v1, true, y.p, code0, rfl, HDR.out, HFO.out, ?_⟩, ?_⟩
    · iterate 7 refine EntW.kept ?_ (grown_set1 _ _ _) (HYA.out v1 (by rw [HVN1.out]; exact List.getElem_mem _) _ HG1.out)
      exact hv1W
    iterate 7 refine Ext.set_ ?_ (by show w.heap.size ≤ g; rw [HG.out]; exact Nat.le_refl _) _
    exact HEZ.out
end
end Go.Proofs.YtngpajaghadhdaaGreatDoor
