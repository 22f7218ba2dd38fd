/- Find of the program. -/
import Derived.Test.YtngpajaghadhdaaGreatDoorBinFn
import Derived.StillTailTactics
namespace Go.Proofs.YtngpajaghadhdaaGreatDoor
open Go.RowKit
set_option maxRecDepth 100000
attribute [local go_sem] ext_refl_t ext_alloc_t ext_drew_t ext_drewN_t ext_alloc2_t ext_alloc3_t ext_alloc4_t ext_alloc5_t ext_alloc6_t ext_alloc7_t ext_alloc8_t ext_alloc1d_t ext_alloc2d_t ext_alloc3d_t ext_alloc4d_t
/-- What Find returns. -/
def ep0 : Ep := ⟨⟨#[]⟩, ⟨#[]⟩, ⟨#[]⟩, [], [], 0, []⟩
def FindO (y : Cp) (id : ByteArray) (v : Ep) (f : Bool) : Prop := (f = true ∧ v ∈ y.es ∧ v.id = id) ∨ (f = false ∧ v = ep0 ∧ ∀ x ∈ y.es, x.id ≠ id)
def entZ : Ent := ⟨ep0, ⟨none, 0, 0⟩, ⟨none, 0, 0⟩, ⟨none, 0, 0⟩⟩
theorem entZ_W (w : World) : EntW w entZ := ⟨HW.nil_ strF_len, HW.nil_ strF_len, HW.nil_ fdC_len, by show (0 : Nat) ≤ _; omega, by show (0 : Nat) ≤ _; omega, by show (0 : Nat) ≤ _; omega, by show -9223372036854775808 ≤ (0 : Int) ∧ (0 : Int) ≤ _; omega⟩
section
variable {w : World}
set_option maxHeartbeats 12800000 in
theorem bfind_any {A : Option Addr} {m : Nat} (c : Nat) {l : List UInt8} (hs : SlB w A m l) (hmc : m ≤ c) (hmb : m ≤ 1000000000) (id : ByteArray) (hT : Tabs w) :
    Calls Tryz.prog 11 #[.slice A m c, .string id] w fun e w' => (∃ (v : Ent) (f : Bool) (y : Cp) (code : Int), e = .returned (.tuple #[entV v, .bool f]) ∧ DecR l y code ∧ FindO y id v.p f ∧ EntW w' v) ∧ Ext w w' := by
  have HIDV : Hid (∀ y : Cat, catV y = .agg #[.string y.tag, .slice y.c.A y.c.m y.c.c, .slice y.d.A y.d.m y.d.c, .slice y.e.A y.e.m y.e.c]) := fun _ => rfl
  obtain ⟨W0, hW0⟩ : ∃ W0, W0 = (w.alloc (Obj.cells #[.string id] 9)).alloc (Obj.cells #[.string ⟨#[]⟩, .string ⟨#[]⟩, .string ⟨#[]⟩, .slice none 0 0, .slice none 0 0, .int .i64 0, .slice none 0 0] 37) := ⟨_, rfl⟩
  have hb3 : Blk W0 w.heap.size 9 #[.string id] := by rw [hW0]; exact (Blk.new w _ _).alloc _
  have hb4 : Blk W0 (w.heap.size + 1) 37 #[.string ⟨#[]⟩, .string ⟨#[]⟩, .string ⟨#[]⟩, .slice none 0 0, .slice none 0 0, .int .i64 0, .slice none 0 0] := by
    have h9 := Blk.new (w.alloc (Obj.cells #[.string id] 9)) 37 #[.string ⟨#[]⟩, .string ⟨#[]⟩, .string ⟨#[]⟩, .slice none 0 0, .slice none 0 0, .int .i64 0, .slice none 0 0]
    rw [hW0]; simpa using h9
  have hEW0 : Ext w W0 := by rw [hW0]; exact ((Ext.refl w).alloc _).alloc _
  have hdec := bdecode_any c (hs.ext hEW0) hmc hmb (hT.ext hEW0)
  obtain ⟨g, hg⟩ : ∃ g, g = w.heap.size := ⟨_, rfl⟩
  have HG := Lib.hid hg
  go_enter Tryz.func11, Tryz.ntmps11
  go_wp2_with (first
    | (go_at_call 6; refine Hid.out ?_))
  rw [← hW0, ← hg]
  rw [← hg] at hb3 hb4
  refine Hid.mk_ (hdec.mono ?_)
  clear hW0 hg hdec
  rintro e wd ⟨⟨y, code0, rfl, hD, hyW, hyA⟩, hEd⟩
  rw [HIDV.out y]
  have HDR := Lib.hid hD
  have HYA := Lib.hid hyA
  have HG1 : Hid (g + 1 < W0.heap.size) := hb4.lt
  clear hyA
  obtain ⟨wB, hwB⟩ : ∃ wB, wB = wd.alloc (Obj.cells #[.string y.tag, .slice y.c.A y.c.m y.c.c, .slice y.d.A y.d.m y.d.c, .slice y.e.A y.e.m y.e.c] 28) := ⟨_, rfl⟩
  have hbB : Blk wB wd.heap.size 28 #[.string y.tag, .slice y.c.A y.c.m y.c.c, .slice y.d.A y.d.m y.d.c, .slice y.e.A y.e.m y.e.c] := by rw [hwB]; exact Blk.new wd _ _
  have hEB : Ext wd wB := by rw [hwB]; exact (Ext.refl _).alloc _
  obtain ⟨gx, hgx⟩ : ∃ gx, gx = wd.heap.size := ⟨_, rfl⟩
  rw [← hgx] at hbB
  have hE0B := hEd.trans hEB
  rcases hD with ⟨hc0, hyv, hye⟩ | ⟨hc4, hyz, _⟩
  case inr =>
    subst hc4
    have HFO : Hid (FindO y.p id ep0 false) := .inr ⟨rfl, rfl, fun x hx => by rw [hyz] at hx; cases hx⟩
    have hE0d := hEd.alloc (Obj.cells #[.string y.tag, .slice y.c.A y.c.m y.c.c, .slice y.d.A y.d.m y.d.c, .slice y.e.A y.e.m y.e.c] 28)
    clear hyz hbB hgx hwB hEB hE0B
    obtain ⟨code0, hcode0⟩ : ∃ z : Int, z = 4 := ⟨_, rfl⟩
    have HDR : Hid (DecR l y.p code0) := by rw [hcode0]; exact HDR.out
    have hrb := hb4.below hE0d hb4.lt
    have k0 := hrb.cell 0
    have k1 := hrb.cell 1
    have k2 := hrb.cell 2
    have k3 := hrb.cell 3
    have k4 := hrb.cell 4
    have k5 := hrb.cell 5
    have k6 := hrb.cell 6
    have f0 := hrb.frozen 0
    have f1 := hrb.frozen 1
    have f2 := hrb.frozen 2
    have f3 := hrb.frozen 3
    have f4 := hrb.frozen 4
    have f5 := hrb.frozen 5
    have f6 := hrb.frozen 6
    have HBR : Hid (Blk _ (g + 1) 37 _) := hrb
    have HEZ : Hid (Ext w _) := hEW0.trans hE0d
    clear hrb hb4
    go_wp2
    refine bodyPost_ret (results_cell_row_tmpD rfl _ _ (g + 1) 37 #[.string ⟨#[]⟩, .string ⟨#[]⟩, .string ⟨#[]⟩, .slice none 0 0, .slice none 0 0, .int .i64 0, .slice none 0 0] (0, 0) _ rfl (((((((HBR.out.set_ 0 _).set_ 1 _).set_ 2 _).set_ 3 _).set_ 4 _).set_ 5 _).set_ 6 _) Tryz.underlying37 rfl info_ent7) rfl ?_
    refine ⟨⟨entZ, false, y.p, code0, rfl, HDR.out, HFO.out, entZ_W _⟩, ?_⟩
    iterate 7 refine Ext.set_ ?_ (by show w.heap.size ≤ g + 1; rw [HG.out]; omega) _
    exact HEZ.out
  case inl =>
  subst hc0
  have HYV := Lib.hid hyv
  have hym : y.e.m ≤ 1000 := by
    have h1 := (validC_short hyv).es.1
    have h2 := hyW.e.sl.len
    have h3 : y.p.es.length = y.es.length := List.length_map _
    omega
  have HPL : Hid (y.p.es.length = y.e.m) := by show _ = _; rw [hyW.e.sl.len]; exact List.length_map _
  have HPE : Hid (y.p.es = y.es.map Ent.p) := rfl
  clear hyv hye
  have hord := border_any (hyW.ext hEB) hym (validC_nodup HYV.out)
  rw [HIDV.out y] at hord
  go_wp2_with (first
    | (go_at_call 38; refine Hid.out ?_))
  rw [← hwB, ← hgx]
  clear hwB hgx
  refine Hid.mk_ (hord.mono ?_)
  clear hord
  rintro e wo ⟨⟨B, n, d, rfl, hso, hfo⟩, hEo⟩
  obtain ⟨wL, hwL⟩ : ∃ wL, wL = wo.alloc (Obj.cells #[.slice B n d] 63) := ⟨_, rfl⟩
  have hbL : Blk wL wo.heap.size 63 #[.slice B n d] := by rw [hwL]; exact Blk.new wo _ _
  have hEL : Ext wo wL := by rw [hwL]; exact (Ext.refl _).alloc _
  obtain ⟨gl, hgl⟩ : ∃ gl, gl = wo.heap.size := ⟨_, rfl⟩
  rw [← hgl] at hbL
  have HNL : Hid (n = y.e.m) := by show _ = _; rw [hso.len, sortE_len, HPL.out]
  have hn1000 : n ≤ 1000 := by rw [HNL.out]; exact hym
  have hEBL := hEo.trans hEL
  have hE0L := hE0B.trans hEBL
  have hyL := hyW.ext (hEB.trans hEBL)
  have Kx := laters (show wL.cell? ⟨gx, 3, none⟩ = some (.slice y.e.A y.e.m y.e.c) from (hbB.below hEBL hbB.lt).cell 3)
  have Kl := laters (show wL.cell? ⟨gl, 0, none⟩ = some (.slice B n d) from hbL.cell 0)
  have Ki := laters (show wL.cell? ⟨g, 0, none⟩ = some (.string id) from (hb3.below hE0L hb3.lt).cell 0)
  have HSO : Hid (SlC natF 1 wL B n (sortE y.p.es)) := hso.ext hEL
  have hsr := search_any (c := y.e.c) (d := d) hyL.e.sl HSO.out hn1000 (Kx _ (Ext.refl _)) (Kl _ (Ext.refl _)) (Ki _ (Ext.refl _)) _ rfl
  clear hso hfo
  go_wp2_with (first
    | (go_at_call 39; refine Hid.out ?_))
  rw [← hwL, ← hgl]
  clear hwL hgl
  refine Hid.mk_ (hsr.mono ?_)
  clear hsr
  rintro e ws ⟨⟨k, rfl, hBO⟩, hEs⟩
  have hE0s := hE0L.trans hEs
  rw [← HPE.out] at hBO
  have hkn : k ≤ n := by have h9 := hBO.1; rw [← HSO.out.len] at h9; exact h9
  have hfd := hBO.find (validC_nodup HYV.out)
  have Kxs := Kx _ hEs
  have Kls := Kl _ hEs
  have Kis := Ki _ hEs
  have hys := hyL.ext hEs
  have HSS := HSO.out.ext hEs
  by_cases hkq : k = n
  · have HFO : Hid (FindO y.p id ep0 false) := by
      rcases hfd with ⟨h, _⟩ | ⟨h, _⟩
      · exfalso
        rw [← HSO.out.len] at h
        omega
      · exact .inr ⟨rfl, rfl, h⟩
    have hkb : ((k : Int) == (n : Int)) = true := by rw [beq_iff_eq]; omega
    obtain ⟨code0, hcode0⟩ : ∃ z : Int, z = 0 := ⟨_, rfl⟩
    have HDR : Hid (DecR l y.p code0) := by rw [hcode0]; exact HDR.out
    clear hkq hfd hBO hcode0
    go_wp2
    go_quiet (fail)
    have hE0s := hE0s.drewN nq
    have hrb := hb4.below hE0s hb4.lt
    have k0 := hrb.cell 0
    have k1 := hrb.cell 1
    have k2 := hrb.cell 2
    have k3 := hrb.cell 3
    have k4 := hrb.cell 4
    have k5 := hrb.cell 5
    have k6 := hrb.cell 6
    have f0 := hrb.frozen 0
    have f1 := hrb.frozen 1
    have f2 := hrb.frozen 2
    have f3 := hrb.frozen 3
    have f4 := hrb.frozen 4
    have f5 := hrb.frozen 5
    have f6 := hrb.frozen 6
    have HBR : Hid (Blk _ (g + 1) 37 _) := hrb
    have HEZ : Hid (Ext w _) := hEW0.trans hE0s
    clear hrb hb4
    go_wp2
    refine bodyPost_ret (results_cell_row_tmpD rfl _ _ (g + 1) 37 #[.string ⟨#[]⟩, .string ⟨#[]⟩, .string ⟨#[]⟩, .slice none 0 0, .slice none 0 0, .int .i64 0, .slice none 0 0] (0, 0) _ rfl (((((((HBR.out.set_ 0 _).set_ 1 _).set_ 2 _).set_ 3 _).set_ 4 _).set_ 5 _).set_ 6 _) Tryz.underlying37 rfl info_ent7) rfl ?_
    refine ⟨⟨entZ, false, y.p, code0, rfl, HDR.out, HFO.out, entZ_W _⟩, ?_⟩
    iterate 7 refine Ext.set_ ?_ (by show w.heap.size ≤ g + 1; rw [HG.out]; omega) _
    exact HEZ.out
  have hklt : k < n := by omega
  have hks : k < (sortE y.p.es).length := by rw [← HSO.out.len]; exact hklt
  have hkb : ((k : Int) == (n : Int)) = false := by rw [beq_eq_false_iff_ne]; omega
  have hki : (k : Int) < (n : Int) := by omega
  obtain ⟨b, off, e0, hbl, hcs⟩ := HSS.at_ hklt (by omega)
  obtain ⟨p, hp⟩ : ∃ p, p = (sortE y.p.es)[k] := ⟨_, rfl⟩
  have y0 := hcs k hks 0 (by omega)
  simp only [← hp, natF, List.getElem_cons_zero, Nat.mul_one, Nat.add_zero] at y0
  have hpl : p < y.p.es.length := by rw [hp]; exact sortE_lt (List.getElem_mem _)
  have hpm : p < y.e.m := by rw [← HPL.out]; exact hpl
  have hpe : p < y.es.length := by rw [HPE.out, List.length_map] at hpl; exact hpl
  have hpi : (p : Int) < (y.e.m : Int) := by omega
  obtain ⟨eb1, eo1, eA1, _, hcs1⟩ := (hys.e.sl).at_ hpm (by omega)
  obtain ⟨v1, hv1⟩ : ∃ v, v = y.es[p]'hpe := ⟨_, rfl⟩
  have q10 := hcs1 p hpe 0 (by omega)
  have q11 := hcs1 p hpe 1 (by omega)
  have q12 := hcs1 p hpe 2 (by omega)
  have q13 := hcs1 p hpe 3 (by omega)
  have q14 := hcs1 p hpe 4 (by omega)
  have q15 := hcs1 p hpe 5 (by omega)
  have q16 := hcs1 p hpe 6 (by omega)
  simp only [← hv1, entC, List.getElem_cons_zero, List.getElem_cons_succ, Nat.add_zero, ← Nat.add_assoc] at q10 q11 q12 q13 q14 q15 q16
  have Z10 := laters q10
  have Z11 := laters q11
  have Z12 := laters q12
  have Z13 := laters q13
  have Z14 := laters q14
  have Z15 := laters q15
  have Z16 := laters q16
  have HVN1 := Lib.hid hv1
  clear hcs1 q10 q11 q12 q13 q14 q15 q16 hv1
  have HVP : Hid (y.p.es[p] = v1.p) := by show _ = _; rw [HVN1.out]; exact List.getElem_map ..
  have hidk : idAt y.p.es (sortE y.p.es)[k] = v1.p.id := by rw [← hp, idAt_lt hpl, HVP.out]
  have hv1W : EntW ws v1 := by rw [HVN1.out]; exact hys.e.good _ (List.getElem_mem hpe)
  have z0 := Z10 _ (Ext.refl _)
  have z1 := Z11 _ (Ext.refl _)
  have z2 := Z12 _ (Ext.refl _)
  have z3 := Z13 _ (Ext.refl _)
  have z4 := Z14 _ (Ext.refl _)
  have z5 := Z15 _ (Ext.refl _)
  have z6 := Z16 _ (Ext.refl _)
  have Y0L := laters y0
  clear hcs
  have HIK := Lib.hid hidk
  have HFD := Lib.hid hfd
  clear hidk hfd hkq hBO hp
  by_cases hid : v1.p.id = id
  case neg =>
    have hne : (v1.p.id.toList == id.toList) = false := by
      rw [beq_eq_false_iff_ne]
      exact fun hh => hid (toList_inj hh)
    have HFO : Hid (FindO y.p id ep0 false) := by
      rcases HFD.out with ⟨_, h2⟩ | ⟨h, _⟩
      · exact absurd (HIK.out.symm.trans h2) hid
      · exact .inr ⟨rfl, rfl, h⟩
    obtain ⟨code0, hcode0⟩ : ∃ z : Int, z = 0 := ⟨_, rfl⟩
    have HDR : Hid (DecR l y.p code0) := by rw [hcode0]; exact HDR.out
    clear hid hcode0 Z10 Z11 Z12 Z13 Z14 Z15 Z16 Kx Kl Ki Y0L
    go_wp2
    go_quiet (fail)
    have hE0s := hE0s.drewN nq
    have hrb := hb4.below hE0s hb4.lt
    have k0 := hrb.cell 0
    have k1 := hrb.cell 1
    have k2 := hrb.cell 2
    have k3 := hrb.cell 3
    have k4 := hrb.cell 4
    have k5 := hrb.cell 5
    have k6 := hrb.cell 6
    have f0 := hrb.frozen 0
    have f1 := hrb.frozen 1
    have f2 := hrb.frozen 2
    have f3 := hrb.frozen 3
    have f4 := hrb.frozen 4
    have f5 := hrb.frozen 5
    have f6 := hrb.frozen 6
    have HBR : Hid (Blk _ (g + 1) 37 _) := hrb
    have HEZ : Hid (Ext w _) := hEW0.trans hE0s
    clear hrb hb4
    go_wp2
    refine bodyPost_ret (results_cell_row_tmpD rfl _ _ (g + 1) 37 #[.string ⟨#[]⟩, .string ⟨#[]⟩, .string ⟨#[]⟩, .slice none 0 0, .slice none 0 0, .int .i64 0, .slice none 0 0] (0, 0) _ rfl (((((((HBR.out.set_ 0 _).set_ 1 _).set_ 2 _).set_ 3 _).set_ 4 _).set_ 5 _).set_ 6 _) Tryz.underlying37 rfl info_ent7) rfl ?_
    refine ⟨⟨entZ, false, y.p, code0, rfl, HDR.out, HFO.out, entZ_W _⟩, ?_⟩
    iterate 7 refine Ext.set_ ?_ (by show w.heap.size ≤ g + 1; rw [HG.out]; omega) _
    exact HEZ.out
  case pos =>
  have heq : (v1.p.id.toList == id.toList) = true := by rw [hid]; simp
  have HFO : Hid (FindO y.p id v1.p true) := .inl ⟨rfl, by rw [← HVP.out]; exact List.getElem_mem _, hid⟩
  have HZ := Lib.hid (And.intro Z10 (And.intro Z11 (And.intro Z12 (And.intro Z13 (And.intro Z14 (And.intro Z15 Z16))))))
  have HK := Lib.hid (And.intro Kx (And.intro Kl Y0L))
  clear hid Z10 Z11 Z12 Z13 Z14 Z15 Z16 Kx Kl Ki Y0L
  go_wp2
  go_quiet (fail)
  clear Kxs Kls Kis y0 z0 z1 z2 z3 z4 z5 z6
  have hEsn := hEs.drewN nq
  have hErn : Ext ws (ws.drewN nq) := (Ext.refl ws).drewN nq
  have U1 := fun (u : ExtOf (ws.drewN nq)) => HK.out.1 u.val (hEsn.trans u.ext)
  have U2 := fun (u : ExtOf (ws.drewN nq)) => HK.out.2.1 u.val (hEsn.trans u.ext)
  have U3 := fun (u : ExtOf (ws.drewN nq)) => HK.out.2.2 u.val (hErn.trans u.ext)
  have V0 := fun (u : ExtOf (ws.drewN nq)) => HZ.out.1 u.val (hErn.trans u.ext)
  have V1 := fun (u : ExtOf (ws.drewN nq)) => HZ.out.2.1 u.val (hErn.trans u.ext)
  have V2 := fun (u : ExtOf (ws.drewN nq)) => HZ.out.2.2.1 u.val (hErn.trans u.ext)
  have V3 := fun (u : ExtOf (ws.drewN nq)) => HZ.out.2.2.2.1 u.val (hErn.trans u.ext)
  have V4 := fun (u : ExtOf (ws.drewN nq)) => HZ.out.2.2.2.2.1 u.val (hErn.trans u.ext)
  have V5 := fun (u : ExtOf (ws.drewN nq)) => HZ.out.2.2.2.2.2.1 u.val (hErn.trans u.ext)
  have V6 := fun (u : ExtOf (ws.drewN nq)) => HZ.out.2.2.2.2.2.2 u.val (hErn.trans u.ext)
  go_wp2
  refine wp_region_ext_tail 8 (by kernel_rfl) (by kernel_rfl) ?_
  simp only [List.take_succ_cons, List.take_zero, List.drop_succ_cons, List.drop_zero]
  repeat (go_big_quiet_step (fail))
  refine wpQuiet_nil ?_
  rintro w5 ⟨⟨_, h5⟩, rfl⟩
  try dsimp only
  have hE05 := (hE0s.drewN nq).trans h5
  have hv1 := hv1W.ext (hErn.trans h5)
  have hrb := hb4.below hE05 hb4.lt
  have k0 := hrb.cell 0
  have k1 := hrb.cell 1
  have k2 := hrb.cell 2
  have k3 := hrb.cell 3
  have k4 := hrb.cell 4
  have k5 := hrb.cell 5
  have k6 := hrb.cell 6
  have f0 := hrb.frozen 0
  have f1 := hrb.frozen 1
  have f2 := hrb.frozen 2
  have f3 := hrb.frozen 3
  have f4 := hrb.frozen 4
  have f5 := hrb.frozen 5
  have f6 := hrb.frozen 6
  have HBR : Hid (Blk _ (g + 1) 37 _) := hrb
  have HEZ : Hid (Ext w _) := hEW0.trans hE05
  clear hrb hb4 U1 U2 U3 V0 V1 V2 V3 V4 V5 V6
  go_wp2
  refine bodyPost_ret (results_cell_row_tmpD rfl _ _ (g + 1) 37 #[.string v1.p.id, .string v1.p.src, .string v1.p.tgt, .slice v1.c.A v1.c.m v1.c.c, .slice v1.f.A v1.f.m v1.f.c, .int .i64 v1.p.st, .slice v1.d.A v1.d.m v1.d.c] (0, 0) _ rfl (((((((HBR.out.set_ 0 _).set_ 1 _).set_ 2 _).set_ 3 _).set_ 4 _).set_ 5 _).set_ 6 _) Tryz.underlying37 rfl info_ent7) rfl ?_
  refine ⟨⟨v1, true, y.p, 0, rfl, HDR.out, HFO.out, ?_⟩, ?_⟩
  · iterate 7 refine EntW.kept ?_ (grown_set1 _ _ _) (HYA.out v1 (by rw [HVN1.out]; exact List.getElem_mem _) _ HG1.out)
    exact hv1
  iterate 7 refine Ext.set_ ?_ (by show w.heap.size ≤ g + 1; rw [HG.out]; omega) _
  exact HEZ.out
end
end Go.Proofs.YtngpajaghadhdaaGreatDoor
