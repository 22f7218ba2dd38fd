/- Without extracted entries all entries with targets become obsolete, in order; with the entries of the catalog themselves, none of which is obsolete, nothing changes. No condition. -/
import Derived.Test.YtcdpmgdocgddcaaDoorUpB
import Derived.Test.YtcdpmgdocgddcaaDoorUpR
import Derived.ProofKit
import Derived.OpenShut
import Derived.ShutString
import Derived.LaidMore
import Derived.Lay
import Derived.Lib.LaidIn
import Derived.Lib.LaidTab
import Derived.Lib.LaidU8
import Derived.SevenTiedAt
import Derived.Stop.Joined
namespace Go.Proofs.YtcdpmgdocgddcaaDoor
open Go.ChangeShapes Go.WideShapes Go.ChangeAt Go.RowKit
set_option maxRecDepth 100000
attribute [local go_sem] ext_refl_t ext_alloc_t ext_drew_t ext_drewN_t ext_alloc2_t ext_alloc3_t ext_alloc4_t ext_alloc5_t ext_alloc6_t ext_alloc7_t ext_alloc8_t ext_alloc1d_t ext_alloc2d_t ext_alloc3d_t ext_alloc4d_t
def laidL2 : List (String × DataW Unit) := Rows.updateEmptyRow.laid
theorem tabs2 {W : World} (h : laidMetH Tryd.prog laidL2 W) : Tabs W := tabs_of_laid h
theorem wantL_succ {c : List Ep} {q : Nat} (h : q < c.length) : wantL (c.take (q + 1)) = wantL (c.take q) ++ if c[q].tgt.size = 0 then [] else [obsP c[q]] := by
  unfold wantL
  rw [List.take_succ_eq_append_getElem h, List.filter_append, List.map_append]
  congr 1
  by_cases e : c[q].tgt.size = 0
  · rw [if_pos e, List.filter_cons_of_neg (by rw [decide_eq_true e]; decide), List.filter_nil]; rfl
  · rw [if_neg e, List.filter_cons_of_pos (by rw [decide_eq_false e]; rfl), List.filter_nil]; rfl
theorem wantL_len (c : List Ep) : (wantL c).length ≤ c.length := by
  unfold wantL
  rw [List.length_map]
  exact List.length_filter_le _ _
section
variable {w : World}
set_option maxHeartbeats 25600000 in
theorem empty_walk {x : Cat} (hx : CatW w x) (hT : Tabs w) :
    Calls Tryd.prog 6 #[catV x] w fun e w' => e = .returned (.bool true) ∧ Ext w w' := by
  obtain ⟨tag, com, fd, ces, hc, hd, he⟩ := x
  have HX := Lib.hid hx
  have HTT := Lib.hid hT
  have hle2 := hx.e.sl.le
  have HL2 := Lib.hid hx.e.sl.len
  dsimp only at hle2 HL2
  unfold catV
  dsimp only
  have hb := Blk.new w 26 #[.string tag, .slice hc.A hc.m hc.c, .slice hd.A hd.m hd.c, .slice he.A he.m he.c]
  have hE1 : Ext w (w.alloc (Obj.cells #[.string tag, .slice hc.A hc.m hc.c, .slice hd.A hd.m hd.c, .slice he.A he.m he.c] 26)) := (Ext.refl w).alloc _
  obtain ⟨W1, hW1⟩ : ∃ W1, W1 = w.alloc (Obj.cells #[.string tag, .slice hc.A hc.m hc.c, .slice hd.A hd.m hd.c, .slice he.A he.m he.c] 26) := ⟨_, rfl⟩
  rw [← hW1] at hb hE1
  obtain ⟨g, hg⟩ : ∃ g, g = w.heap.size := ⟨_, rfl⟩
  rw [← hg] at hb
  have X0 := laters (show _ = some (.string tag) from hb.cell 0)
  have X1 := laters (show _ = some (.slice hc.A hc.m hc.c) from hb.cell 1)
  have X2 := laters (show _ = some (.slice hd.A hd.m hd.c) from hb.cell 2)
  have X3 := laters (show _ = some (.slice he.A he.m he.c) from hb.cell 3)
  clear hb hx hT
  go_enter Tryd.func6, Tryd.ntmps6
  go_upto_region 1 with fail
  rw [← hW1, ← hg]
  clear hW1 hg
  go_wp2_with (first
    | (go_at_call 8; refine Hid.out ?_))
  refine Hid.mk_ (((awake47_any (HTT.out.ext hE1))).mono ?_)
  rintro e w2 ⟨rfl, hE2⟩
  have hE02 := hE1.trans hE2
  have hfw := few47_any (h := ⟨none, 0, 0⟩) (HX.out.ext hE02) (es := []) (HW.nil_ entC_len)
  unfold catV at hfw
  dsimp only at hfw
  go_wp2_with (first
    | (go_at_call 9; refine Hid.out ?_))
  refine Hid.mk_ ((hfw).mono ?_)
  rintro e w3 ⟨rfl, hE3⟩
  have hE13 := hE2.trans hE3
  have hE03 := hE02.trans hE3
  clear hfw hE2 hE3 hE02
  cases hf1 : few47 (Cat.p ⟨tag, com, fd, ces, hc, hd, he⟩) (List.map Ent.p []) with
  | false =>
    clear hf1
    go_wp2
    go_ret
    exact ⟨rfl, hE03⟩
  | true =>
  have HFW := Lib.hid (few47_parts hf1)
  have hn8 : he.m ≤ 8 := by have h1 := HFW.out.1; have h2 := HL2.out; rw [show (Cat.p ⟨tag, com, fd, ces, hc, hd, he⟩).es = ces.map Ent.p from rfl, List.length_map] at h1; omega
  clear hf1
  have HSR : Hid (∀ y ∈ ces, y.p.src.size ≤ 1000000) := fun y hy => Nat.le_trans (HFW.out.2.2.1 y.p (List.mem_map_of_mem hy)) (by omega)
  have hvl := rvalid_any (HX.out.ext hE03)
  unfold catV at hvl
  dsimp only at hvl
  go_wp2_with (first
    | (go_at_call 13; refine Hid.out ?_))
  refine Hid.mk_ ((hvl).mono ?_)
  rintro e w3b ⟨rfl, hE3b⟩
  have hE13 := hE13.trans hE3b
  have hE03 := hE03.trans hE3b
  clear hvl hE3b
  cases hv : validC (Cat.p ⟨tag, com, fd, ces, hc, hd, he⟩) with
  | false =>
    clear hv
    go_wp2
    go_ret
    exact ⟨rfl, hE03⟩
  | true =>
  have HV := Lib.hid hv
  clear hv
  have hup := update_any (h := ⟨none, 0, 0⟩) (es := []) (HX.out.ext hE03) (HW.nil_ entC_len) (HTT.out.ext hE03) HSR.out (fun y hy => by cases hy)
  unfold catV at hup
  dsimp only at hup
  go_wp2_with (first
    | (go_at_call 10; refine Hid.out ?_))
  refine Hid.mk_ ((hup).mono ?_)
  rintro e w4 ⟨⟨atag, acom, afd, aes, ahc, ahd, ahe⟩, R, r, k, rfl, hupd, hW4, hR4, hE4⟩
  clear hup hR4
  unfold catV repA
  dsimp only
  obtain ⟨r0, hr0⟩ := upd_nil HV.out
  have hk : k = 0 := congrArg (·.2.2) (hupd.trans hr0)
  subst hk
  have HAW : Hid (aes.map Ent.p = wantL (ces.map Ent.p)) := by have h9 := congrArg (fun t => t.1.es) (hupd.trans hr0); exact h9
  have HW4 := Lib.hid hW4
  have hbA := (Blk.new w4 26 #[.string atag, .slice ahc.A ahc.m ahc.c, .slice ahd.A ahd.m ahd.c, .slice ahe.A ahe.m ahe.c]).alloc (Obj.cells #[.slice (R 0).A (R 0).m (R 0).c, .slice (R 1).A (R 1).m (R 1).c, .slice (R 2).A (R 2).m (R 2).c, .slice (R 3).A (R 3).m (R 3).c, .slice (R 4).A (R 4).m (R 4).c, .slice (R 5).A (R 5).m (R 5).c, .slice (R 6).A (R 6).m (R 6).c] 30)
  obtain ⟨W5, hW5⟩ : ∃ W5, W5 = (w4.alloc (Obj.cells #[.string atag, .slice ahc.A ahc.m ahc.c, .slice ahd.A ahd.m ahd.c, .slice ahe.A ahe.m ahe.c] 26)).alloc (Obj.cells #[.slice (R 0).A (R 0).m (R 0).c, .slice (R 1).A (R 1).m (R 1).c, .slice (R 2).A (R 2).m (R 2).c, .slice (R 3).A (R 3).m (R 3).c, .slice (R 4).A (R 4).m (R 4).c, .slice (R 5).A (R 5).m (R 5).c, .slice (R 6).A (R 6).m (R 6).c] 30) := ⟨_, rfl⟩
  rw [← hW5] at hbA
  have hE45 : Ext w4 W5 := by rw [hW5]; exact ((Ext.refl _).alloc _).alloc _
  obtain ⟨g5, hg5⟩ : ∃ g5, g5 = w4.heap.size := ⟨_, rfl⟩
  rw [← hg5] at hbA
  have A3 := laters (show W5.cell? ⟨g5, 3, none⟩ = some (.slice ahe.A ahe.m ahe.c) from hbA.cell 3)
  go_upto_region 6 with fail
  rw [← hW5, ← hg5]
  have HE35 := Lib.hid (hE4.trans hE45)
  have HE15 := Lib.hid (hE13.trans HE35.out)
  have HE05 := Lib.hid (hE03.trans HE35.out)
  have HE45 := Lib.hid hE45
  clear hbA hupd hr0 hW4 hE45 hE4 hE13 hE03 hE1 hW5 hg5
  go_wp2
  go_loopw [8, 6, 7] (fun v o t wr => ∃ q : Nat, q ≤ he.m ∧ v = .int .i64 q ∧ ∃ (hw : SlH) (L : List Ent), o = .slice hw.A hw.m hw.c ∧ ∃ b : Bool, t = .bool b ∧ Hid (OsC entC 35 7 wr W5.heap.size hw.A hw.m hw.c L ∧ L.map Ent.p = wantL ((ces.map Ent.p).take q) ∧ (∀ z ∈ L, EntW w z) ∧ b = ((ces.map Ent.p).take q).any fun y => decide (y.st = 4)) ∧ Hid (Ext W5 wr)) (fun v _ _ _ => he.m - (intOf v).toNat)
  case atStart => exact ⟨0, Nat.zero_le _, rfl, ⟨none, 0, 0⟩, [], rfl, false, rfl, ⟨OsC.nil_ entC_len entC_cell, rfl, fun _ e => (by cases e), rfl⟩, Ext.refl _⟩
  case round =>
    obtain ⟨q, hq, rfl, hw, L, rfl, b, rfl, HO, HER⟩ := hrel
    have hER := HER.out
    have HE1R := Lib.hid (HE15.out.trans hER)
    by_cases hlt : q < he.m
    · have hskip : True := trivial
      --S[ l1
      have hm8 : hw.m ≤ 8 := by
        have h1 := HO.out.1.len
        have h2 := congrArg List.length HO.out.2.1
        have h3 := wantL_len ((ces.map Ent.p).take q)
        rw [List.length_map] at h2
        rw [List.length_take] at h3
        omega
      obtain ⟨xzb, xzo, hzA, -, hcs⟩ := ((HX.out.ext (HE05.out.trans hER)).e).sl.at_ hlt (by omega)
      have HxzA := Lib.hid hzA
      clear hzA
      have xzlt : q < (ces).length := by rw [← (HL2).out]; exact hlt
      obtain ⟨y, hyq⟩ : ∃ y, y = (ces)[q] := ⟨_, rfl⟩
      have y0 := hcs q xzlt 0 (by omega)
      have y1 := hcs q xzlt 1 (by omega)
      have y2 := hcs q xzlt 2 (by omega)
      have y3 := hcs q xzlt 3 (by omega)
      have y4 := hcs q xzlt 4 (by omega)
      have y5 := hcs q xzlt 5 (by omega)
      have y6 := hcs q xzlt 6 (by omega)
      simp only [← hyq, entC, List.getElem_cons_zero, List.getElem_cons_succ, Nat.add_zero, ← Nat.add_assoc] at y0 y1 y2 y3 y4 y5 y6
      have HxzM : Hid (y ∈ ces) := by show _ ∈ _; rw [hyq]; exact List.getElem_mem xzlt
      have HxzW : Hid (EntW wr y) := ((HX.out.ext (HE05.out.trans hER)).e).good y HxzM.out
      have HxzQ : Hid ((ces)[q]? = some y) := by show _ = _; rw [List.getElem?_eq_getElem xzlt, hyq]
      have xzi : (q : Int) < (he.m : Int) := by omega
      clear hcs hyq
      obtain ⟨⟨xid, xsrc, xtgt, xcom, xfl, xst, xfd⟩, xhc, xhf, xhd⟩ := y
      dsimp only at y0 y1 y2 y3 y4 y5 y6
      have hbY := Blk.new wr 35 #[.string xid, .string xsrc, .string xtgt, .slice xhc.A xhc.m xhc.c, .slice xhf.A xhf.m xhf.c, .int .i64 xst, .slice xhd.A xhd.m xhd.c]
      obtain ⟨W6, hW6⟩ : ∃ W : World, W = wr.alloc (Obj.cells #[.string xid, .string xsrc, .string xtgt, .slice xhc.A xhc.m xhc.c, .slice xhf.A xhf.m xhf.c, .int .i64 xst, .slice xhd.A xhd.m xhd.c] 35) := ⟨_, rfl⟩
      rw [← hW6] at hbY
      have hEW6 : Ext wr W6 := by rw [hW6]; exact (Ext.refl _).alloc _
      obtain ⟨g9, hg9⟩ : ∃ n, n = wr.heap.size := ⟨_, rfl⟩
      rw [← hg9] at hbY
      have Yx0 := laters (show _ = some (.string xid) from hbY.cell 0)
      have Yx1 := laters (show _ = some (.string xsrc) from hbY.cell 1)
      have Yx2 := laters (show _ = some (.string xtgt) from hbY.cell 2)
      have Yx3 := laters (show _ = some (.slice xhc.A xhc.m xhc.c) from hbY.cell 3)
      have Yx4 := laters (show _ = some (.slice xhf.A xhf.m xhf.c) from hbY.cell 4)
      have Yx5 := laters (show _ = some (.int .i64 xst) from hbY.cell 5)
      have Yx6 := laters (show _ = some (.slice xhd.A xhd.m xhd.c) from hbY.cell 6)
      clear hbY
      have hb6 : Blk W6 g9 35 #[.string xid, .string xsrc, .string xtgt, .slice xhc.A xhc.m xhc.c, .slice xhf.A xhf.m xhf.c, .int .i64 xst, .slice xhd.A xhd.m xhd.c] := by rw [hW6, hg9]; exact Blk.new wr _ _
      have X3r := X3 wr HE1R.out
      rw [show he.A = some ⟨xzb, xzo, none⟩ from HxzA.out] at X3r
      have hql : q < (ces.map Ent.p).length := by rw [List.length_map]; exact xzlt
      have hgt : (ces.map Ent.p)[q] = ⟨xid, xsrc, xtgt, xcom, xfl, xst, xfd⟩ := by rw [List.getElem_map, (List.getElem?_eq_some_iff.1 HxzQ.out).2]
      have HWS : Hid (wantL ((ces.map Ent.p).take (q + 1)) = wantL ((ces.map Ent.p).take q) ++ if xtgt.size = 0 then [] else [obsP ⟨xid, xsrc, xtgt, xcom, xfl, xst, xfd⟩]) := by
        show _ = _
        rw [wantL_succ hql, hgt]
      have HTS : Hid ((((ces.map Ent.p).take (q + 1)).any fun y => decide (y.st = 4)) = (b || decide (xst = 4))) := by
        show _ = _
        rw [List.take_succ_eq_append_getElem hql, List.any_append, hgt, HO.out.2.2.2]
        simp
      have HXW : Hid (EntW w ⟨⟨xid, xsrc, xtgt, xcom, xfl, 4, xfd⟩, xhc, xhf, xhd⟩) := by
        have h1 := HX.out.e.good _ HxzM.out
        exact ⟨h1.c, h1.f, h1.d, h1.id, h1.src, h1.tgt, by show -9223372036854775808 ≤ (4 : Int) ∧ (4 : Int) ≤ _; omega⟩
      have hne : ob hw.A = none ∨ ob hw.A ≠ some g9 := by
        cases hA : ob hw.A with
        | none => exact .inl rfl
        | some j => exact .inr (fun e => by injection e with e; have h1 := HO.out.1.lt j hA; omega)
      have hg95 : W5.heap.size ≤ g9 := by rw [hg9]; exact hER.size_le
      obtain ⟨W7, hW7⟩ : ∃ W7, W7 = W6.setCell ⟨g9, 5, none⟩ (.int .i64 4) := ⟨_, rfl⟩
      have HBS : Hid (Blk W7 g9 35 #[.string xid, .string xsrc, .string xtgt, .slice xhc.A xhc.m xhc.c, .slice xhf.A xhf.m xhf.c, .int .i64 4, .slice xhd.A xhd.m xhd.c]) := by show Blk _ _ _ _; rw [hW7]; exact hb6.set_ 5 (.int .i64 4)
      have HO7 : Hid (OsC entC 35 7 W7 W5.heap.size hw.A hw.m hw.c L) := by
        show OsC _ _ _ _ _ _ _ _ _
        rw [hW7]
        exact (HO.out.1.ext hEW6).kept (grown_set W6 ⟨g9, 5, none⟩ (.int .i64 4)) hne
      have HE7 : Hid (Ext W5 W7) := by show Ext _ _; rw [hW7]; exact (hER.trans hEW6).set_ (p := ⟨g9, 5, none⟩) hg95 _
      have c5 : W6.cell? ⟨g9, 5, none⟩ = some (.int .i64 xst) := hb6.cell 5
      have f5 := hb6.frozen 5
      have HN7 : Hid (L.map Ent.p = wantL ((ces.map Ent.p).take q) ∧ ∀ z ∈ L, EntW w z) := ⟨HO.out.2.1, HO.out.2.2.1⟩
      clear hER hql hgt hne hg95 hb6
      go_upto_region 12 with fail
      rw [← hW6, ← hg9]
      clear hW6 hg9 y0 y1 y2 y3 y4 y5 y6 X3r HO
      have hE66 := Ext.refl W6
      cases b with
      | true =>
        have HB2 : Hid (true = ((ces.map Ent.p).take (q + 1)).any fun y => decide (y.st = 4)) := by show _ = _; rw [HTS.out]; rfl
        go_upto_region 14 with fail
        rw [← hW7]
        clear hW7 c5 f5 hE66
        by_cases ht : xtgt.size = 0
        · have ht1 : xtgt.toList.isEmpty = true := by rw [isEmpty_size, ht]; rfl
          have HW2 : Hid (L.map Ent.p = wantL ((ces.map Ent.p).take (q + 1))) := by show _ = _; rw [HWS.out, if_pos ht, List.append_nil]; exact HN7.out.1
          have n2 : W7.cell? ⟨g9, 2, none⟩ = some (.string xtgt) := HBS.out.cell 2
          clear ht
          go_wp2
          go_roundw
          case rel => exact ⟨q + 1, by omega, by go_num, hw, L, rfl, true, rfl, ⟨HO7.out, HW2.out, HN7.out.2, HB2.out⟩, HE7.out⟩
          case measure => simp [intOf]; omega
        · have ht1 : xtgt.toList.isEmpty = false := by rw [isEmpty_size]; exact decide_eq_false ht
          have HW2 : Hid ((L ++ [(⟨⟨xid, xsrc, xtgt, xcom, xfl, 4, xfd⟩, xhc, xhf, xhd⟩ : Ent)]).map Ent.p = wantL ((ces.map Ent.p).take (q + 1))) := by show _ = _; rw [HWS.out, if_neg ht, List.map_append, HN7.out.1]; rfl
          have HEL : Hid (∀ z ∈ L ++ [(⟨⟨xid, xsrc, xtgt, xcom, xfl, 4, xfd⟩, xhc, xhf, xhd⟩ : Ent)], EntW w z) := fun z hz => by
            rcases List.mem_append.1 hz with hz | hz
            · exact HN7.out.2 z hz
            · obtain rfl := List.mem_singleton.1 hz
              exact HXW.out
          clear ht
          have n0 : W7.cell? ⟨g9, 0, none⟩ = some (.string xid) := HBS.out.cell 0
          have n1 : W7.cell? ⟨g9, 1, none⟩ = some (.string xsrc) := HBS.out.cell 1
          have n2 : W7.cell? ⟨g9, 2, none⟩ = some (.string xtgt) := HBS.out.cell 2
          have n3 : W7.cell? ⟨g9, 3, none⟩ = some (.slice xhc.A xhc.m xhc.c) := HBS.out.cell 3
          have n4 : W7.cell? ⟨g9, 4, none⟩ = some (.slice xhf.A xhf.m xhf.c) := HBS.out.cell 4
          have n5 : W7.cell? ⟨g9, 5, none⟩ = some (.int .i64 4) := HBS.out.cell 5
          have n6 : W7.cell? ⟨g9, 6, none⟩ = some (.slice xhd.A xhd.m xhd.c) := HBS.out.cell 6
          have hEal : Ext W7 (W7.alloc (Obj.cells #[.string xid, .string xsrc, .string xtgt, .slice xhc.A xhc.m xhc.c, .slice xhf.A xhf.m xhf.c, .int .i64 4, .slice xhd.A xhd.m xhd.c] 35)) := (Ext.refl _).alloc _
          have hsz : SlC entC 7 (W7.alloc (Obj.cells #[.string xid, .string xsrc, .string xtgt, .slice xhc.A xhc.m xhc.c, .slice xhf.A xhf.m xhf.c, .int .i64 4, .slice xhd.A xhd.m xhd.c] 35)) (some ⟨W7.heap.size, 0, none⟩) 1 [(⟨⟨xid, xsrc, xtgt, xcom, xfl, 4, xfd⟩, xhc, xhf, xhd⟩ : Ent)] := SlC.new_ W7 [(⟨⟨xid, xsrc, xtgt, xcom, xfl, 4, xfd⟩, xhc, xhf, xhd⟩ : Ent)] entC_len (by simp) #[.string xid, .string xsrc, .string xtgt, .slice xhc.A xhc.m xhc.c, .slice xhf.A xhf.m xhf.c, .int .i64 4, .slice xhd.A xhd.m xhd.c] rfl (0, 0) 1 rfl _
          go_wp2_with (first
            | (at_builtin; refine Hid.out ?_))
          refine Hid.mk_ ?_
          refine appC einfo_ent rfl _ _ rfl (HO7.out.ext hEal) rfl hsz rfl (by omega) (Nat.le_trans HE7.out.size_le hEal.size_le) ?_
          intro A9 m9 c9 w9 ho9 hg9 hN9
          have HO9 := Lib.hid ho9
          have HE9 : Hid (Ext W5 w9) := (HE7.out.trans hEal).grown hg9 fun j hj => HO7.out.ge j hj
          clear n0 n1 n2 n3 n4 n5 n6 hEal hsz ho9 hg9 hN9
          go_wp2
          go_roundw
          case rel => exact ⟨q + 1, by omega, by go_num, ⟨A9, m9, c9⟩, _, rfl, true, rfl, ⟨HO9.out, HW2.out, HEL.out, HB2.out⟩, HE9.out⟩
          case measure => simp [intOf]; omega
      | false =>
        by_cases h4 : xst = 4
        · have e4 : (xst == 4) = true := by rw [h4]; rfl
          have HB2 : Hid (true = ((ces.map Ent.p).take (q + 1)).any fun y => decide (y.st = 4)) := by show _ = _; rw [HTS.out, decide_eq_true h4]; rfl
          clear h4
          go_upto_region 14 with fail
          rw [← hW7]
          clear hW7 c5 f5 hE66
          by_cases ht : xtgt.size = 0
          · have ht1 : xtgt.toList.isEmpty = true := by rw [isEmpty_size, ht]; rfl
            have HW2 : Hid (L.map Ent.p = wantL ((ces.map Ent.p).take (q + 1))) := by show _ = _; rw [HWS.out, if_pos ht, List.append_nil]; exact HN7.out.1
            have n2 : W7.cell? ⟨g9, 2, none⟩ = some (.string xtgt) := HBS.out.cell 2
            clear ht
            go_wp2
            go_roundw
            case rel => exact ⟨q + 1, by omega, by go_num, hw, L, rfl, true, rfl, ⟨HO7.out, HW2.out, HN7.out.2, HB2.out⟩, HE7.out⟩
            case measure => simp [intOf]; omega
          · have ht1 : xtgt.toList.isEmpty = false := by rw [isEmpty_size]; exact decide_eq_false ht
            have HW2 : Hid ((L ++ [(⟨⟨xid, xsrc, xtgt, xcom, xfl, 4, xfd⟩, xhc, xhf, xhd⟩ : Ent)]).map Ent.p = wantL ((ces.map Ent.p).take (q + 1))) := by show _ = _; rw [HWS.out, if_neg ht, List.map_append, HN7.out.1]; rfl
            have HEL : Hid (∀ z ∈ L ++ [(⟨⟨xid, xsrc, xtgt, xcom, xfl, 4, xfd⟩, xhc, xhf, xhd⟩ : Ent)], EntW w z) := fun z hz => by
              rcases List.mem_append.1 hz with hz | hz
              · exact HN7.out.2 z hz
              · obtain rfl := List.mem_singleton.1 hz
                exact HXW.out
            clear ht
            have n0 : W7.cell? ⟨g9, 0, none⟩ = some (.string xid) := HBS.out.cell 0
            have n1 : W7.cell? ⟨g9, 1, none⟩ = some (.string xsrc) := HBS.out.cell 1
            have n2 : W7.cell? ⟨g9, 2, none⟩ = some (.string xtgt) := HBS.out.cell 2
            have n3 : W7.cell? ⟨g9, 3, none⟩ = some (.slice xhc.A xhc.m xhc.c) := HBS.out.cell 3
            have n4 : W7.cell? ⟨g9, 4, none⟩ = some (.slice xhf.A xhf.m xhf.c) := HBS.out.cell 4
            have n5 : W7.cell? ⟨g9, 5, none⟩ = some (.int .i64 4) := HBS.out.cell 5
            have n6 : W7.cell? ⟨g9, 6, none⟩ = some (.slice xhd.A xhd.m xhd.c) := HBS.out.cell 6
            have hEal : Ext W7 (W7.alloc (Obj.cells #[.string xid, .string xsrc, .string xtgt, .slice xhc.A xhc.m xhc.c, .slice xhf.A xhf.m xhf.c, .int .i64 4, .slice xhd.A xhd.m xhd.c] 35)) := (Ext.refl _).alloc _
            have hsz : SlC entC 7 (W7.alloc (Obj.cells #[.string xid, .string xsrc, .string xtgt, .slice xhc.A xhc.m xhc.c, .slice xhf.A xhf.m xhf.c, .int .i64 4, .slice xhd.A xhd.m xhd.c] 35)) (some ⟨W7.heap.size, 0, none⟩) 1 [(⟨⟨xid, xsrc, xtgt, xcom, xfl, 4, xfd⟩, xhc, xhf, xhd⟩ : Ent)] := SlC.new_ W7 [(⟨⟨xid, xsrc, xtgt, xcom, xfl, 4, xfd⟩, xhc, xhf, xhd⟩ : Ent)] entC_len (by simp) #[.string xid, .string xsrc, .string xtgt, .slice xhc.A xhc.m xhc.c, .slice xhf.A xhf.m xhf.c, .int .i64 4, .slice xhd.A xhd.m xhd.c] rfl (0, 0) 1 rfl _
            go_wp2_with (first
              | (at_builtin; refine Hid.out ?_))
            refine Hid.mk_ ?_
            refine appC einfo_ent rfl _ _ rfl (HO7.out.ext hEal) rfl hsz rfl (by omega) (Nat.le_trans HE7.out.size_le hEal.size_le) ?_
            intro A9 m9 c9 w9 ho9 hg9 hN9
            have HO9 := Lib.hid ho9
            have HE9 : Hid (Ext W5 w9) := (HE7.out.trans hEal).grown hg9 fun j hj => HO7.out.ge j hj
            clear n0 n1 n2 n3 n4 n5 n6 hEal hsz ho9 hg9 hN9
            go_wp2
            go_roundw
            case rel => exact ⟨q + 1, by omega, by go_num, ⟨A9, m9, c9⟩, _, rfl, true, rfl, ⟨HO9.out, HW2.out, HEL.out, HB2.out⟩, HE9.out⟩
            case measure => simp [intOf]; omega
        · have e4 : (xst == 4) = false := by rw [beq_eq_false_iff_ne]; exact h4
          have HB2 : Hid (false = ((ces.map Ent.p).take (q + 1)).any fun y => decide (y.st = 4)) := by show _ = _; rw [HTS.out, decide_eq_false h4]; rfl
          clear h4
          go_upto_region 14 with fail
          rw [← hW7]
          clear hW7 c5 f5 hE66
          by_cases ht : xtgt.size = 0
          · have ht1 : xtgt.toList.isEmpty = true := by rw [isEmpty_size, ht]; rfl
            have HW2 : Hid (L.map Ent.p = wantL ((ces.map Ent.p).take (q + 1))) := by show _ = _; rw [HWS.out, if_pos ht, List.append_nil]; exact HN7.out.1
            have n2 : W7.cell? ⟨g9, 2, none⟩ = some (.string xtgt) := HBS.out.cell 2
            clear ht
            go_wp2
            go_roundw
            case rel => exact ⟨q + 1, by omega, by go_num, hw, L, rfl, false, rfl, ⟨HO7.out, HW2.out, HN7.out.2, HB2.out⟩, HE7.out⟩
            case measure => simp [intOf]; omega
          · have ht1 : xtgt.toList.isEmpty = false := by rw [isEmpty_size]; exact decide_eq_false ht
            have HW2 : Hid ((L ++ [(⟨⟨xid, xsrc, xtgt, xcom, xfl, 4, xfd⟩, xhc, xhf, xhd⟩ : Ent)]).map Ent.p = wantL ((ces.map Ent.p).take (q + 1))) := by show _ = _; rw [HWS.out, if_neg ht, List.map_append, HN7.out.1]; rfl
            have HEL : Hid (∀ z ∈ L ++ [(⟨⟨xid, xsrc, xtgt, xcom, xfl, 4, xfd⟩, xhc, xhf, xhd⟩ : Ent)], EntW w z) := fun z hz => by
              rcases List.mem_append.1 hz with hz | hz
              · exact HN7.out.2 z hz
              · obtain rfl := List.mem_singleton.1 hz
                exact HXW.out
            clear ht
            have n0 : W7.cell? ⟨g9, 0, none⟩ = some (.string xid) := HBS.out.cell 0
            have n1 : W7.cell? ⟨g9, 1, none⟩ = some (.string xsrc) := HBS.out.cell 1
            have n2 : W7.cell? ⟨g9, 2, none⟩ = some (.string xtgt) := HBS.out.cell 2
            have n3 : W7.cell? ⟨g9, 3, none⟩ = some (.slice xhc.A xhc.m xhc.c) := HBS.out.cell 3
            have n4 : W7.cell? ⟨g9, 4, none⟩ = some (.slice xhf.A xhf.m xhf.c) := HBS.out.cell 4
            have n5 : W7.cell? ⟨g9, 5, none⟩ = some (.int .i64 4) := HBS.out.cell 5
            have n6 : W7.cell? ⟨g9, 6, none⟩ = some (.slice xhd.A xhd.m xhd.c) := HBS.out.cell 6
            have hEal : Ext W7 (W7.alloc (Obj.cells #[.string xid, .string xsrc, .string xtgt, .slice xhc.A xhc.m xhc.c, .slice xhf.A xhf.m xhf.c, .int .i64 4, .slice xhd.A xhd.m xhd.c] 35)) := (Ext.refl _).alloc _
            have hsz : SlC entC 7 (W7.alloc (Obj.cells #[.string xid, .string xsrc, .string xtgt, .slice xhc.A xhc.m xhc.c, .slice xhf.A xhf.m xhf.c, .int .i64 4, .slice xhd.A xhd.m xhd.c] 35)) (some ⟨W7.heap.size, 0, none⟩) 1 [(⟨⟨xid, xsrc, xtgt, xcom, xfl, 4, xfd⟩, xhc, xhf, xhd⟩ : Ent)] := SlC.new_ W7 [(⟨⟨xid, xsrc, xtgt, xcom, xfl, 4, xfd⟩, xhc, xhf, xhd⟩ : Ent)] entC_len (by simp) #[.string xid, .string xsrc, .string xtgt, .slice xhc.A xhc.m xhc.c, .slice xhf.A xhf.m xhf.c, .int .i64 4, .slice xhd.A xhd.m xhd.c] rfl (0, 0) 1 rfl _
            go_wp2_with (first
              | (at_builtin; refine Hid.out ?_))
            refine Hid.mk_ ?_
            refine appC einfo_ent rfl _ _ rfl (HO7.out.ext hEal) rfl hsz rfl (by omega) (Nat.le_trans HE7.out.size_le hEal.size_le) ?_
            intro A9 m9 c9 w9 ho9 hg9 hN9
            have HO9 := Lib.hid ho9
            have HE9 : Hid (Ext W5 w9) := (HE7.out.trans hEal).grown hg9 fun j hj => HO7.out.ge j hj
            clear n0 n1 n2 n3 n4 n5 n6 hEal hsz ho9 hg9 hN9
            go_wp2
            go_roundw
            case rel => exact ⟨q + 1, by omega, by go_num, ⟨A9, m9, c9⟩, _, rfl, false, rfl, ⟨HO9.out, HW2.out, HEL.out, HB2.out⟩, HE9.out⟩
            case measure => simp [intOf]; omega
      --S]
    · have hi1 : ¬ (q : Int) < (he.m : Int) := by omega
      have htk : (ces.map Ent.p).take q = ces.map Ent.p := List.take_of_length_le (by rw [List.length_map]; have := HL2.out; omega)
      have HO2 := HO.out
      rw [htk] at HO2
      have HOO := Lib.hid HO2
      clear HO2 HO htk
      obtain ⟨w6, rfl⟩ : ∃ w6 : World, w6 = wr := ⟨_, rfl⟩
      have HE06 := Lib.hid (HE05.out.trans hER)
      have HWW : Hid (EntsW w6 hw L) := by
        have h1 := HOO.out.1.len
        have h2 := congrArg List.length HOO.out.2.1
        have h3 := wantL_len (ces.map Ent.p)
        rw [List.length_map] at h2 h3
        have h4 := HL2.out
        exact ⟨HOO.out.1.sl, HOO.out.1.cap, by show hw.m * 128 ≤ _; omega, fun z hz => (HOO.out.2.2.1 z hz).ext HE06.out⟩
      have hse := rsameEs_any (EntsW.ext HW4.out.e (HE45.out.trans hER)) HWW.out
      dsimp only at hse
      rw [decide_eq_true (show aes.map Ent.p = L.map Ent.p by rw [HAW.out, HOO.out.2.1])] at hse
      have hE1r := HE1R.out
      go_wp2_with (first
        | (go_at_call 18; refine Hid.out ?_))
      refine Hid.mk_ ((hse).mono ?_)
      rintro e w7 ⟨rfl, hE67⟩
      have HE07 := Lib.hid (HE06.out.trans hE67)
      have hE17 := hE1r.trans hE67
      clear hse hE67 hER hE1r
      have hup := update_any (HX.out.ext HE07.out) (HX.out.ext HE07.out).e (HTT.out.ext HE07.out) HSR.out HSR.out
      unfold catV at hup
      dsimp only at hup
      go_wp2_with (first
        | (go_at_call 10; refine Hid.out ?_))
      refine Hid.mk_ ((hup).mono ?_)
      rintro e w8 ⟨⟨btag, bcom, bfd, bes, bhc, bhd, bhe⟩, R2, r2, k2, rfl, hupd, hW8, hR8, hE8⟩
      clear hup
      unfold catV repA
      dsimp only
      have hE18 := hE17.trans hE8
      have HE08 := Lib.hid (HE07.out.trans hE8)
      have HW8 := Lib.hid hW8
      obtain ⟨ba, br, bn, hu, hn1, hn2⟩ := upd_self HV.out
      have hupd2 := hupd.trans hu
      have HKN : Hid (k2 = bn) := by have h9 := congrArg (fun t => t.2.2) hupd2; exact h9
      have HBP : Hid (Cat.p ⟨btag, bcom, bfd, bes, bhc, bhd, bhe⟩ = ba) := by have h9 := congrArg Prod.fst hupd2; exact h9
      have HBR : Hid ((R2 0).m = br.kept.length) := by
        show _ = _
        rw [(hR8 0 (by omega)).1.len]
        exact congrArg (fun t => t.2.1.kept.length) hupd2
      have HN1 := Lib.hid hn1
      have HN2 := Lib.hid hn2
      have htn := taken_any (EntsW.ext HX.out.e ((HE08.out.alloc (Obj.cells #[.string btag, .slice bhc.A bhc.m bhc.c, .slice bhd.A bhd.m bhd.c, .slice bhe.A bhe.m bhe.c] 26)).alloc (Obj.cells #[.slice (R2 0).A (R2 0).m (R2 0).c, .slice (R2 1).A (R2 1).m (R2 1).c, .slice (R2 2).A (R2 2).m (R2 2).c, .slice (R2 3).A (R2 3).m (R2 3).c, .slice (R2 4).A (R2 4).m (R2 4).c, .slice (R2 5).A (R2 5).m (R2 5).c, .slice (R2 6).A (R2 6).m (R2 6).c] 30)))
      dsimp only at htn
      clear hupd hW8 hR8 hE8 hu hupd2 hn1 hn2 hE17
      have hbB := (Blk.new w8 26 #[.string btag, .slice bhc.A bhc.m bhc.c, .slice bhd.A bhd.m bhd.c, .slice bhe.A bhe.m bhe.c]).alloc (Obj.cells #[.slice (R2 0).A (R2 0).m (R2 0).c, .slice (R2 1).A (R2 1).m (R2 1).c, .slice (R2 2).A (R2 2).m (R2 2).c, .slice (R2 3).A (R2 3).m (R2 3).c, .slice (R2 4).A (R2 4).m (R2 4).c, .slice (R2 5).A (R2 5).m (R2 5).c, .slice (R2 6).A (R2 6).m (R2 6).c] 30)
      have hbR := Blk.new1 w8 (Obj.cells #[.string btag, .slice bhc.A bhc.m bhc.c, .slice bhd.A bhd.m bhd.c, .slice bhe.A bhe.m bhe.c] 26) 30 #[.slice (R2 0).A (R2 0).m (R2 0).c, .slice (R2 1).A (R2 1).m (R2 1).c, .slice (R2 2).A (R2 2).m (R2 2).c, .slice (R2 3).A (R2 3).m (R2 3).c, .slice (R2 4).A (R2 4).m (R2 4).c, .slice (R2 5).A (R2 5).m (R2 5).c, .slice (R2 6).A (R2 6).m (R2 6).c]
      have B0 := laters (hbB.cell 0)
      have B1 := laters (hbB.cell 1)
      have B2 := laters (hbB.cell 2)
      have B3 := laters (hbB.cell 3)
      have BR := laters (hbR.cell 0)
      dsimp at B0 B1 B2 B3 BR
      obtain ⟨nt, hnt⟩ : ∃ nt, nt = (ces.map Ent.p).all noTake := ⟨_, rfl⟩
      rw [← hnt] at htn
      have HNT := Lib.hid hnt
      clear hnt hbB hbR
      go_wp2_with (first
        | (go_at_call 19; refine Hid.out ?_))
      refine Hid.mk_ ((htn).mono ?_)
      rintro e w9 ⟨rfl, hE9⟩
      clear htn
      have hE19 := ((hE18.alloc (Obj.cells #[.string btag, .slice bhc.A bhc.m bhc.c, .slice bhd.A bhd.m bhd.c, .slice bhe.A bhe.m bhe.c] 26)).alloc (Obj.cells #[.slice (R2 0).A (R2 0).m (R2 0).c, .slice (R2 1).A (R2 1).m (R2 1).c, .slice (R2 2).A (R2 2).m (R2 2).c, .slice (R2 3).A (R2 3).m (R2 3).c, .slice (R2 4).A (R2 4).m (R2 4).c, .slice (R2 5).A (R2 5).m (R2 5).c, .slice (R2 6).A (R2 6).m (R2 6).c] 30)).trans hE9
      have HE09 := Lib.hid (((HE08.out.alloc (Obj.cells #[.string btag, .slice bhc.A bhc.m bhc.c, .slice bhd.A bhd.m bhd.c, .slice bhe.A bhe.m bhe.c] 26)).alloc (Obj.cells #[.slice (R2 0).A (R2 0).m (R2 0).c, .slice (R2 1).A (R2 1).m (R2 1).c, .slice (R2 2).A (R2 2).m (R2 2).c, .slice (R2 3).A (R2 3).m (R2 3).c, .slice (R2 4).A (R2 4).m (R2 4).c, .slice (R2 5).A (R2 5).m (R2 5).c, .slice (R2 6).A (R2 6).m (R2 6).c] 30)).trans hE9)
      have HE89 : Hid (Ext w8 w9) := (((Ext.refl w8).alloc (Obj.cells #[.string btag, .slice bhc.A bhc.m bhc.c, .slice bhd.A bhd.m bhd.c, .slice bhe.A bhe.m bhe.c] 26)).alloc (Obj.cells #[.slice (R2 0).A (R2 0).m (R2 0).c, .slice (R2 1).A (R2 1).m (R2 1).c, .slice (R2 2).A (R2 2).m (R2 2).c, .slice (R2 3).A (R2 3).m (R2 3).c, .slice (R2 4).A (R2 4).m (R2 4).c, .slice (R2 5).A (R2 5).m (R2 5).c, .slice (R2 6).A (R2 6).m (R2 6).c] 30)).trans hE9
      cases nt with
      | false =>
        obtain rfl : k2 = 1 := HKN.out.trans (HN1.out HNT.out.symm)
        go_wp2
        go_ret
        exact ⟨by first | rfl | simp, HE09.out⟩
      | true =>
        have hz := HN2.out HNT.out.symm
        obtain rfl : k2 = 0 := HKN.out.trans hz.1
        have HZ := Lib.hid hz.2
        clear hz
        cases b with
        | true =>
          go_wp2
          go_ret
          exact ⟨by first | rfl | simp, HE09.out⟩
        | false =>
          have hall : ∀ x ∈ ces.map Ent.p, x.st ≠ 4 := fun x hx e => by
            have h1 := HOO.out.2.2.2
            have h2 : ((ces.map Ent.p).any fun y => decide (y.st = 4)) = true := List.any_eq_true.2 ⟨x, hx, decide_eq_true e⟩
            rw [h2] at h1
            cases h1
          have HQ := Lib.hid (HZ.out hall)
          have hqe := reqC_true (HW8.out.ext HE89.out) (HX.out.ext HE09.out) (HBP.out.trans HQ.out.1)
          unfold catV at hqe
          dsimp only at hqe
          have HKL : Hid ((R2 0).m = he.m) := by
            show _ = _
            rw [HBR.out, HQ.out.2]
            show (ces.map Ent.p).length = _
            rw [List.length_map, HL2.out]
          clear hall
          go_wp2_with (first
            | (go_at_call 20; refine Hid.out ?_))
          refine Hid.mk_ ((hqe).mono ?_)
          rintro e wa ⟨rfl, hEa⟩
          have hE1a := hE19.trans hEa
          have hE9a := hE9.trans hEa
          have HE0a := Lib.hid (HE09.out.trans hEa)
          have hkl : (((R2 0).m : Int) == (he.m : Int)) = true := by rw [HKL.out]; simp
          clear hqe
          go_wp2
          go_ret
          exact ⟨by first | rfl | simp, HE0a.out⟩
end
set_option maxRecDepth 100000 in
theorem liftedUpdateEmpty (os : Os) (started : os.Started) (H : Type) (enc : TypeId × Value → H) :
    ReturnsInHanded {} Tryd.checked os 6 .any (fun w args => (Rows.updateEmptySpec.pre enc Tryd.prog Tryd.f6 [] false w args ∧ laidMetH Tryd.prog laidL2 w) ∧ sizedMet enc Tryd.prog Tryd.f6 (OpenSpec.ofChange Rows.updateEmptySpec) false w args) (Rows.updateEmptySpec.post enc Tryd.prog Tryd.f6 false true false false) := by
  refine returnsInHanded_of_change_and (C := Tryd.checked) (X := fun w _ => laidMetH Tryd.prog laidL2 w) (fun _ _ _ hh h => h.of_heap hh) ownK started (by kernel_rfl) Tryd.func6
    (ChangeSpec.witness_shaped (enc := enc) (C := Tryd.checked) (os := os) (X := fun w _ => laidMetH Tryd.prog laidL2 w) false (World.laidAll Tryd.prog os laidL2) #[.agg #[.string ⟨#[]⟩, .slice none 0 0, .slice none 0 0, .slice none 0 0]] 8 (World.laidAll_os _ _ _)
      (World.shaped_of_ZipB (by kernel_rfl) (by kernel_rfl)) (by kernel_rfl) (by kernel_rfl) (by kernel_rfl)
      (by rw [MakeChecks.laidMetH_plain _ _ _ (by kernel_rfl)]; exact laidMet_laidAll _ (by kernel_rfl) (by kernel_rfl))) ?_
  intro W base args ds gs before hval0 hW hcnd hsz0 hL _
  have hT := tabs2 hL
  have hval : ∀ (j : Nat) t v, Tryd.f6.params[j]? = some t → args[j]? = some v → Value.okWide Tryd.prog W .any base t v := hval0
  have hW' := hW
  obtain ⟨p, q, hA0, hV, rfl, hfz, hnd⟩ := hW
  have hA : DataW.TrodAll enc Tryd.prog W 0 (fun _ => true) true Tryd.f6.params.toList args.toList ds p := hA0
  have hsz : (DataW.weightsEach Tryd.prog (Tryd.f6.params.toList ++ Rows.updateEmptySpec.plain.varTypes Tryd.prog) (ds ++ gs)).all (· ≤ reachBytes) = true := hsz0
  rw [Tryd.params6] at hA hval hsz
  obtain ⟨v0, vs0, d0, ds0, p0, q0, hargs0, rfl, rfl, h0, r0⟩ := trodAll_cons hA
  obtain ⟨rfl, rfl, rfl⟩ := trodAll_nil r0
  obtain rfl : args = #[v0] := by cases args; simp_all
  obtain ⟨rfl, rfl⟩ := trodVars_none hV
  have k0 := h0
  have lt0 : ∀ x ∈ p0, x.block < W.heap.size := by obtain ⟨m, hm⟩ := k0; exact DataW.trod_lt m _ _ _ hm
  obtain ⟨x0, rfl, g0⟩ := opn_top_agg opn_cat ((okWide_struct Tryd.underlying26 (hval 0 26 v0 rfl rfl)).imp fun _ hh => hh.1) h0 (WOk.top hsz (j := 0) rfl rfl)
  clear hA0 hval0
  refine (empty_walk g0 hT).mono fun e W' ⟨he, bel⟩ => ?_
  subst he
  exact ⟨_, rfl, _, _, _, [], _, [], hW', trodAll_mk1 (shut_bool Tryd.underlying4 _), (trodAll_cons_mk (Below.trod laidK (by kernel_rfl) (of_decide_eq_true (by kernel_rfl)) k0 bel lt0) trodAll_mk0), rfl, Below.frame bel _, fun h => by cases h⟩
theorem UpdateEmpty_row : Rows.UpdateEmptySaid :=
  OpenClaim.holds_of_wide 6 Tryd.f6 rfl rfl rfl rfl rfl rfl rfl ⟨rfl, rfl, rfl, rfl, rfl⟩ rfl rfl rfl rfl rfl (by kernel_rfl) Tryd.func6 (by kernel_rfl)
    (of_decide_eq_true (by kernel_rfl)) (by unfold Func.isWrapper; rw [if_neg (of_decide_eq_false (by kernel_rfl))]; exact ⟨rfl, rfl⟩)
    (fun os started H enc _ => liftedUpdateEmpty os started H enc)
theorem UpdateEmpty_holds : Rows.UpdateEmptyCardSaid :=
  Claim7.holds_tied_plain_at .later [] Rows.updateEmptyCard.laidKinds true Rows.updateEmptyCard.stood.harness Rows.updateEmptyCard.stood.looks
    UpdateEmpty_row (fun _ h => by cases h) (by kernel_rfl) (fun _ h => by cases h) updateEmpty_row_tie rfl ⟨rfl, rfl⟩ (by kernel_rfl) rfl
    (fun f fn hf hfn => by
      obtain rfl : f = 6 := Option.some.inj ((show Tryd.prog.funcNamed Rows.updateEmptyRow.func = some 6 by kernel_rfl).symm.trans hf) |>.symm
      obtain rfl : fn = Tryd.f6 := (Option.some.inj (Tryd.func6.symm.trans hfn)).symm
      exact ⟨by kernel_rfl, fun j t ht => by
        rw [Tryd.params6] at ht
        have hm : t ∈ [26] := by simpa using Array.mem_of_getElem? ht
        have hall : ([26].all fun u => !Tryd.prog.wantsStandIn u) = true := by kernel_rfl
        exact (show Tryd.prog.wantsStandIn t = false by simpa using List.all_eq_true.1 hall t hm)⟩)
    (by kernel_rfl)
#print axioms UpdateEmpty_holds
end Go.Proofs.YtcdpmgdocgddcaaDoor
