/- The result of an update has the IDs, sources, comments and fields of the extraction first, none of them obsolete; behind them all entries are obsolete and have targets. No condition. -/
import Derived.Test.YtcdpmgdocgddcaaDoorUpB
import Derived.ProofKit
import Derived.OpenShut
import Derived.ShutString
import Derived.LaidMore
import Derived.Lay
import Derived.Lib.LaidIn
import Derived.Lib.LaidTab
import Derived.Lib.LaidU8
import Derived.SevenTiedAt
import Derived.Stop.Joined
namespace Go.Proofs.YtcdpmgdocgddcaaDoor
open Go.ChangeShapes Go.WideShapes Go.ChangeAt Go.RowKit
set_option maxRecDepth 100000
attribute [local go_sem] ext_refl_t ext_alloc_t ext_drew_t ext_drewN_t ext_alloc2_t ext_alloc3_t ext_alloc4_t ext_alloc5_t ext_alloc6_t ext_alloc7_t ext_alloc8_t ext_alloc1d_t ext_alloc2d_t ext_alloc3d_t ext_alloc4d_t
def laidL2 : List (String × DataW Unit) := Rows.updateSourcesRow.laid
theorem tabs2 {W : World} (h : laidMetH Tryd.prog laidL2 W) : Tabs W := tabs_of_laid h
section
variable {w : World}
set_option maxHeartbeats 12800000 in
theorem sources_walk {x : Cat} (hx : CatW w x) {h : SlH} {es : List Ent} (hs : EntsW w h es) (hT : Tabs w) :
    Calls Tryd.prog 4 #[catV x, .slice h.A h.m h.c] w fun e w' => e = .returned (.bool true) ∧ Ext w w' := by
  obtain ⟨tag, com, fd, ces, hc, hd, he⟩ := x
  have HX := Lib.hid hx
  have HS := Lib.hid hs
  have HTT := Lib.hid hT
  have hle := hs.sl.le
  have hle2 := hx.e.sl.le
  have HL := Lib.hid hs.sl.len
  have HL2 := Lib.hid hx.e.sl.len
  dsimp only at hle2 HL2
  unfold catV
  dsimp only
  have hb := Blk.new w 26 #[.string tag, .slice hc.A hc.m hc.c, .slice hd.A hd.m hd.c, .slice he.A he.m he.c]
  have hE1 : Ext w (w.alloc (Obj.cells #[.string tag, .slice hc.A hc.m hc.c, .slice hd.A hd.m hd.c, .slice he.A he.m he.c] 26)) := (Ext.refl w).alloc _
  obtain ⟨W1, hW1⟩ : ∃ W1, W1 = w.alloc (Obj.cells #[.string tag, .slice hc.A hc.m hc.c, .slice hd.A hd.m hd.c, .slice he.A he.m he.c] 26) := ⟨_, rfl⟩
  rw [← hW1] at hb hE1
  obtain ⟨g, hg⟩ : ∃ g, g = w.heap.size := ⟨_, rfl⟩
  rw [← hg] at hb
  have X0 := laters (show _ = some (.string tag) from hb.cell 0)
  have X1 := laters (show _ = some (.slice hc.A hc.m hc.c) from hb.cell 1)
  have X2 := laters (show _ = some (.slice hd.A hd.m hd.c) from hb.cell 2)
  have X3 := laters (show _ = some (.slice he.A he.m he.c) from hb.cell 3)
  clear hb hx hs hT
  go_enter Tryd.func4, Tryd.ntmps4
  go_upto_region 1 with fail
  rw [← hW1, ← hg]
  clear hW1 hg
  go_wp2_with (first
    | (go_at_call 8; refine Hid.out ?_))
  refine Hid.mk_ (((awake47_any (HTT.out.ext hE1))).mono ?_)
  rintro e w2 ⟨rfl, hE2⟩
  have hE02 := hE1.trans hE2
  have hfw := few47_any (HX.out.ext hE02) (EntsW.ext HS.out hE02)
  unfold catV at hfw
  dsimp only at hfw
  go_wp2_with (first
    | (go_at_call 9; refine Hid.out ?_))
  refine Hid.mk_ ((hfw).mono ?_)
  rintro e w3 ⟨rfl, hE3⟩
  have hE13 := hE2.trans hE3
  have hE03 := hE02.trans hE3
  clear hfw hE2 hE3 hE02
  cases hf1 : few47 (Cat.p ⟨tag, com, fd, ces, hc, hd, he⟩) (es.map Ent.p) with
  | false =>
    clear hf1
    go_wp2
    go_ret
    exact ⟨rfl, hE03⟩
  | true =>
  have HFW := Lib.hid (few47_parts hf1)
  have hm8 : h.m ≤ 8 := by have h1 := HFW.out.2.1; have h2 := HL.out; rw [List.length_map] at h1; omega
  have hn8 : he.m ≤ 8 := by have h1 := HFW.out.1; have h2 := HL2.out; rw [show (Cat.p ⟨tag, com, fd, ces, hc, hd, he⟩).es = ces.map Ent.p from rfl, List.length_map] at h1; omega
  clear hf1
  have hup := update_any (HX.out.ext hE03) (EntsW.ext HS.out hE03) (HTT.out.ext hE03) (fun y hy => Nat.le_trans (HFW.out.2.2.1 y.p (List.mem_map_of_mem hy)) (by omega)) (fun y hy => Nat.le_trans (HFW.out.2.2.2 y.p (List.mem_map_of_mem hy)) (by omega))
  unfold catV at hup
  dsimp only at hup
  go_wp2_with (first
    | (go_at_call 10; refine Hid.out ?_))
  refine Hid.mk_ ((hup).mono ?_)
  rintro e w4 ⟨⟨atag, acom, afd, aes, ahc, ahd, ahe⟩, R, r, k, rfl, hupd, hW4, hR4, hE4⟩
  clear hup
  unfold catV repA
  dsimp only
  have HUPD := Lib.hid hupd
  have HW4 := Lib.hid hW4
  have HR4 := Lib.hid hR4
  have HL4 := Lib.hid hW4.e.sl.len
  have hle4 := hW4.e.sl.le
  dsimp only at HL4 hle4
  have hbA := Blk.new w4 26 #[.string atag, .slice ahc.A ahc.m ahc.c, .slice ahd.A ahd.m ahd.c, .slice ahe.A ahe.m ahe.c]
  have hbR := Blk.new1 w4 (Obj.cells #[.string atag, .slice ahc.A ahc.m ahc.c, .slice ahd.A ahd.m ahd.c, .slice ahe.A ahe.m ahe.c] 26) 30 #[.slice (R 0).A (R 0).m (R 0).c, .slice (R 1).A (R 1).m (R 1).c, .slice (R 2).A (R 2).m (R 2).c, .slice (R 3).A (R 3).m (R 3).c, .slice (R 4).A (R 4).m (R 4).c, .slice (R 5).A (R 5).m (R 5).c, .slice (R 6).A (R 6).m (R 6).c]
  have hbA' := hbA.alloc (Obj.cells #[.slice (R 0).A (R 0).m (R 0).c, .slice (R 1).A (R 1).m (R 1).c, .slice (R 2).A (R 2).m (R 2).c, .slice (R 3).A (R 3).m (R 3).c, .slice (R 4).A (R 4).m (R 4).c, .slice (R 5).A (R 5).m (R 5).c, .slice (R 6).A (R 6).m (R 6).c] 30)
  obtain ⟨W5, hW5⟩ : ∃ W5, W5 = (w4.alloc (Obj.cells #[.string atag, .slice ahc.A ahc.m ahc.c, .slice ahd.A ahd.m ahd.c, .slice ahe.A ahe.m ahe.c] 26)).alloc (Obj.cells #[.slice (R 0).A (R 0).m (R 0).c, .slice (R 1).A (R 1).m (R 1).c, .slice (R 2).A (R 2).m (R 2).c, .slice (R 3).A (R 3).m (R 3).c, .slice (R 4).A (R 4).m (R 4).c, .slice (R 5).A (R 5).m (R 5).c, .slice (R 6).A (R 6).m (R 6).c] 30) := ⟨_, rfl⟩
  rw [← hW5] at hbA' hbR
  have hE45 : Ext w4 W5 := by rw [hW5]; exact ((Ext.refl _).alloc _).alloc _
  obtain ⟨g6, hg6⟩ : ∃ g6, g6 = w4.heap.size + 1 := ⟨_, rfl⟩
  obtain ⟨g5, hg5⟩ : ∃ g5, g5 = w4.heap.size := ⟨_, rfl⟩
  rw [← hg5] at hbA'
  rw [← hg6] at hbR
  go_upto_region 6 with fail
  rw [← hW5, ← hg6, ← hg5]
  have HBA := Lib.hid hbA'
  have HBR := Lib.hid hbR
  have HE35 := Lib.hid (hE4.trans hE45)
  have HE15 := Lib.hid (hE13.trans HE35.out)
  have HE05 := Lib.hid (hE03.trans HE35.out)
  have HE45 := Lib.hid hE45
  clear hbA hbA' hbR hupd hW4 hR4 hE45 hE4 hE13 hE03 hE1 hW5 hg5 hg6
  have HA3 := laters (show W5.cell? ⟨g5, 3, none⟩ = some (.slice ahe.A ahe.m ahe.c) from HBA.out.cell 3)
  have HE5 := Lib.hid (Ext.refl W5)
  rcases updP_three (Cat.p ⟨tag, com, fd, ces, hc, hd, he⟩) (es.map Ent.p) with h3 | h3 | ⟨h3, h4, h5⟩
  · have hk : k = 1 := congrArg (·.2.2) (HUPD.out.trans h3)
    subst hk
    clear h3
    go_wp2
    go_ret
    exact ⟨rfl, HE05.out⟩
  · have hk : k = 6 := congrArg (·.2.2) (HUPD.out.trans h3)
    subst hk
    clear h3
    go_wp2
    go_ret
    exact ⟨rfl, HE05.out⟩
  have hk : k = 0 := congrArg (·.2.2) (HUPD.out.trans h5)
  subst hk
  have HAE : Hid (aes.map Ent.p = (updU (ces.map Ent.p) (es.map Ent.p)).es) := by have h9 := congrArg (fun t => t.1.es) (HUPD.out.trans h5); exact h9
  have HLE : Hid (h.m ≤ ahe.m) := by
    have h1 := upd_len (ces.map Ent.p) (es.map Ent.p)
    rw [← HAE.out, List.length_map, List.length_map, ← HL.out, ← HL4.out] at h1
    exact h1
  have HGX : Hid (∀ (q : Nat) (z y : Ent), aes[q]? = some z → es[q]? = some y → GoodX y.p z.p ∧ (y.p.fd.map Prod.fst).Nodup) := fun q z y hz hy => by
    have h1 : (updU (ces.map Ent.p) (es.map Ent.p)).es[q]? = some z.p := by rw [← HAE.out, List.getElem?_map, hz]; rfl
    have h2 : (es.map Ent.p)[q]? = some y.p := by rw [List.getElem?_map, hy]; rfl
    exact ⟨upd_front (proper_nt h3) h1 h2, proper_fok h3 _ (List.mem_of_getElem? h2)⟩
  have HBX : Hid (∀ (q : Nat) (z : Ent), aes[q]? = some z → h.m ≤ q → z.p.st = 4 ∧ z.p.tgt.size ≠ 0) := fun q z hz hq => by
    have h1 : (updU (ces.map Ent.p) (es.map Ent.p)).es[q]? = some z.p := by rw [← HAE.out, List.getElem?_map, hz]; rfl
    exact upd_behind h1 (by rw [List.length_map, ← HL.out]; exact hq)
  clear h3 h4 h5 HUPD
  have hE5 := HE5.out
  have hnl : ¬ (ahe.m : Int) < (h.m : Int) := by have := HLE.out; omega
  go_wp2
  clear hE5 hnl
  go_loopw [8] (fun v wr => ∃ q : Nat, q ≤ ahe.m ∧ v = .int .i64 q ∧ Hid (Ext W5 wr)) (fun v _ => ahe.m - (intOf v).toNat)
  case atStart => exact ⟨0, Nat.zero_le _, rfl, Ext.refl _⟩
  case round =>
    obtain ⟨q, hq, rfl, HER⟩ := hrel
    have hER := HER.out
    by_cases hlt : q < ahe.m
    · have hskip : True := trivial
      --S[ l1
      obtain ⟨zzb, zzo, hzA, -, hcs⟩ := ((HW4.out.ext (HE45.out.trans hER)).e).sl.at_ hlt (by omega)
      have HzzA := Lib.hid hzA
      clear hzA
      have zzlt : q < (aes).length := by rw [← (HL4).out]; exact hlt
      obtain ⟨y, hyq⟩ : ∃ y, y = (aes)[q] := ⟨_, rfl⟩
      have y0 := hcs q zzlt 0 (by omega)
      have y1 := hcs q zzlt 1 (by omega)
      have y2 := hcs q zzlt 2 (by omega)
      have y3 := hcs q zzlt 3 (by omega)
      have y4 := hcs q zzlt 4 (by omega)
      have y5 := hcs q zzlt 5 (by omega)
      have y6 := hcs q zzlt 6 (by omega)
      simp only [← hyq, entC, List.getElem_cons_zero, List.getElem_cons_succ, Nat.add_zero, ← Nat.add_assoc] at y0 y1 y2 y3 y4 y5 y6
      have HzzM : Hid (y ∈ aes) := by show _ ∈ _; rw [hyq]; exact List.getElem_mem zzlt
      have HzzW : Hid (EntW wr y) := ((HW4.out.ext (HE45.out.trans hER)).e).good y HzzM.out
      have HzzQ : Hid ((aes)[q]? = some y) := by show _ = _; rw [List.getElem?_eq_getElem zzlt, hyq]
      have zzi : (q : Int) < (ahe.m : Int) := by omega
      clear hcs hyq
      obtain ⟨⟨zid, zsrc, ztgt, zcom, zfl, zst, zfd⟩, zhc, zhf, zhd⟩ := y
      dsimp only at y0 y1 y2 y3 y4 y5 y6
      have hbY := Blk.new wr 35 #[.string zid, .string zsrc, .string ztgt, .slice zhc.A zhc.m zhc.c, .slice zhf.A zhf.m zhf.c, .int .i64 zst, .slice zhd.A zhd.m zhd.c]
      obtain ⟨W6, hW6⟩ : ∃ W : World, W = wr.alloc (Obj.cells #[.string zid, .string zsrc, .string ztgt, .slice zhc.A zhc.m zhc.c, .slice zhf.A zhf.m zhf.c, .int .i64 zst, .slice zhd.A zhd.m zhd.c] 35) := ⟨_, rfl⟩
      rw [← hW6] at hbY
      have hEW6 : Ext wr W6 := by rw [hW6]; exact (Ext.refl _).alloc _
      obtain ⟨g9, hg9⟩ : ∃ n, n = wr.heap.size := ⟨_, rfl⟩
      rw [← hg9] at hbY
      have Yz0 := laters (show _ = some (.string zid) from hbY.cell 0)
      have Yz1 := laters (show _ = some (.string zsrc) from hbY.cell 1)
      have Yz2 := laters (show _ = some (.string ztgt) from hbY.cell 2)
      have Yz3 := laters (show _ = some (.slice zhc.A zhc.m zhc.c) from hbY.cell 3)
      have Yz4 := laters (show _ = some (.slice zhf.A zhf.m zhf.c) from hbY.cell 4)
      have Yz5 := laters (show _ = some (.int .i64 zst) from hbY.cell 5)
      have Yz6 := laters (show _ = some (.slice zhd.A zhd.m zhd.c) from hbY.cell 6)
      clear hbY
      have A3r := HA3 wr hER
      rw [show ahe.A = some ⟨zzb, zzo, none⟩ from HzzA.out] at A3r
      have HE6 := Lib.hid (HER.out.trans hEW6)
      have HzzW6 := Lib.hid (HzzW.out.ext hEW6)
      have hq8 : q ≤ 140737488355328 := by omega
      clear hER
      by_cases hqm : h.m ≤ q
      · have hgi : (h.m : Int) ≤ (q : Int) := by omega
        obtain ⟨hst, htg⟩ := HBX.out _ _ HzzQ.out hqm
        dsimp only at hst htg
        subst hst
        have ht1 : ztgt.toList.isEmpty = false := by rw [isEmpty_size]; exact decide_eq_false htg
        clear htg hqm
        go_upto_region 14 with fail
        rw [← hW6, ← hg9]
        clear hW6 hg9 y0 y1 y2 y3 y4 y5 y6 A3r
        have hE66 := Ext.refl W6
        go_wp2
        go_roundw
        case rel => exact ⟨q + 1, by omega, by go_num, HE6.out⟩
        case measure => simp [intOf]; omega
      · have hgi : ¬ (h.m : Int) ≤ (q : Int) := by omega
        have hlm : q < h.m := by omega
        clear hqm
        go_upto_region 14 with fail
        rw [← hW6, ← hg9]
        clear hW6 hg9 y0 y1 y2 y3 y4 y5 y6 A3r
        have hE66 := Ext.refl W6
        obtain ⟨wo, rfl⟩ : ∃ wo : World, wo = wr := ⟨_, rfl⟩
        obtain ⟨wr, hwr⟩ : ∃ wr : World, wr = W6 := ⟨_, rfl⟩
        rw [← hwr] at hE66
        have hErr : Ext W5 wr := by rw [hwr]; exact HE6.out
        obtain ⟨yyb, yyo, hzA, -, hcs⟩ := ((EntsW.ext HS.out (HE05.out.trans hErr))).sl.at_ hlm (by omega)
        have HyyA := Lib.hid hzA
        clear hzA
        have yylt : q < (es).length := by rw [← (HL).out]; exact hlm
        obtain ⟨y, hyq⟩ : ∃ y, y = (es)[q] := ⟨_, rfl⟩
        have y0 := hcs q yylt 0 (by omega)
        have y1 := hcs q yylt 1 (by omega)
        have y2 := hcs q yylt 2 (by omega)
        have y3 := hcs q yylt 3 (by omega)
        have y4 := hcs q yylt 4 (by omega)
        have y5 := hcs q yylt 5 (by omega)
        have y6 := hcs q yylt 6 (by omega)
        simp only [← hyq, entC, List.getElem_cons_zero, List.getElem_cons_succ, Nat.add_zero, ← Nat.add_assoc] at y0 y1 y2 y3 y4 y5 y6
        have HyyM : Hid (y ∈ es) := by show _ ∈ _; rw [hyq]; exact List.getElem_mem yylt
        have HyyW : Hid (EntW wr y) := ((EntsW.ext HS.out (HE05.out.trans hErr))).good y HyyM.out
        have HyyQ : Hid ((es)[q]? = some y) := by show _ = _; rw [List.getElem?_eq_getElem yylt, hyq]
        have yyi : (q : Int) < (h.m : Int) := by omega
        clear hcs hyq
        obtain ⟨⟨yid, ysrc, ytgt, ycom, yfl, yst, yfd⟩, yhc, yhf, yhd⟩ := y
        dsimp only at y0 y1 y2 y3 y4 y5 y6
        have hbY := Blk.new wr 35 #[.string yid, .string ysrc, .string ytgt, .slice yhc.A yhc.m yhc.c, .slice yhf.A yhf.m yhf.c, .int .i64 yst, .slice yhd.A yhd.m yhd.c]
        obtain ⟨W7, hW7⟩ : ∃ W : World, W = wr.alloc (Obj.cells #[.string yid, .string ysrc, .string ytgt, .slice yhc.A yhc.m yhc.c, .slice yhf.A yhf.m yhf.c, .int .i64 yst, .slice yhd.A yhd.m yhd.c] 35) := ⟨_, rfl⟩
        rw [← hW7] at hbY
        have hEW7 : Ext wr W7 := by rw [hW7]; exact (Ext.refl _).alloc _
        obtain ⟨g12, hg12⟩ : ∃ n, n = wr.heap.size := ⟨_, rfl⟩
        rw [← hg12] at hbY
        have Yy0 := laters (show _ = some (.string yid) from hbY.cell 0)
        have Yy1 := laters (show _ = some (.string ysrc) from hbY.cell 1)
        have Yy2 := laters (show _ = some (.string ytgt) from hbY.cell 2)
        have Yy3 := laters (show _ = some (.slice yhc.A yhc.m yhc.c) from hbY.cell 3)
        have Yy4 := laters (show _ = some (.slice yhf.A yhf.m yhf.c) from hbY.cell 4)
        have Yy5 := laters (show _ = some (.int .i64 yst) from hbY.cell 5)
        have Yy6 := laters (show _ = some (.slice yhd.A yhd.m yhd.c) from hbY.cell 6)
        clear hbY
        subst hwr
        rw [show h.A = some ⟨yyb, yyo, none⟩ from HyyA.out]
        have HGO : Hid (GoodX _ _ ∧ _) := HGX.out _ _ _ HzzQ.out HyyQ.out
        have hgo := HGO.out
        obtain ⟨⟨i1, i2, i3, i4, i5⟩, i6⟩ := hgo
        dsimp only at i1 i2 i3 i4
        subst i1 i2 i3
        have e4 : (zst == 4) = false := by rw [beq_eq_false_iff_ne]; exact i4
        have HFX := Lib.hid (i5 i6)
        clear i4 i5 i6 HGO
        have HE7 := Lib.hid (HE6.out.trans hEW7)
        have HzzW7 := Lib.hid (HzzW6.out.ext hEW7)
        have HyyW7 := Lib.hid (HyyW.out.ext hEW7)
        go_upto_region 18 with fail
        rw [← hW7, ← hg12]
        clear hW7 hg12 y0 y1 y2 y3 y4 y5 y6 hErr hE66
        have hE77 := Ext.refl W7
        have hE67 := hEW7
        have hsm := rsameS_any HzzW7.out.c HyyW7.out.c
        dsimp only at hsm
        rw [decide_eq_true rfl] at hsm
        rw [← show h.A = some ⟨yyb, yyo, none⟩ from HyyA.out]
        go_wp2_with (first
          | (go_at_call 14; refine Hid.out ?_))
        refine Hid.mk_ ((hsm).mono ?_)
        rintro e w8 ⟨rfl, hE78⟩
        have HE8 := Lib.hid (HE7.out.trans hE78)
        have HE68 := Lib.hid (hE67.trans hE78)
        have HE78 := Lib.hid hE78
        have hE88 := hE78
        have hE68 := HE68.out
        clear hsm hE77 hE67
        go_wp2
        clear hE88 hE68 hE78
        obtain ⟨wm, rfl⟩ : ∃ wm : World, wm = wr := ⟨_, rfl⟩
        have HLF := Lib.hid HyyW7.out.d.sl.len
        have hlf := HyyW7.out.d.sl.le
        dsimp only at HLF hlf
        go_loopw [11] (fun v wr => ∃ j : Nat, j ≤ yhd.m ∧ v = .int .i64 j ∧ Hid (Ext w8 wr)) (fun v _ => yhd.m - (intOf v).toNat)
        case atStart => exact ⟨0, Nat.zero_le _, rfl, Ext.refl _⟩
        case round =>
          obtain ⟨j, hj, rfl, HEJ⟩ := hrel
          have HE7J := Lib.hid (HE78.out.trans HEJ.out)
          have HE6J := Lib.hid (HE68.out.trans HEJ.out)
          by_cases hlj : j < yhd.m
          · obtain ⟨fb, fo, hfA, -, hcs⟩ := (HyyW7.out.d.sl.ext HE7J.out).at_ hlj (by omega)
            have hjl : j < yfd.length := by rw [← HLF.out]; exact hlj
            obtain ⟨⟨fn, fv⟩, hf⟩ : ∃ f, f = yfd[j] := ⟨_, rfl⟩
            have f0 := hcs j hjl 0 (by omega)
            have f1 := hcs j hjl 1 (by omega)
            simp only [← hf, fdC, List.getElem_cons_zero, List.getElem_cons_succ, Nat.add_zero, ← Nat.add_assoc] at f0 f1
            have HFV : Hid (fld fn zfd = some fv) := HFX.out (fn, fv) (by rw [hf]; exact List.getElem_mem hjl)
            have ji : (j : Int) < (yhd.m : Int) := by omega
            have hj8 : j ≤ 140737488355328 := by omega
            have y6r := Yy6 wr HE7J.out
            have HfA := Lib.hid hfA
            rw [show yhd.A = some ⟨fb, fo, none⟩ from HfA.out] at y6r
            have U6z := fun (u : ExtOf wr) => Yz6 u.val (HE6J.out.trans u.ext)
            have U6y := latersU y6r
            have UF0 := latersU f0
            have UF1 := latersU f1
            have C1 : Hid (∀ u : ExtOf wr, Calls Tryd.prog 11 #[.slice zhd.A zhd.m zhd.c, .string fn] u.1 fun e w' => e = .returned (.tuple #[.string fv, .bool true]) ∧ Ext u.1 w') := fun u =>
              (rfield_any (c := zhd.c) (HzzW7.out.d.sl.ext (HE7J.out.trans u.ext)) fn).mono fun e w' ⟨⟨o, ho, he⟩, hE⟩ => ⟨by rw [he, ho.eq, HFV.out]; rfl, hE⟩
            have HEJ2 := HEJ
            clear hcs hf hfA f0 f1 hjl
            go_upto_region 23 with fail
            clear y6r
            refine wp_region_ext_lit (by kernel_rfl) (by kernel_rfl) ?_
            try dsimp only [List.append]
            repeat (go_big_quiet_step ((go_at_call 11; with_reducible exact Calls.quiet_ext (C1.out _))))
            refine wpQuiet_nil ?_
            rintro w9 ⟨⟨_, h9⟩, rfl⟩
            try dsimp only
            have v6 := U6y ⟨w9, h9⟩
            have v1 := UF1 ⟨w9, h9⟩
            dsimp only at v6 v1
            have HEJ9 := Lib.hid (HEJ.out.trans h9)
            clear U6z U6y UF0 UF1 h9
            go_wp2
            go_roundw
            case rel => exact ⟨j + 1, by omega, by go_num, HEJ9.out⟩
            case measure => simp [intOf]; omega
          · have ji : ¬ (j : Int) < (yhd.m : Int) := by omega
            have hE7j := HE7J.out
            have HEX := Lib.hid (HE8.out.trans HEJ.out)
            go_wp2
            go_roundw
            case rel => first | exact ⟨q + 1, by omega, by go_num, HEX.out⟩ | exact ⟨q + 1, by omega, by go_num, trivial⟩
            case measure => simp [intOf]; omega
      --S]
    · have hi1 : ¬ (q : Int) < (ahe.m : Int) := by omega
      have HEX := Lib.hid (HE05.out.trans hER)
      go_wp2
      go_ret
      exact ⟨rfl, HEX.out⟩
end
set_option maxRecDepth 100000 in
theorem liftedUpdateSources (os : Os) (started : os.Started) (H : Type) (enc : TypeId × Value → H) :
    ReturnsInHanded {} Tryd.checked os 4 .any (fun w args => (Rows.updateSourcesSpec.pre enc Tryd.prog Tryd.f4 [] false w args ∧ laidMetH Tryd.prog laidL2 w) ∧ sizedMet enc Tryd.prog Tryd.f4 (OpenSpec.ofChange Rows.updateSourcesSpec) false w args) (Rows.updateSourcesSpec.post enc Tryd.prog Tryd.f4 false true false false) := by
  refine returnsInHanded_of_change_and (C := Tryd.checked) (X := fun w _ => laidMetH Tryd.prog laidL2 w) (fun _ _ _ hh h => h.of_heap hh) ownK started (by kernel_rfl) Tryd.func4
    (ChangeSpec.witness_shaped (enc := enc) (C := Tryd.checked) (os := os) (X := fun w _ => laidMetH Tryd.prog laidL2 w) false (World.laidAll Tryd.prog os laidL2) #[.agg #[.string ⟨#[]⟩, .slice none 0 0, .slice none 0 0, .slice none 0 0], .slice none 0 0] 8 (World.laidAll_os _ _ _)
      (World.shaped_of_ZipB (by kernel_rfl) (by kernel_rfl)) (by kernel_rfl) (by kernel_rfl) (by kernel_rfl)
      (by rw [MakeChecks.laidMetH_plain _ _ _ (by kernel_rfl)]; exact laidMet_laidAll _ (by kernel_rfl) (by kernel_rfl))) ?_
  intro W base args ds gs before hval0 hW hcnd hsz0 hL _
  have hT := tabs2 hL
  have hval : ∀ (j : Nat) t v, Tryd.f4.params[j]? = some t → args[j]? = some v → Value.okWide Tryd.prog W .any base t v := hval0
  have hW' := hW
  obtain ⟨p, q, hA0, hV, rfl, hfz, hnd⟩ := hW
  have hA : DataW.TrodAll enc Tryd.prog W 0 (fun _ => true) true Tryd.f4.params.toList args.toList ds p := hA0
  have hsz : (DataW.weightsEach Tryd.prog (Tryd.f4.params.toList ++ Rows.updateSourcesSpec.plain.varTypes Tryd.prog) (ds ++ gs)).all (· ≤ reachBytes) = true := hsz0
  rw [Tryd.params4] at hA hval hsz
  obtain ⟨v0, vs0, d0, ds0, p0, q0, hargs0, rfl, rfl, h0, r0⟩ := trodAll_cons hA
  obtain ⟨v1, vs1, d1, ds1, p1, q1, hargs1, rfl, rfl, h1, r1⟩ := trodAll_cons r0
  obtain ⟨rfl, rfl, rfl⟩ := trodAll_nil r1
  obtain rfl : args = #[v0, v1] := by cases args; simp_all
  obtain ⟨rfl, rfl⟩ := trodVars_none hV
  have k0 := h0
  have lt0 : ∀ x ∈ p0, x.block < W.heap.size := by obtain ⟨m, hm⟩ := k0; exact DataW.trod_lt m _ _ _ hm
  have k1 := h1
  have lt1 : ∀ x ∈ p1, x.block < W.heap.size := by obtain ⟨m, hm⟩ := k1; exact DataW.trod_lt m _ _ _ hm
  obtain ⟨x0, rfl, g0⟩ := opn_top_agg opn_cat ((okWide_struct Tryd.underlying26 (hval 0 26 v0 rfl rfl)).imp fun _ hh => hh.1) h0 (WOk.top hsz (j := 0) rfl rfl)
  obtain ⟨A1, m1, c1, l1, rfl, wf1, gf1, hc1, hb1⟩ := opn_top_slice Tryd.underlying24 opn_entries (hval 1 24 v1 rfl rfl) h1 (WOk.top hsz (j := 1) rfl rfl)
  have g1 : EntsW W ⟨A1, m1, c1⟩ l1 := ⟨wf1, hc1, Nat.le_trans (Nat.mul_le_mul_right _ hc1) hb1, gf1⟩
  clear hA0 hval0
  refine (sources_walk g0 g1 hT).mono fun e W' ⟨he, bel⟩ => ?_
  subst he
  exact ⟨_, rfl, _, _, _, [], _, [], hW', trodAll_mk1 (shut_bool Tryd.underlying4 _), (trodAll_cons_mk (Below.trod laidK (by kernel_rfl) (of_decide_eq_true (by kernel_rfl)) k0 bel lt0) (trodAll_cons_mk (Below.trod laidK (by kernel_rfl) (of_decide_eq_true (by kernel_rfl)) k1 bel lt1) trodAll_mk0)), rfl, Below.frame bel _, fun h => by cases h⟩
theorem UpdateSources_row : Rows.UpdateSourcesSaid :=
  OpenClaim.holds_of_wide 4 Tryd.f4 rfl rfl rfl rfl rfl rfl rfl ⟨rfl, rfl, rfl, rfl, rfl⟩ rfl rfl rfl rfl rfl (by kernel_rfl) Tryd.func4 (by kernel_rfl)
    (of_decide_eq_true (by kernel_rfl)) (by unfold Func.isWrapper; rw [if_neg (of_decide_eq_false (by kernel_rfl))]; exact ⟨rfl, rfl⟩)
    (fun os started H enc _ => liftedUpdateSources os started H enc)
theorem UpdateSources_holds : Rows.UpdateSourcesCardSaid :=
  Claim7.holds_tied_plain_at .later [] Rows.updateSourcesCard.laidKinds true Rows.updateSourcesCard.stood.harness Rows.updateSourcesCard.stood.looks
    UpdateSources_row (fun _ h => by cases h) (by kernel_rfl) (fun _ h => by cases h) updateSources_row_tie rfl ⟨rfl, rfl⟩ (by kernel_rfl) rfl
    (fun f fn hf hfn => by
      obtain rfl : f = 4 := Option.some.inj ((show Tryd.prog.funcNamed Rows.updateSourcesRow.func = some 4 by kernel_rfl).symm.trans hf) |>.symm
      obtain rfl : fn = Tryd.f4 := (Option.some.inj (Tryd.func4.symm.trans hfn)).symm
      exact ⟨by kernel_rfl, fun j t ht => by
        rw [Tryd.params4] at ht
        have hm : t ∈ [26, 24] := by simpa using Array.mem_of_getElem? ht
        have hall : ([26, 24].all fun u => !Tryd.prog.wantsStandIn u) = true := by kernel_rfl
        exact (show Tryd.prog.wantsStandIn t = false by simpa using List.all_eq_true.1 hall t hm)⟩)
    (by kernel_rfl)
#print axioms UpdateSources_holds
end Go.Proofs.YtcdpmgdocgddcaaDoor
