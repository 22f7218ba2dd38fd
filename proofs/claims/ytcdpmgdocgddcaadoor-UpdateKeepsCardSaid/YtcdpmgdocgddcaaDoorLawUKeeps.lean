/- After an update every target of the catalog is in the result: in the entry with the same ID, or in one that was reused for it; the head is the same, and the result is valid. No condition. -/
import Derived.Test.YtcdpmgdocgddcaaDoorUpB
import Derived.ProofKit
import Derived.OpenShut
import Derived.ShutString
import Derived.LaidMore
import Derived.Lay
import Derived.Lib.LaidIn
import Derived.Lib.LaidTab
import Derived.Lib.LaidU8
import Derived.SevenTiedAt
import Derived.Stop.Joined
namespace Go.Proofs.YtcdpmgdocgddcaaDoor
open Go.ChangeShapes Go.WideShapes Go.ChangeAt Go.RowKit
set_option maxRecDepth 100000
attribute [local go_sem] ext_refl_t ext_alloc_t ext_drew_t ext_drewN_t ext_alloc2_t ext_alloc3_t ext_alloc4_t ext_alloc5_t ext_alloc6_t ext_alloc7_t ext_alloc8_t ext_alloc1d_t ext_alloc2d_t ext_alloc3d_t ext_alloc4d_t
def laidL2 : List (String × DataW Unit) := Rows.updateKeepsRow.laid
theorem tabs2 {W : World} (h : laidMetH Tryd.prog laidL2 W) : Tabs W := tabs_of_laid h
/-- An entry of the result that has the target of another one. -/
def hasT (x y : Ep) : Bool := decide (y.tgt = x.tgt) && (decide (y.id = x.id) || (decide ((fld reusB y.fd).getD ⟨#[]⟩ = x.id) && decide (y.st = 1)))
section
variable {w : World}
set_option maxHeartbeats 12800000 in
theorem keeps_walk {x : Cat} (hx : CatW w x) {h : SlH} {es : List Ent} (hs : EntsW w h es) (hT : Tabs w) :
    Calls Tryd.prog 3 #[catV x, .slice h.A h.m h.c] w fun e w' => e = .returned (.bool true) ∧ Ext w w' := by
  obtain ⟨tag, com, fd, ces, hc, hd, he⟩ := x
  have HX := Lib.hid hx
  have HS := Lib.hid hs
  have HTT := Lib.hid hT
  have hle := hs.sl.le
  have hle2 := hx.e.sl.le
  have HL := Lib.hid hs.sl.len
  have HL2 := Lib.hid hx.e.sl.len
  dsimp only at hle2 HL2
  unfold catV
  dsimp only
  have hb := Blk.new w 26 #[.string tag, .slice hc.A hc.m hc.c, .slice hd.A hd.m hd.c, .slice he.A he.m he.c]
  have hE1 : Ext w (w.alloc (Obj.cells #[.string tag, .slice hc.A hc.m hc.c, .slice hd.A hd.m hd.c, .slice he.A he.m he.c] 26)) := (Ext.refl w).alloc _
  obtain ⟨W1, hW1⟩ : ∃ W1, W1 = w.alloc (Obj.cells #[.string tag, .slice hc.A hc.m hc.c, .slice hd.A hd.m hd.c, .slice he.A he.m he.c] 26) := ⟨_, rfl⟩
  rw [← hW1] at hb hE1
  obtain ⟨g, hg⟩ : ∃ g, g = w.heap.size := ⟨_, rfl⟩
  rw [← hg] at hb
  have X0 := laters (show _ = some (.string tag) from hb.cell 0)
  have X1 := laters (show _ = some (.slice hc.A hc.m hc.c) from hb.cell 1)
  have X2 := laters (show _ = some (.slice hd.A hd.m hd.c) from hb.cell 2)
  have X3 := laters (show _ = some (.slice he.A he.m he.c) from hb.cell 3)
  clear hb hx hs hT
  go_enter Tryd.func3, Tryd.ntmps3
  go_upto_region 1 with fail
  rw [← hW1, ← hg]
  clear hW1 hg
  go_wp2_with (first
    | (go_at_call 8; refine Hid.out ?_))
  refine Hid.mk_ (((awake47_any (HTT.out.ext hE1))).mono ?_)
  rintro e w2 ⟨rfl, hE2⟩
  have hE02 := hE1.trans hE2
  have hfw := few47_any (HX.out.ext hE02) (EntsW.ext HS.out hE02)
  unfold catV at hfw
  dsimp only at hfw
  go_wp2_with (first
    | (go_at_call 9; refine Hid.out ?_))
  refine Hid.mk_ ((hfw).mono ?_)
  rintro e w3 ⟨rfl, hE3⟩
  have hE13 := hE2.trans hE3
  have hE03 := hE02.trans hE3
  clear hfw hE2 hE3 hE02
  cases hf1 : few47 (Cat.p ⟨tag, com, fd, ces, hc, hd, he⟩) (es.map Ent.p) with
  | false =>
    clear hf1
    go_wp2
    go_ret
    exact ⟨rfl, hE03⟩
  | true =>
  have HFW := Lib.hid (few47_parts hf1)
  have hm8 : h.m ≤ 8 := by have h1 := HFW.out.2.1; have h2 := HL.out; rw [List.length_map] at h1; omega
  have hn8 : he.m ≤ 8 := by have h1 := HFW.out.1; have h2 := HL2.out; rw [show (Cat.p ⟨tag, com, fd, ces, hc, hd, he⟩).es = ces.map Ent.p from rfl, List.length_map] at h1; omega
  clear hf1
  have hup := update_any (HX.out.ext hE03) (EntsW.ext HS.out hE03) (HTT.out.ext hE03) (fun y hy => Nat.le_trans (HFW.out.2.2.1 y.p (List.mem_map_of_mem hy)) (by omega)) (fun y hy => Nat.le_trans (HFW.out.2.2.2 y.p (List.mem_map_of_mem hy)) (by omega))
  unfold catV at hup
  dsimp only at hup
  go_wp2_with (first
    | (go_at_call 10; refine Hid.out ?_))
  refine Hid.mk_ ((hup).mono ?_)
  rintro e w4 ⟨⟨atag, acom, afd, aes, ahc, ahd, ahe⟩, R, r, k, rfl, hupd, hW4, hR4, hE4⟩
  clear hup
  unfold catV repA
  dsimp only
  have HUPD := Lib.hid hupd
  have HW4 := Lib.hid hW4
  have HR4 := Lib.hid hR4
  have HL4 := Lib.hid hW4.e.sl.len
  have hle4 := hW4.e.sl.le
  dsimp only at HL4 hle4
  have hbA := Blk.new w4 26 #[.string atag, .slice ahc.A ahc.m ahc.c, .slice ahd.A ahd.m ahd.c, .slice ahe.A ahe.m ahe.c]
  have hbR := Blk.new1 w4 (Obj.cells #[.string atag, .slice ahc.A ahc.m ahc.c, .slice ahd.A ahd.m ahd.c, .slice ahe.A ahe.m ahe.c] 26) 30 #[.slice (R 0).A (R 0).m (R 0).c, .slice (R 1).A (R 1).m (R 1).c, .slice (R 2).A (R 2).m (R 2).c, .slice (R 3).A (R 3).m (R 3).c, .slice (R 4).A (R 4).m (R 4).c, .slice (R 5).A (R 5).m (R 5).c, .slice (R 6).A (R 6).m (R 6).c]
  have hbA' := hbA.alloc (Obj.cells #[.slice (R 0).A (R 0).m (R 0).c, .slice (R 1).A (R 1).m (R 1).c, .slice (R 2).A (R 2).m (R 2).c, .slice (R 3).A (R 3).m (R 3).c, .slice (R 4).A (R 4).m (R 4).c, .slice (R 5).A (R 5).m (R 5).c, .slice (R 6).A (R 6).m (R 6).c] 30)
  obtain ⟨W5, hW5⟩ : ∃ W5, W5 = (w4.alloc (Obj.cells #[.string atag, .slice ahc.A ahc.m ahc.c, .slice ahd.A ahd.m ahd.c, .slice ahe.A ahe.m ahe.c] 26)).alloc (Obj.cells #[.slice (R 0).A (R 0).m (R 0).c, .slice (R 1).A (R 1).m (R 1).c, .slice (R 2).A (R 2).m (R 2).c, .slice (R 3).A (R 3).m (R 3).c, .slice (R 4).A (R 4).m (R 4).c, .slice (R 5).A (R 5).m (R 5).c, .slice (R 6).A (R 6).m (R 6).c] 30) := ⟨_, rfl⟩
  rw [← hW5] at hbA' hbR
  have hE45 : Ext w4 W5 := by rw [hW5]; exact ((Ext.refl _).alloc _).alloc _
  obtain ⟨g6, hg6⟩ : ∃ g6, g6 = w4.heap.size + 1 := ⟨_, rfl⟩
  obtain ⟨g5, hg5⟩ : ∃ g5, g5 = w4.heap.size := ⟨_, rfl⟩
  rw [← hg5] at hbA'
  rw [← hg6] at hbR
  go_upto_region 6 with fail
  rw [← hW5, ← hg6, ← hg5]
  have HBA := Lib.hid hbA'
  have HBR := Lib.hid hbR
  have HE35 := Lib.hid (hE4.trans hE45)
  have HE15 := Lib.hid (hE13.trans HE35.out)
  have HE05 := Lib.hid (hE03.trans HE35.out)
  have HE45 := Lib.hid hE45
  clear hbA hbA' hbR hupd hW4 hR4 hE45 hE4 hE13 hE03 hE1 hW5 hg5 hg6
  have HA3 := laters (show W5.cell? ⟨g5, 3, none⟩ = some (.slice ahe.A ahe.m ahe.c) from HBA.out.cell 3)
  have HE5 := Lib.hid (Ext.refl W5)
  have HPA : Hid (∀ z ∈ aes, z.p ∈ (Cat.p ⟨atag, acom, afd, aes, ahc, ahd, ahe⟩).es) := fun z hz => List.mem_map_of_mem hz
  rcases updP_three (Cat.p ⟨tag, com, fd, ces, hc, hd, he⟩) (es.map Ent.p) with h3 | h3 | ⟨h3, h4, h5⟩
  · have hk : k = 1 := congrArg (·.2.2) (HUPD.out.trans h3)
    subst hk
    clear h3
    go_wp2
    go_ret
    exact ⟨rfl, HE05.out⟩
  · have hk : k = 6 := congrArg (·.2.2) (HUPD.out.trans h3)
    subst hk
    clear h3
    go_wp2
    go_ret
    exact ⟨rfl, HE05.out⟩
  have hk : k = 0 := congrArg (·.2.2) (HUPD.out.trans h5)
  subst hk
  have HAP : Hid (Cat.p ⟨atag, acom, afd, aes, ahc, ahd, ahe⟩ = (Cat.p ⟨tag, com, fd, ces, hc, hd, he⟩).w (updU (ces.map Ent.p) (es.map Ent.p)).es) := by have h9 := congrArg Prod.fst (HUPD.out.trans h5); exact h9
  have HVA : Hid (validC (Cat.p ⟨atag, acom, afd, aes, ahc, ahd, ahe⟩) = true) := by show _ = _; rw [HAP.out]; exact h4
  have HKE : Hid (∀ x ∈ ces, x.p.tgt.size ≠ 0 → ∃ y ∈ aes, hasT x.p y.p = true) := by
    intro x hx ht
    obtain ⟨ys, zs, tk, hD⟩ := updU_D (ces.map Ent.p) (es.map Ent.p)
    obtain ⟨y, hy, h1, h2⟩ := hD.keeps (proper_nd h3) (List.mem_map_of_mem hx) ht
    have h6 : y ∈ (Cat.p ⟨atag, acom, afd, aes, ahc, ahd, ahe⟩).es := by rw [HAP.out]; exact hy
    obtain ⟨z, hz, rfl⟩ := List.mem_map.1 h6
    refine ⟨z, hz, ?_⟩
    unfold hasT
    rw [decide_eq_true h1, Bool.true_and]
    rcases h2 with h2 | ⟨h2, h7⟩
    · rw [decide_eq_true h2, Bool.true_or]
    · rw [h2, decide_eq_true h7, decide_eq_true (show (some x.p.id).getD _ = x.p.id from rfl)]
      simp
  clear h3 h4 h5 HUPD
  have hE15 := HE15.out
  have hE5 := HE5.out
  go_wp2
  clear hE15 hE5
  go_loopw [8] (fun v wr => ∃ q : Nat, q ≤ he.m ∧ v = .int .i64 q ∧ Hid (Ext W5 wr)) (fun v _ => he.m - (intOf v).toNat)
  case atStart => exact ⟨0, Nat.zero_le _, rfl, Ext.refl _⟩
  case round =>
    obtain ⟨q, hq, rfl, HER⟩ := hrel
    have hER := HER.out
    have hE1r := HE15.out.trans hER
    by_cases hlt : q < he.m
    · have hskip : True := trivial
      --S[ l1
      obtain ⟨xzb, xzo, hzA, -, hcs⟩ := ((HX.out.ext (HE05.out.trans hER)).e).sl.at_ hlt (by omega)
      have HxzA := Lib.hid hzA
      clear hzA
      have xzlt : q < (ces).length := by rw [← (HL2).out]; exact hlt
      obtain ⟨y, hyq⟩ : ∃ y, y = (ces)[q] := ⟨_, rfl⟩
      have y0 := hcs q xzlt 0 (by omega)
      have y1 := hcs q xzlt 1 (by omega)
      have y2 := hcs q xzlt 2 (by omega)
      have y3 := hcs q xzlt 3 (by omega)
      have y4 := hcs q xzlt 4 (by omega)
      have y5 := hcs q xzlt 5 (by omega)
      have y6 := hcs q xzlt 6 (by omega)
      simp only [← hyq, entC, List.getElem_cons_zero, List.getElem_cons_succ, Nat.add_zero, ← Nat.add_assoc] at y0 y1 y2 y3 y4 y5 y6
      have HxzM : Hid (y ∈ ces) := by show _ ∈ _; rw [hyq]; exact List.getElem_mem xzlt
      have HxzW : Hid (EntW wr y) := ((HX.out.ext (HE05.out.trans hER)).e).good y HxzM.out
      have HxzQ : Hid ((ces)[q]? = some y) := by show _ = _; rw [List.getElem?_eq_getElem xzlt, hyq]
      have xzi : (q : Int) < (he.m : Int) := by omega
      clear hcs hyq
      obtain ⟨⟨xid, xsrc, xtgt, xcom, xfl, xst, xfd⟩, xhc, xhf, xhd⟩ := y
      dsimp only at y0 y1 y2 y3 y4 y5 y6
      have hbY := Blk.new wr 35 #[.string xid, .string xsrc, .string xtgt, .slice xhc.A xhc.m xhc.c, .slice xhf.A xhf.m xhf.c, .int .i64 xst, .slice xhd.A xhd.m xhd.c]
      obtain ⟨W6, hW6⟩ : ∃ W : World, W = wr.alloc (Obj.cells #[.string xid, .string xsrc, .string xtgt, .slice xhc.A xhc.m xhc.c, .slice xhf.A xhf.m xhf.c, .int .i64 xst, .slice xhd.A xhd.m xhd.c] 35) := ⟨_, rfl⟩
      rw [← hW6] at hbY
      have hEW6 : Ext wr W6 := by rw [hW6]; exact (Ext.refl _).alloc _
      obtain ⟨g9, hg9⟩ : ∃ n, n = wr.heap.size := ⟨_, rfl⟩
      rw [← hg9] at hbY
      have Yx0 := laters (show _ = some (.string xid) from hbY.cell 0)
      have Yx1 := laters (show _ = some (.string xsrc) from hbY.cell 1)
      have Yx2 := laters (show _ = some (.string xtgt) from hbY.cell 2)
      have Yx3 := laters (show _ = some (.slice xhc.A xhc.m xhc.c) from hbY.cell 3)
      have Yx4 := laters (show _ = some (.slice xhf.A xhf.m xhf.c) from hbY.cell 4)
      have Yx5 := laters (show _ = some (.int .i64 xst) from hbY.cell 5)
      have Yx6 := laters (show _ = some (.slice xhd.A xhd.m xhd.c) from hbY.cell 6)
      clear hbY
      have X3r := X3 wr hE1r
      rw [show he.A = some ⟨xzb, xzo, none⟩ from HxzA.out] at X3r
      clear hE1r hER
      by_cases ht : xtgt.size = 0
      · have ht1 : xtgt.toList.isEmpty = true := by rw [isEmpty_size, ht]; rfl
        clear ht
        have HE6 : Hid (Ext W5 W6) := HER.out.trans hEW6
        go_upto_region 12 with fail
        rw [← hW6, ← hg9]
        clear hW6 hg9 y0 y1 y2 y3 y4 y5 y6 X3r
        have hE66 := Ext.refl W6
        go_wp2
        go_roundw
        case rel => exact ⟨q + 1, by omega, by go_num, HE6.out⟩
        case measure => simp [intOf]; omega
      · have ht1 : xtgt.toList.isEmpty = false := by rw [isEmpty_size]; exact decide_eq_false ht
        have HXT : Hid (∃ y ∈ aes, hasT ⟨xid, xsrc, xtgt, xcom, xfl, xst, xfd⟩ y.p = true) := HKE.out _ HxzM.out ht
        clear ht
        have HE6 := Lib.hid (HER.out.trans hEW6)
        have HE16 := Lib.hid (HE15.out.trans HE6.out)
        go_upto_region 12 with fail
        rw [← hW6, ← hg9]
        clear hW6 hg9 y0 y1 y2 y3 y4 y5 y6 X3r
        have hE66 := Ext.refl W6
        have hE56 := HE6.out
        go_wp2
        obtain ⟨wo, rfl⟩ : ∃ wo : World, wo = wr := ⟨_, rfl⟩
        clear hE66 hE56
        go_loopw [11, 10] (fun v f wr => ∃ j : Nat, j ≤ ahe.m ∧ v = .int .i64 j ∧ Hid (Ext W6 wr) ∧ f = .bool ((aes.take j).any fun y => hasT ⟨xid, xsrc, xtgt, xcom, xfl, xst, xfd⟩ y.p)) (fun v _ _ => ahe.m - (intOf v).toNat)
        case atStart => exact ⟨0, Nat.zero_le _, rfl, Ext.refl _, rfl⟩
        case round =>
          obtain ⟨j, hj, rfl, HEJ, rfl⟩ := hrel
          have hEJ := HEJ.out
          have hE5j := HE6.out.trans hEJ
          by_cases hlj : j < ahe.m
          · have hskip : True := trivial
            obtain ⟨zzb, zzo, hzA, -, hcs⟩ := ((HW4.out.ext (HE45.out.trans hE5j)).e).sl.at_ hlj (by omega)
            have HzzA := Lib.hid hzA
            clear hzA
            have zzlt : j < (aes).length := by rw [← (HL4).out]; exact hlj
            obtain ⟨y, hyq⟩ : ∃ y, y = (aes)[j] := ⟨_, rfl⟩
            have y0 := hcs j zzlt 0 (by omega)
            have y1 := hcs j zzlt 1 (by omega)
            have y2 := hcs j zzlt 2 (by omega)
            have y3 := hcs j zzlt 3 (by omega)
            have y4 := hcs j zzlt 4 (by omega)
            have y5 := hcs j zzlt 5 (by omega)
            have y6 := hcs j zzlt 6 (by omega)
            simp only [← hyq, entC, List.getElem_cons_zero, List.getElem_cons_succ, Nat.add_zero, ← Nat.add_assoc] at y0 y1 y2 y3 y4 y5 y6
            have HzzM : Hid (y ∈ aes) := by show _ ∈ _; rw [hyq]; exact List.getElem_mem zzlt
            have HzzW : Hid (EntW wr y) := ((HW4.out.ext (HE45.out.trans hE5j)).e).good y HzzM.out
            have HzzQ : Hid ((aes)[j]? = some y) := by show _ = _; rw [List.getElem?_eq_getElem zzlt, hyq]
            have zzi : (j : Int) < (ahe.m : Int) := by omega
            clear hcs hyq
            obtain ⟨⟨zid, zsrc, ztgt, zcom, zfl, zst, zfd⟩, zhc, zhf, zhd⟩ := y
            dsimp only at y0 y1 y2 y3 y4 y5 y6
            have hbY := Blk.new wr 35 #[.string zid, .string zsrc, .string ztgt, .slice zhc.A zhc.m zhc.c, .slice zhf.A zhf.m zhf.c, .int .i64 zst, .slice zhd.A zhd.m zhd.c]
            obtain ⟨W7, hW7⟩ : ∃ W : World, W = wr.alloc (Obj.cells #[.string zid, .string zsrc, .string ztgt, .slice zhc.A zhc.m zhc.c, .slice zhf.A zhf.m zhf.c, .int .i64 zst, .slice zhd.A zhd.m zhd.c] 35) := ⟨_, rfl⟩
            rw [← hW7] at hbY
            have hEW7 : Ext wr W7 := by rw [hW7]; exact (Ext.refl _).alloc _
            obtain ⟨g12, hg12⟩ : ∃ n, n = wr.heap.size := ⟨_, rfl⟩
            rw [← hg12] at hbY
            have Yz0 := laters (show _ = some (.string zid) from hbY.cell 0)
            have Yz1 := laters (show _ = some (.string zsrc) from hbY.cell 1)
            have Yz2 := laters (show _ = some (.string ztgt) from hbY.cell 2)
            have Yz3 := laters (show _ = some (.slice zhc.A zhc.m zhc.c) from hbY.cell 3)
            have Yz4 := laters (show _ = some (.slice zhf.A zhf.m zhf.c) from hbY.cell 4)
            have Yz5 := laters (show _ = some (.int .i64 zst) from hbY.cell 5)
            have Yz6 := laters (show _ = some (.slice zhd.A zhd.m zhd.c) from hbY.cell 6)
            clear hbY
            have A3r := HA3 wr hE5j
            rw [show ahe.A = some ⟨zzb, zzo, none⟩ from HzzA.out] at A3r
            have HTK : Hid (((aes.take (j + 1)).any fun y => hasT ⟨xid, xsrc, xtgt, xcom, xfl, xst, xfd⟩ y.p) = (((aes.take j).any fun y => hasT ⟨xid, xsrc, xtgt, xcom, xfl, xst, xfd⟩ y.p) || hasT ⟨xid, xsrc, xtgt, xcom, xfl, xst, xfd⟩ ⟨zid, zsrc, ztgt, zcom, zfl, zst, zfd⟩)) := by
              show _ = _
              rw [List.take_succ_eq_append_getElem zzlt, List.any_append, (List.getElem?_eq_some_iff.1 HzzQ.out).2]
              simp
            have HE7 := Lib.hid (HEJ.out.trans hEW7)
            clear hEJ hE5j
            obtain ⟨f0, hf0⟩ : ∃ f0, f0 = (aes.take j).any fun y => hasT ⟨xid, xsrc, xtgt, xcom, xfl, xst, xfd⟩ y.p := ⟨_, rfl⟩
            have HF0 := Lib.hid hf0
            rw [← hf0]
            clear hf0
            go_upto_region 18 with fail
            rw [← hW7, ← hg12]
            clear hW7 hg12 y0 y1 y2 y3 y4 y5 y6 A3r
            have hE77 := Ext.refl W7
            go_wp2_with (first
              | (go_at_call 11; refine Hid.out ?_))
            refine Hid.mk_ (((rfield_any (c := zhd.c) (HzzW.out.d.sl.ext hEW7) ⟨#[114, 101, 117, 115, 101, 100]⟩)).mono ?_)
            rintro e w8 ⟨⟨o, ho, rfl⟩, hE78⟩
            have HFO : Hid (o = fld reusB zfd) := ho.eq
            have HE8 := Lib.hid (HE7.out.trans hE78)
            have hE68 := HE8.out
            obtain ⟨ob_, HOB⟩ : ∃ u : ByteArray, Hid (u = o.getD ⟨#[]⟩) := ⟨_, rfl⟩
            have HFV : Hid (∃ t : Bool, FldV o = .tuple #[.string ob_, .bool t]) := by
              cases o with
              | none => exact ⟨false, by rw [HOB.out]; rfl⟩
              | some u => exact ⟨true, by rw [HOB.out]; rfl⟩
            obtain ⟨t, hft⟩ := HFV.out
            rw [hft]
            clear ho hft hE77 HzzW
            have HHT : Hid (hasT ⟨xid, xsrc, xtgt, xcom, xfl, xst, xfd⟩ ⟨zid, zsrc, ztgt, zcom, zfl, zst, zfd⟩ = (decide (ztgt = xtgt) && (decide (zid = xid) || (decide (ob_ = xid) && decide (zst = 1))))) := by
              show _ = _
              rw [HOB.out, HFO.out]
              rfl
            have hE5c := (HE6.out.trans HE8.out)
            have hE16c := hE78
            have HEN := Lib.hid HE8.out
            clear HE7 HFO HOB HFV HEJ
            cases f0 with
            | true =>
              have HN : Hid (((aes.take (j + 1)).any fun y => hasT ⟨xid, xsrc, xtgt, xcom, xfl, xst, xfd⟩ y.p) = true) := by show _ = _; rw [HTK.out, ← HF0.out]; rfl
              go_wp2
              go_roundw
              case rel => exact ⟨j + 1, by omega, by go_num, HEN.out, by rw [HN.out]⟩
              case measure => simp [intOf]; omega
            | false =>
              by_cases c1 : ztgt = xtgt
              · have e1 : (ztgt.toList == xtgt.toList) = true := by rw [c1]; simp
                by_cases c2 : zid = xid
                · have e2 : (zid.toList == xid.toList) = true := by rw [c2]; simp
                  have HN : Hid (((aes.take (j + 1)).any fun y => hasT ⟨xid, xsrc, xtgt, xcom, xfl, xst, xfd⟩ y.p) = true) := by show _ = _; rw [HTK.out, ← HF0.out, HHT.out, decide_eq_true c1, decide_eq_true c2]; rfl
                  clear c1 c2
                  go_wp2
                  go_roundw
                  case rel => exact ⟨j + 1, by omega, by go_num, HEN.out, by rw [HN.out]⟩
                  case measure => simp [intOf]; omega
                · have e2 : (zid.toList == xid.toList) = false := by rw [beq_eq_false_iff_ne]; exact fun e => c2 (toList_iff.1 e)
                  by_cases c3 : ob_ = xid
                  · have e3 : (ob_.toList == xid.toList) = true := by rw [c3]; simp
                    by_cases c4 : zst = 1
                    · have e4 : (zst == 1) = true := by rw [c4]; rfl
                      have HN : Hid (((aes.take (j + 1)).any fun y => hasT ⟨xid, xsrc, xtgt, xcom, xfl, xst, xfd⟩ y.p) = true) := by show _ = _; rw [HTK.out, ← HF0.out, HHT.out, decide_eq_true c1, decide_eq_false c2, decide_eq_true c3, decide_eq_true c4]; rfl
                      clear c1 c2 c3 c4
                      go_wp2
                      go_roundw
                      case rel => exact ⟨j + 1, by omega, by go_num, HEN.out, by rw [HN.out]⟩
                      case measure => simp [intOf]; omega
                    · have e4 : (zst == 1) = false := by rw [beq_eq_false_iff_ne]; exact c4
                      have HN : Hid (((aes.take (j + 1)).any fun y => hasT ⟨xid, xsrc, xtgt, xcom, xfl, xst, xfd⟩ y.p) = false) := by show _ = _; rw [HTK.out, ← HF0.out, HHT.out, decide_eq_true c1, decide_eq_false c2, decide_eq_true c3, decide_eq_false c4]; rfl
                      clear c1 c2 c3 c4
                      go_wp2
                      go_roundw
                      case rel => exact ⟨j + 1, by omega, by go_num, HEN.out, by rw [HN.out]⟩
                      case measure => simp [intOf]; omega
                  · have e3 : (ob_.toList == xid.toList) = false := by rw [beq_eq_false_iff_ne]; exact fun e => c3 (toList_iff.1 e)
                    have HN : Hid (((aes.take (j + 1)).any fun y => hasT ⟨xid, xsrc, xtgt, xcom, xfl, xst, xfd⟩ y.p) = false) := by show _ = _; rw [HTK.out, ← HF0.out, HHT.out, decide_eq_true c1, decide_eq_false c2, decide_eq_false c3]; rfl
                    clear c1 c2 c3
                    go_wp2
                    go_roundw
                    case rel => exact ⟨j + 1, by omega, by go_num, HEN.out, by rw [HN.out]⟩
                    case measure => simp [intOf]; omega
              · have e1 : (ztgt.toList == xtgt.toList) = false := by rw [beq_eq_false_iff_ne]; exact fun e => c1 (toList_iff.1 e)
                have HN : Hid (((aes.take (j + 1)).any fun y => hasT ⟨xid, xsrc, xtgt, xcom, xfl, xst, xfd⟩ y.p) = false) := by show _ = _; rw [HTK.out, ← HF0.out, HHT.out, decide_eq_false c1]; rfl
                clear c1
                go_wp2
                go_roundw
                case rel => exact ⟨j + 1, by omega, by go_num, HEN.out, by rw [HN.out]⟩
                case measure => simp [intOf]; omega
          · have hi1 : ¬ (j : Int) < (ahe.m : Int) := by omega
            have HFT : Hid (((aes.take j).any fun y => hasT ⟨xid, xsrc, xtgt, xcom, xfl, xst, xfd⟩ y.p) = true) := by
              show _ = _
              rw [List.take_of_length_le (by have := HL4.out; omega), List.any_eq_true]
              exact HXT.out
            rw [HFT.out]
            have HEX := Lib.hid hE5j
            clear hEJ
            go_wp2
            go_roundw
            case rel => first | exact ⟨q + 1, by omega, by go_num, HEX.out⟩ | exact ⟨q + 1, by omega, by go_num, trivial⟩
            case measure => simp [intOf]; omega
      --S]
    · have hi1 : ¬ (q : Int) < (he.m : Int) := by omega
      have HEW := Lib.hid (HE45.out.trans hER)
      have HEX := Lib.hid (HE05.out.trans hER)
      have A0 := later hER (HBA.out.cell 0)
      have A1 := later hER (HBA.out.cell 1)
      have A2 := later hER (HBA.out.cell 2)
      have A3 := later hER (HBA.out.cell 3)
      dsimp at A0 A1 A2 A3
      have hqh := reqH_any (HW4.out.ext HEW.out) (HX.out.ext HEX.out)
      have HEH : Hid (eqH (Cat.p ⟨atag, acom, afd, aes, ahc, ahd, ahe⟩) (Cat.p ⟨tag, com, fd, ces, hc, hd, he⟩) = true) := by
        show _ = _
        rw [HAP.out]
        unfold eqH
        simp [Cp.w]
      rw [HEH.out] at hqh
      unfold catV at hqh
      dsimp only at hqh
      clear hER
      go_wp2_with (first
        | (go_at_call 12; refine Hid.out ?_))
      refine Hid.mk_ ((hqh).mono ?_)
      rintro e w8 ⟨rfl, hE8⟩
      have HEX8 := Lib.hid (HEX.out.trans hE8)
      have B0 := later hE8 A0
      have B1 := later hE8 A1
      have B2 := later hE8 A2
      have B3 := later hE8 A3
      have hqv := rvalid_any (HW4.out.ext (HEW.out.trans hE8))
      rw [HVA.out] at hqv
      unfold catV at hqv
      dsimp only at hqv
      clear hqh A0 A1 A2 A3 hE8 hE1r
      go_wp2_with (first
        | (go_at_call 13; refine Hid.out ?_))
      refine Hid.mk_ ((hqv).mono ?_)
      rintro e w9 ⟨rfl, hE9⟩
      have HEX9 := Lib.hid (HEX8.out.trans hE9)
      clear hqv hE9
      go_wp2
      go_ret
      exact ⟨rfl, HEX9.out⟩
end
set_option maxRecDepth 100000 in
theorem liftedUpdateKeeps (os : Os) (started : os.Started) (H : Type) (enc : TypeId × Value → H) :
    ReturnsInHanded {} Tryd.checked os 3 .any (fun w args => (Rows.updateKeepsSpec.pre enc Tryd.prog Tryd.f3 [] false w args ∧ laidMetH Tryd.prog laidL2 w) ∧ sizedMet enc Tryd.prog Tryd.f3 (OpenSpec.ofChange Rows.updateKeepsSpec) false w args) (Rows.updateKeepsSpec.post enc Tryd.prog Tryd.f3 false true false false) := by
  refine returnsInHanded_of_change_and (C := Tryd.checked) (X := fun w _ => laidMetH Tryd.prog laidL2 w) (fun _ _ _ hh h => h.of_heap hh) ownK started (by kernel_rfl) Tryd.func3
    (ChangeSpec.witness_shaped (enc := enc) (C := Tryd.checked) (os := os) (X := fun w _ => laidMetH Tryd.prog laidL2 w) false (World.laidAll Tryd.prog os laidL2) #[.agg #[.string ⟨#[]⟩, .slice none 0 0, .slice none 0 0, .slice none 0 0], .slice none 0 0] 8 (World.laidAll_os _ _ _)
      (World.shaped_of_ZipB (by kernel_rfl) (by kernel_rfl)) (by kernel_rfl) (by kernel_rfl) (by kernel_rfl)
      (by rw [MakeChecks.laidMetH_plain _ _ _ (by kernel_rfl)]; exact laidMet_laidAll _ (by kernel_rfl) (by kernel_rfl))) ?_
  intro W base args ds gs before hval0 hW hcnd hsz0 hL _
  have hT := tabs2 hL
  have hval : ∀ (j : Nat) t v, Tryd.f3.params[j]? = some t → args[j]? = some v → Value.okWide Tryd.prog W .any base t v := hval0
  have hW' := hW
  obtain ⟨p, q, hA0, hV, rfl, hfz, hnd⟩ := hW
  have hA : DataW.TrodAll enc Tryd.prog W 0 (fun _ => true) true Tryd.f3.params.toList args.toList ds p := hA0
  have hsz : (DataW.weightsEach Tryd.prog (Tryd.f3.params.toList ++ Rows.updateKeepsSpec.plain.varTypes Tryd.prog) (ds ++ gs)).all (· ≤ reachBytes) = true := hsz0
  rw [Tryd.params3] at hA hval hsz
  obtain ⟨v0, vs0, d0, ds0, p0, q0, hargs0, rfl, rfl, h0, r0⟩ := trodAll_cons hA
  obtain ⟨v1, vs1, d1, ds1, p1, q1, hargs1, rfl, rfl, h1, r1⟩ := trodAll_cons r0
  obtain ⟨rfl, rfl, rfl⟩ := trodAll_nil r1
  obtain rfl : args = #[v0, v1] := by cases args; simp_all
  obtain ⟨rfl, rfl⟩ := trodVars_none hV
  have k0 := h0
  have lt0 : ∀ x ∈ p0, x.block < W.heap.size := by obtain ⟨m, hm⟩ := k0; exact DataW.trod_lt m _ _ _ hm
  have k1 := h1
  have lt1 : ∀ x ∈ p1, x.block < W.heap.size := by obtain ⟨m, hm⟩ := k1; exact DataW.trod_lt m _ _ _ hm
  obtain ⟨x0, rfl, g0⟩ := opn_top_agg opn_cat ((okWide_struct Tryd.underlying26 (hval 0 26 v0 rfl rfl)).imp fun _ hh => hh.1) h0 (WOk.top hsz (j := 0) rfl rfl)
  obtain ⟨A1, m1, c1, l1, rfl, wf1, gf1, hc1, hb1⟩ := opn_top_slice Tryd.underlying24 opn_entries (hval 1 24 v1 rfl rfl) h1 (WOk.top hsz (j := 1) rfl rfl)
  have g1 : EntsW W ⟨A1, m1, c1⟩ l1 := ⟨wf1, hc1, Nat.le_trans (Nat.mul_le_mul_right _ hc1) hb1, gf1⟩
  clear hA0 hval0
  refine (keeps_walk g0 g1 hT).mono fun e W' ⟨he, bel⟩ => ?_
  subst he
  exact ⟨_, rfl, _, _, _, [], _, [], hW', trodAll_mk1 (shut_bool Tryd.underlying4 _), (trodAll_cons_mk (Below.trod laidK (by kernel_rfl) (of_decide_eq_true (by kernel_rfl)) k0 bel lt0) (trodAll_cons_mk (Below.trod laidK (by kernel_rfl) (of_decide_eq_true (by kernel_rfl)) k1 bel lt1) trodAll_mk0)), rfl, Below.frame bel _, fun h => by cases h⟩
theorem UpdateKeeps_row : Rows.UpdateKeepsSaid :=
  OpenClaim.holds_of_wide 3 Tryd.f3 rfl rfl rfl rfl rfl rfl rfl ⟨rfl, rfl, rfl, rfl, rfl⟩ rfl rfl rfl rfl rfl (by kernel_rfl) Tryd.func3 (by kernel_rfl)
    (of_decide_eq_true (by kernel_rfl)) (by unfold Func.isWrapper; rw [if_neg (of_decide_eq_false (by kernel_rfl))]; exact ⟨rfl, rfl⟩)
    (fun os started H enc _ => liftedUpdateKeeps os started H enc)
theorem UpdateKeeps_holds : Rows.UpdateKeepsCardSaid :=
  Claim7.holds_tied_plain_at .later [] Rows.updateKeepsCard.laidKinds true Rows.updateKeepsCard.stood.harness Rows.updateKeepsCard.stood.looks
    UpdateKeeps_row (fun _ h => by cases h) (by kernel_rfl) (fun _ h => by cases h) updateKeeps_row_tie rfl ⟨rfl, rfl⟩ (by kernel_rfl) rfl
    (fun f fn hf hfn => by
      obtain rfl : f = 3 := Option.some.inj ((show Tryd.prog.funcNamed Rows.updateKeepsRow.func = some 3 by kernel_rfl).symm.trans hf) |>.symm
      obtain rfl : fn = Tryd.f3 := (Option.some.inj (Tryd.func3.symm.trans hfn)).symm
      exact ⟨by kernel_rfl, fun j t ht => by
        rw [Tryd.params3] at ht
        have hm : t ∈ [26, 24] := by simpa using Array.mem_of_getElem? ht
        have hall : ([26, 24].all fun u => !Tryd.prog.wantsStandIn u) = true := by kernel_rfl
        exact (show Tryd.prog.wantsStandIn t = false by simpa using List.all_eq_true.1 hall t hm)⟩)
    (by kernel_rfl)
#print axioms UpdateKeeps_holds
end Go.Proofs.YtcdpmgdocgddcaaDoor
