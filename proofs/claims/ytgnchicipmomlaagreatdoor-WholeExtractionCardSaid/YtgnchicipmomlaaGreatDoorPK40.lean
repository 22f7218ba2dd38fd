/- The entry of an extracted one that the catalog has: what the program computes. -/
import Derived.Test.YtgnchicipmomlaaGreatDoorPK28
import Derived.Deep.DeepCutAuto
namespace Go.Proofs.YtgnchicipmomlaaGreatDoor
open Go.RowKit
set_option maxRecDepth 100000
attribute [local go_sem] ext_refl_t ext_alloc_t ext_drew_t ext_drewN_t ext_alloc2_t ext_alloc3_t ext_alloc4_t ext_alloc5_t ext_alloc6_t ext_alloc7_t ext_alloc8_t ext_alloc1d_t ext_alloc2d_t ext_alloc3d_t ext_alloc4d_t
section
variable {w : World} {B U : Nat} {c : Cat} {R : Nat → SlH} {bi ni bt nt : Nat} {F : ByteArray → Option Nat} {r : Rep} {tk : List ByteArray}
/-- The list that an entry goes to. -/
def knI (x y : Ep) : Nat := if x.src = y.src then (if y.st = 4 then 2 else 0) else 1
set_option maxHeartbeats 25600000 in
theorem known_any (hU : UpS w B U c R bi ni bt nt F r tk) (hB : B ≤ w.heap.size) {x y : Ent} (hx : EntW w x) (hy : EntW w y) (hxf : x.p.fd.length ≤ 20) (hyf : y.p.fd.length ≤ 20) (hl : ∀ i, i < 7 → (repL r i).length ≤ 100000) :
    Calls Tryz.prog 14 #[.pointer (some ⟨U, 0, none⟩), entV x, entV y] w fun e w' => ∃ (z : Ent) (R' : Nat → SlH), e = .returned (entV z) ∧ z.p = knownP x.p y.p ∧ EntW w' z ∧ EntS (UpB U bi bt R') z ∧ (∀ g, g < w.heap.size → EntA (some g) z) ∧
      UpS w' B U c R' bi ni bt nt F (addR r (knI x.p y.p) x.p.id) tk ∧ (∀ g, UpB U bi bt R' g → UpB U bi bt R g ∨ w.heap.size ≤ g) ∧ KpS (UpB U bi bt R) w w' := by
  obtain ⟨⟨xid, xsrc, xtgt, xcom, xfl, xst, xfd⟩, xhc, xhf, xhd⟩ := x
  obtain ⟨⟨yid, ysrc, ytgt, ycom, yfl, yst, yfd⟩, yhc, yhf, yhd⟩ := y
  unfold entV
  dsimp only at hxf hyf ⊢
  have HU := Lib.hid hU
  have HX := Lib.hid hx
  have HY := Lib.hid hy
  have HLR := Lib.hid hl
  have hbx := Blk.new w 39 #[.string xid, .string xsrc, .string xtgt, .slice xhc.A xhc.m xhc.c, .slice xhf.A xhf.m xhf.c, .int .i64 xst, .slice xhd.A xhd.m xhd.c]
  have hby := Blk.new (w.alloc (Obj.cells #[.string xid, .string xsrc, .string xtgt, .slice xhc.A xhc.m xhc.c, .slice xhf.A xhf.m xhf.c, .int .i64 xst, .slice xhd.A xhd.m xhd.c] 39)) 39 #[.string yid, .string ysrc, .string ytgt, .slice yhc.A yhc.m yhc.c, .slice yhf.A yhf.m yhf.c, .int .i64 yst, .slice yhd.A yhd.m yhd.c]
  have hbr := Blk.new ((w.alloc (Obj.cells #[.string xid, .string xsrc, .string xtgt, .slice xhc.A xhc.m xhc.c, .slice xhf.A xhf.m xhf.c, .int .i64 xst, .slice xhd.A xhd.m xhd.c] 39)).alloc (Obj.cells #[.string yid, .string ysrc, .string ytgt, .slice yhc.A yhc.m yhc.c, .slice yhf.A yhf.m yhf.c, .int .i64 yst, .slice yhd.A yhd.m yhd.c] 39)) 39 #[.string ⟨#[]⟩, .string ⟨#[]⟩, .string ⟨#[]⟩, .slice none 0 0, .slice none 0 0, .int .i64 0, .slice none 0 0]
  obtain ⟨W3, hW3⟩ : ∃ W3, W3 = (((w.alloc (Obj.cells #[.string xid, .string xsrc, .string xtgt, .slice xhc.A xhc.m xhc.c, .slice xhf.A xhf.m xhf.c, .int .i64 xst, .slice xhd.A xhd.m xhd.c] 39)).alloc (Obj.cells #[.string yid, .string ysrc, .string ytgt, .slice yhc.A yhc.m yhc.c, .slice yhf.A yhf.m yhf.c, .int .i64 yst, .slice yhd.A yhd.m yhd.c] 39)).alloc (Obj.cells #[.string ⟨#[]⟩, .string ⟨#[]⟩, .string ⟨#[]⟩, .slice none 0 0, .slice none 0 0, .int .i64 0, .slice none 0 0] 39)) := ⟨_, rfl⟩
  have hE3 : Ext w W3 := by rw [hW3]; exact (((Ext.refl w).alloc _).alloc _).alloc _
  have s1 : (w.alloc (Obj.cells #[.string xid, .string xsrc, .string xtgt, .slice xhc.A xhc.m xhc.c, .slice xhf.A xhf.m xhf.c, .int .i64 xst, .slice xhd.A xhd.m xhd.c] 39)).heap.size = w.heap.size + 1 := by simp
  have s2 : ((w.alloc (Obj.cells #[.string xid, .string xsrc, .string xtgt, .slice xhc.A xhc.m xhc.c, .slice xhf.A xhf.m xhf.c, .int .i64 xst, .slice xhd.A xhd.m xhd.c] 39)).alloc (Obj.cells #[.string yid, .string ysrc, .string ytgt, .slice yhc.A yhc.m yhc.c, .slice yhf.A yhf.m yhf.c, .int .i64 yst, .slice yhd.A yhd.m yhd.c] 39)).heap.size = w.heap.size + 1 + 1 := by simp
  rw [s1] at hby
  rw [s2] at hbr
  have hbx3 : Blk W3 w.heap.size 39 #[.string xid, .string xsrc, .string xtgt, .slice xhc.A xhc.m xhc.c, .slice xhf.A xhf.m xhf.c, .int .i64 xst, .slice xhd.A xhd.m xhd.c] := by rw [hW3]; exact (hbx.alloc _).alloc _
  have hby3 : Blk W3 (w.heap.size + 1) 39 #[.string yid, .string ysrc, .string ytgt, .slice yhc.A yhc.m yhc.c, .slice yhf.A yhf.m yhf.c, .int .i64 yst, .slice yhd.A yhd.m yhd.c] := by rw [hW3]; exact hby.alloc _
  have hbr3 : Blk W3 (w.heap.size + 1 + 1) 39 #[.string ⟨#[]⟩, .string ⟨#[]⟩, .string ⟨#[]⟩, .slice none 0 0, .slice none 0 0, .int .i64 0, .slice none 0 0] := by rw [hW3]; exact hbr
  obtain ⟨gx, hgx⟩ : ∃ gx, gx = w.heap.size := ⟨_, rfl⟩
  obtain ⟨gy, hgy⟩ : ∃ gy, gy = w.heap.size + 1 := ⟨_, rfl⟩
  obtain ⟨gr, hgr⟩ : ∃ gr, gr = w.heap.size + 1 + 1 := ⟨_, rfl⟩
  rw [← hgr] at hbr3
  rw [← hgy] at hby3
  rw [← hgx] at hbx3
  clear hbx hby hbr s1 s2 hx hy hU hl
  go_enter Tryz.func14, Tryz.ntmps14
  go_upto_region 1 with fail
  rw [← hW3, ← hgr, ← hgy, ← hgx]
  have HG : Hid (w.heap.size ≤ gx ∧ w.heap.size ≤ gr ∧ gx < W3.heap.size) := ⟨by omega, by omega, hbx3.lt⟩
  clear hW3 hgr hgy hgx
  have X0 := laters (show _ = some (.string xid) from hbx3.cell 0)
  have X1 := laters (show _ = some (.string xsrc) from hbx3.cell 1)
  have X3 := laters (show _ = some (.slice xhc.A xhc.m xhc.c) from hbx3.cell 3)
  have X6 := laters (show _ = some (.slice xhd.A xhd.m xhd.c) from hbx3.cell 6)
  have Y0 := laters (show _ = some (.string yid) from hby3.cell 0)
  have Y1 := laters (show _ = some (.string ysrc) from hby3.cell 1)
  have Y2 := laters (show _ = some (.string ytgt) from hby3.cell 2)
  have Y3 := laters (show _ = some (.slice yhc.A yhc.m yhc.c) from hby3.cell 3)
  have Y4 := laters (show _ = some (.slice yhf.A yhf.m yhf.c) from hby3.cell 4)
  have Y5 := laters (show _ = some (.int .i64 yst) from hby3.cell 5)
  have Y6 := laters (show _ = some (.slice yhd.A yhd.m yhd.c) from hby3.cell 6)
  have HBR := Lib.hid hbr3
  clear hbx3 hby3 hbr3
  have hcp := ucopied_any (HY.out.ext hE3)
  unfold entV at hcp
  dsimp only at hcp
  go_wp2_with (first
    | (go_at_call 30; refine Hid.out ?_))
  refine Hid.mk_ ((hcp).mono ?_)
  rintro e w1 ⟨z0, rfl, hzp, hzW, hE1, hzA⟩
  clear hcp
  obtain ⟨⟨zid, zsrc, ztgt, zcom, zfl, zst, zfd⟩, zhc, zhf, zhd⟩ := z0
  dsimp only at hzp ⊢
  injection hzp with p1 p2 p3 p4 p5 p6 p7
  subst p1 p2 p3 p4 p5 p6 p7
  have hb7 := Blk.new w1 39 #[.string zid, .string zsrc, .string ztgt, .slice zhc.A zhc.m zhc.c, .slice zhf.A zhf.m zhf.c, .int .i64 zst, .slice zhd.A zhd.m zhd.c]
  obtain ⟨W7, hW7⟩ : ∃ W7, W7 = w1.alloc (Obj.cells #[.string zid, .string zsrc, .string ztgt, .slice zhc.A zhc.m zhc.c, .slice zhf.A zhf.m zhf.c, .int .i64 zst, .slice zhd.A zhd.m zhd.c] 39) := ⟨_, rfl⟩
  rw [← hW7] at hb7
  have hE17 : Ext w1 W7 := by rw [hW7]; exact (Ext.refl _).alloc _
  obtain ⟨g7, hg7⟩ : ∃ g7, g7 = w1.heap.size := ⟨_, rfl⟩
  rw [← hg7] at hb7
  go_upto_region 2 with fail
  rw [← hW7, ← hg7]
  have HG7 := Lib.hid hg7
  have hE37 := hE1.trans hE17
  have hEw7 := hE3.trans hE37
  have HHB := Lib.hid hb7
  clear hW7 hg7
  go_cut [] from 14 (fun wx => ∃ hc3 : SlH, Blk wx g7 39 #[.string zid, .string xsrc, .string ztgt, .slice hc3.A hc3.m hc3.c, .slice zhf.A zhf.m zhf.c, .int .i64 zst, .slice zhd.A zhd.m zhd.c] ∧ StrsW wx hc3 xcom ∧ (∀ k, ob hc3.A = some k → W7.heap.size ≤ k) ∧ Ext w1 wx)
  case first =>
    go_region_law (first
      | (go_simp; go_at_call 12; refine (cloneS_any (HX.out.c.ext (hEw7.trans (by first | exact Ext.refl _ | exact (Ext.refl _).drew)))).mono ?_; rintro e w8 ⟨⟨a8, m8, c8⟩, rfl, k8, o8, hE8'⟩; have hE78 := Ext.trans (by first | exact Ext.refl W7 | exact (Ext.refl W7).drew) hE8'; have hE38 := hE37.trans hE78; have hb8 := HHB.out.below hE78 HHB.out.lt; have d1 := hb8.cell 1; have d3 := hb8.cell 3; have f1 := hb8.frozen 1; have f3 := hb8.frozen 3)
      | fail)
    all_goals
      have HB9 : Hid (Blk ((w8.setCell ⟨g7, 1, none⟩ (.string xsrc)).setCell ⟨g7, 3, none⟩ (.slice a8 m8 c8)) g7 39 #[.string zid, .string xsrc, .string ztgt, .slice a8 m8 c8, .slice zhf.A zhf.m zhf.c, .int .i64 zst, .slice zhd.A zhd.m zhd.c]) := (hb8.set_ 1 _).set_ 3 _
      have hg78 : w1.heap.size ≤ g7 := by rw [HG7.out]; exact Nat.le_refl _
      have h78 := Nat.lt_of_lt_of_le HHB.out.lt (Nat.le_refl _)
      have ha : Apart (some g7) ⟨a8, m8, c8⟩ := Apart.of_ge (fun k hk => o8.ge k hk) (by first | exact HHB.out.lt | (simp; exact HHB.out.lt))
      have HK9 : Hid (StrsW ((w8.setCell ⟨g7, 1, none⟩ (.string xsrc)).setCell ⟨g7, 3, none⟩ (.slice a8 m8 c8)) ⟨a8, m8, c8⟩ xcom) := (k8.set_ (p := ⟨g7, 1, none⟩) ha _).set_ (p := ⟨g7, 3, none⟩) ha _
      have HE9 : Hid (Ext w1 ((w8.setCell ⟨g7, 1, none⟩ (.string xsrc)).setCell ⟨g7, 3, none⟩ (.slice a8 m8 c8))) := ((hE17.trans hE78).set_ (p := ⟨g7, 1, none⟩) hg78 _).set_ (p := ⟨g7, 3, none⟩) hg78 _
      have HO9 : Hid (∀ k, ob a8 = some k → W7.heap.size ≤ k) := fun k hk => by have h9 := o8.ge k hk; first | exact h9 | (simp at h9; exact h9)
      clear hb8 k8 o8 ha
      go_wp2
      go_meet
      case rel => exact ⟨⟨a8, m8, c8⟩, HB9.out, HK9.out, HO9.out, HE9.out⟩
  case rest =>
    obtain ⟨hc3, hb9, hk9, ho9, hE9⟩ := hcut
    have hE39 := hE1.trans hE9
    have hz9 := hzW.ext hE9
    have h7W : g7 < W7.heap.size := HHB.out.lt
    have hS0 : ∀ g, UpB U bi bt R g → g < w.heap.size := fun g hg => HU.out.lt hg
    have hsz3 := hE3.size_le
    have hsz1 := hE1.size_le
    have hsz7 := hE17.size_le
    have hg7e := HG7.out
    have hgr3 : gr < W3.heap.size := HBR.out.lt
    have hzr : ∀ r : Nat, r < W3.heap.size → EntA (some r) ⟨⟨zid, zsrc, ztgt, zcom, zfl, zst, zfd⟩, zhc, zhf, zhd⟩ := fun r hr => hzA (some r) fun k hk => by injection hk with hk; omega
    have HO : Hid (OutS w wc (UpB U bi bt R) g7 gr ⟨zid, xsrc, ztgt, xcom, zfl, zst, zfd⟩ hc3 zhf zhd) :=
      ⟨hb9, HBR.out.below hE39 hgr3, by omega, ⟨hk9, hz9.f, hz9.d, hz9.id, HX.out.src, hz9.tgt, hz9.st⟩, Aps.of_ge ho9 h7W (by omega) (fun g hg => by have h1 : g < w.heap.size := hg; omega),
        ⟨hzW.f.lt (fun g hg => by injection hg with hg; omega), (hzr gr hgr3).2.1, fun g hg => (hzr g (by have h1 : g < w.heap.size := hg; omega)).2.1⟩,
        ⟨hzW.d.lt (fun g hg => by injection hg with hg; omega), (hzr gr hgr3).2.2, fun g hg => (hzr g (by have h1 : g < w.heap.size := hg; omega)).2.2⟩,
        hS0, by omega, HG.out.2.1, fun e => by have := hS0 g7 e; omega, fun e => by have := hS0 gr e; have := HG.out.2.1; omega, KpS.of_ext _ (hE3.trans hE39)⟩
    have HE := Lib.hid hE39
    have HYF : Hid (zfd.length ≤ 20) := hyf
    have HXF : Hid (xfd.length ≤ 20) := hxf
    have HG73 : Hid (W3.heap.size ≤ g7) := by show _ ≤ _; omega
    have HE3 := Lib.hid hE3
    clear hb9 hk9 ho9 hE9 hzW hzA hE1 hE17 hE37 hEw7 HHB hE39 hz9 h7W hS0 hsz3 hsz1 hsz7 hg7e hgr3 hzr hyf hxf HG7 hE3
    have XT := HXF
    by_cases hsame : xsrc = zsrc
    · have e1 : (xsrc.toList == zsrc.toList) = true := by rw [hsame]; simp
      have b6 : wc.cell? ⟨g7, 6, none⟩ = some (.slice zhd.A zhd.m zhd.c) := HO.out.blk.cell 6
      have HS := Lib.hid hsame
      clear hsame
      obtain ⟨l6, hl6⟩ : ∃ l6, l6 = zfd := ⟨_, rfl⟩
      have HL6 : Hid (l6.length ≤ 21) := by show _ ≤ _; rw [hl6]; have := HYF.out; omega
      have HL6E := Lib.hid hl6
      rw [← hl6] at HO
      clear hl6
      by_cases h4 : zst = 4
      · have e4 : (zst == 4) = true := by rw [h4]; rfl
        have HKI : Hid (knI ⟨xid, xsrc, xtgt, xcom, xfl, xst, xfd⟩ ⟨zid, zsrc, ztgt, zcom, zfl, zst, zfd⟩ = 2) := by show _ = _; unfold knI; rw [if_pos HS.out, if_pos h4]
        have HST : Hid ((if xsrc = zsrc ∧ zst ≠ 4 then zst else if ztgt.size = 0 then (0 : Int) else 1) = if ztgt.size = 0 then 0 else 1) := by show _ = _; rw [if_neg (fun e => e.2 h4)]
        have HL6F : Hid (l6 = if xsrc = zsrc then zfd else setF zfd prevB zsrc) := by show _ = _; rw [if_pos HS.out, HL6E.out]
        clear HL6E
        have HL6E := HL6F
        clear h4
        have hEc := HE.out
        go_wp2
        clear hEc
        go_loopw [54] (fun v wr => ∃ (q : Nat) (h6 : SlH), q ≤ xhd.m ∧ v = .int .i64 q ∧ Hid (OutS w wr (UpB U bi bt R) g7 gr ⟨zid, xsrc, ztgt, xcom, zfl, zst, withF l6 (xfd.take q)⟩ hc3 zhf h6) ∧ Hid (Ext W3 wr)) (fun v _ => xhd.m - (intOf v).toNat)
        case atStart => exact ⟨0, zhd, Nat.zero_le _, rfl, HO.out, HE.out⟩
        case round =>
          obtain ⟨q, h6, hq, rfl, HOR, HER⟩ := hrel
          by_cases hlt : q < xhd.m
          · obtain ⟨b, off, eA, _, hcs⟩ := (HX.out.d.ext (HE3.out.trans HER.out)).sl.at_ hlt (by omega)
            have hlx := HX.out.d.sl.len
            dsimp only at hlx eA
            have hql : q < xfd.length := by rw [← hlx]; exact hlt
            obtain ⟨f, hf⟩ : ∃ f, f = xfd[q] := ⟨_, rfl⟩
            have f0 := hcs q hql 0 (by omega)
            have f1 := hcs q hql 1 (by omega)
            simp only [← hf, fdC, List.getElem_cons_zero, List.getElem_cons_succ, Nat.add_zero, ← Nat.add_assoc] at f0 f1
            have HTK : Hid (withF l6 (xfd.take (q + 1)) = setF (withF l6 (xfd.take q)) f.1 f.2) := by show _ = _; rw [List.take_succ_eq_append_getElem hql, withF_snoc, hf]
            have hgf : GoodFd f := HX.out.d.good f (by rw [hf]; exact List.getElem_mem hql)
            have hwl := withF_len (xfd.take q) l6
            have h6m : h6.m ≤ 4000 := by
              have h1 := HOR.out.W.d.sl.len
              have h2 := HL6.out
              have h3 := HXF.out
              dsimp only at h1
              have h4 : (xfd.take q).length ≤ 20 := Nat.le_trans (List.length_take_le' _ _) h3
              omega
            have hi1 : (q : Int) < (xhd.m : Int) := by omega
            have hq4 : q ≤ 4000 := by have := HXF.out; omega
            have r6 := laters (show wr.cell? ⟨g7, 6, none⟩ = some (.slice h6.A h6.m h6.c) from HOR.out.blk.cell 6)
            have hal : Ext wr (wr.alloc (Obj.cells #[.string f.1, .string f.2] 56)) := (Ext.refl _).alloc _
            have hst := psetF_any (HOR.out.W.d.ext hal) f.1 f.2 h6m
            have HQL := Lib.hid hql
            have HWL := Lib.hid hwl
            have HGF := Lib.hid hgf
            obtain ⟨fn, fv⟩ := f
            dsimp only at f0 f1 hst
            clear hcs hf hlx hql hwl hgf
            obtain ⟨A0, m0, cc0⟩ := xhd
            dsimp only at eA
            subst eA
            dsimp only at hlt hq hi1
            go_wp2_with (first
              | (go_at_call 31; refine Hid.out ?_))
            refine Hid.mk_ ((hst).mono ?_)
            rintro e w5 ⟨⟨A5, m5, c5, L5, rfl, hS5, ho5⟩, hE5⟩
            have hEr5 := hal.trans hE5
            have HO5 := HOR.out.more hEr5
            have k6 : w5.cell? ⟨g7, 6, none⟩ = some (.slice _ _ _) := HO5.blk.cell 6
            have k6f := HO5.blk.frozen 6
            have hl5 := hS5.len
            have hm5 : m5 ≤ 4000 := by
              rw [ho5.len]
              have h2 := HL6.out
              have h3 := HXF.out
              have h4 : (xfd.take q).length ≤ 20 := Nat.le_trans (List.length_take_le' _ _) h3
              have h5 := HWL.out
              omega
            have hL5 : L5 = withF l6 (xfd.take (q + 1)) := by rw [HTK.out]; exact hS5.eq
            have hO6 := HO5.setD (ho5.fds hm5 (hS5.good HOR.out.W.d.good HGF.out.1 HGF.out.2)) (Aps.of_ge (fun k hk => ho5.ge k hk) (Nat.lt_of_lt_of_le HOR.out.blk.lt hal.size_le) (Nat.lt_of_lt_of_le HOR.out.res.lt hal.size_le) (fun g hg => Nat.lt_of_lt_of_le hg ((HE3.out.trans HER.out).trans hal).size_le))
            rw [hL5] at hO6
            have HO6 := Lib.hid hO6
            have HE6 : Hid (Ext W3 (w5.setCell ⟨g7, 6, none⟩ (.slice A5 m5 c5))) := (HER.out.trans hEr5).set_ (p := ⟨g7, 6, none⟩) HG73.out _
            clear ho5 hS5 hl5 hO6 HO5 hL5 hm5 hal hst hEr5 hE5 r6
            go_wp2
            go_roundw
            case rel => exact ⟨q + 1, ⟨A5, m5, c5⟩, by omega, by go_num, HO6.out, HE6.out⟩
            case measure => simp [intOf]; omega
          · have hi1 : ¬ (q : Int) < (xhd.m : Int) := by omega
            have hlx := HX.out.d.sl.len
            dsimp only at hlx
            have hqf : xfd.take q = xfd := List.take_of_length_le (by omega)
            rw [hqf] at HOR
            clear hqf hlx
            have c5 : wr.cell? ⟨g7, 5, none⟩ = some (.int .i64 zst) := HOR.out.blk.cell 5
            have f5 := HOR.out.blk.frozen 5
            have HG7 : Hid (Ext W3 (wr.setCell ⟨g7, 5, none⟩ (.int .i64 0))) := HER.out.set_ (p := ⟨g7, 5, none⟩) HG73.out _
            have hEc := HER.out
            have hE5 := HG7.out
            by_cases ht : ztgt.size = 0
            · have ht1 : ztgt.toList.isEmpty = true := by rw [isEmpty_size, ht]; rfl
              obtain ⟨pF, hpF⟩ : ∃ pF : Ep, pF = ⟨zid, xsrc, ztgt, xcom, zfl, 0, withF l6 xfd⟩ := ⟨_, rfl⟩
              have HOF : Hid (OutS w (wr.setCell ⟨g7, 5, none⟩ (.int .i64 0)) (UpB U bi bt R) g7 gr pF hc3 zhf h6) := by rw [hpF]; exact HOR.out.setSt 0 (by omega)
              have HPF : Hid (pF = knownP ⟨xid, xsrc, xtgt, xcom, xfl, xst, xfd⟩ ⟨zid, zsrc, ztgt, zcom, zfl, zst, zfd⟩) := by
                show _ = _
                rw [hpF]
                unfold knownP
                dsimp only
                rw [HST.out, if_pos ht, HL6E.out]
              clear ht hpF
              have hES := hE5
              have hU8' := HU.out.ext (HE3.out.trans hES)
              go_wp2_with (first
                | (go_at_call 32; refine Hid.out ?_))
              refine Hid.mk_ ((add_any hU8' (i := 2) (by omega) (o := 6) rfl xid (HLR.out 2 (by omega)) (Nat.le_trans hB (HE3.out.trans hES).size_le)).mono ?_)
              rintro e w8 ⟨rfl, R', hU8, hsub, hk8⟩
              have HO8 := Lib.hid (HOF.out.keep hk8)
              have d0 : w8.cell? ⟨g7, 0, none⟩ = some (.string pF.id) := HO8.out.blk.cell 0
              have d1 : w8.cell? ⟨g7, 1, none⟩ = some (.string pF.src) := HO8.out.blk.cell 1
              have d2 : w8.cell? ⟨g7, 2, none⟩ = some (.string pF.tgt) := HO8.out.blk.cell 2
              have d3 : w8.cell? ⟨g7, 3, none⟩ = some (.slice hc3.A hc3.m hc3.c) := HO8.out.blk.cell 3
              have d4 : w8.cell? ⟨g7, 4, none⟩ = some (.slice zhf.A zhf.m zhf.c) := HO8.out.blk.cell 4
              have d5 : w8.cell? ⟨g7, 5, none⟩ = some (.int .i64 pF.st) := HO8.out.blk.cell 5
              have d6 : w8.cell? ⟨g7, 6, none⟩ = some (.slice h6.A h6.m h6.c) := HO8.out.blk.cell 6
              have n0 : w8.cell? ⟨gr, 0, none⟩ = some (.string ⟨#[]⟩) := HO8.out.res.cell 0
              have n1 : w8.cell? ⟨gr, 1, none⟩ = some (.string ⟨#[]⟩) := HO8.out.res.cell 1
              have n2 : w8.cell? ⟨gr, 2, none⟩ = some (.string ⟨#[]⟩) := HO8.out.res.cell 2
              have n3 : w8.cell? ⟨gr, 3, none⟩ = some (.slice none 0 0) := HO8.out.res.cell 3
              have n4 : w8.cell? ⟨gr, 4, none⟩ = some (.slice none 0 0) := HO8.out.res.cell 4
              have n5 : w8.cell? ⟨gr, 5, none⟩ = some (.int .i64 0) := HO8.out.res.cell 5
              have n6 : w8.cell? ⟨gr, 6, none⟩ = some (.slice none 0 0) := HO8.out.res.cell 6
              have m0 := HO8.out.res.frozen 0
              have m1 := HO8.out.res.frozen 1
              have m2 := HO8.out.res.frozen 2
              have m3 := HO8.out.res.frozen 3
              have m4 := HO8.out.res.frozen 4
              have m5 := HO8.out.res.frozen 5
              have m6 := HO8.out.res.frozen 6
              have HFIN := Lib.hid HO8.out.fin
              have HUF := Lib.hid hU8
              have HSUB := Lib.hid hsub
              clear hU8 hsub hk8 hU8' hES
              go_wp2
              obtain ⟨fb, fw, fk, fg⟩ := HFIN.out
              refine bodyPost_ret (results_cell_row rfl _ _ gr 39 _ (0, 0) _ rfl fb Tryz.underlying39 rfl info_ent7) rfl ?_
              refine ⟨⟨pF, hc3, zhf, h6⟩, R', rfl, HPF.out, fw, EntS.lt HOF.out.W HOF.out.ents HSUB.out, HOF.out.old, ?_, fun g hg => (HSUB.out g hg).imp_right fun e => Nat.le_trans HOF.out.kp.size e, fk⟩
              rw [HKI.out]
              exact HUF.out.kp fg fun g hg e => by
                rw [e] at hg
                rcases HSUB.out gr hg with h1 | h1
                · exact HOF.out.nr h1
                · have h2 := HOF.out.res.lt; omega
            · have ht1 : ztgt.toList.isEmpty = false := by rw [isEmpty_size]; exact decide_eq_false ht
              obtain ⟨pF, hpF⟩ : ∃ pF : Ep, pF = ⟨zid, xsrc, ztgt, xcom, zfl, 1, withF l6 xfd⟩ := ⟨_, rfl⟩
              have o1 := HOR.out.setSt 0 (by omega)
              have c5b : (wr.setCell ⟨g7, 5, none⟩ (.int .i64 0)).cell? ⟨g7, 5, none⟩ = some (.int .i64 0) := o1.blk.cell 5
              have f5b := o1.blk.frozen 5
              have HOF : Hid (OutS w ((wr.setCell ⟨g7, 5, none⟩ (.int .i64 0)).setCell ⟨g7, 5, none⟩ (.int .i64 1)) (UpB U bi bt R) g7 gr pF hc3 zhf h6) := by rw [hpF]; exact o1.setSt 1 (by omega)
              have HPF : Hid (pF = knownP ⟨xid, xsrc, xtgt, xcom, xfl, xst, xfd⟩ ⟨zid, zsrc, ztgt, zcom, zfl, zst, zfd⟩) := by
                show _ = _
                rw [hpF]
                unfold knownP
                dsimp only
                rw [HST.out, if_neg ht, HL6E.out]
              clear ht hpF o1
              have hES : Ext W3 ((wr.setCell ⟨g7, 5, none⟩ (.int .i64 0)).setCell ⟨g7, 5, none⟩ (.int .i64 1)) := hE5.set_ (p := ⟨g7, 5, none⟩) HG73.out _
              have hU8' := HU.out.ext (HE3.out.trans hES)
              go_wp2_with (first
                | (go_at_call 32; refine Hid.out ?_))
              refine Hid.mk_ ((add_any hU8' (i := 2) (by omega) (o := 6) rfl xid (HLR.out 2 (by omega)) (Nat.le_trans hB (HE3.out.trans hES).size_le)).mono ?_)
              rintro e w8 ⟨rfl, R', hU8, hsub, hk8⟩
              have HO8 := Lib.hid (HOF.out.keep hk8)
              have d0 : w8.cell? ⟨g7, 0, none⟩ = some (.string pF.id) := HO8.out.blk.cell 0
              have d1 : w8.cell? ⟨g7, 1, none⟩ = some (.string pF.src) := HO8.out.blk.cell 1
              have d2 : w8.cell? ⟨g7, 2, none⟩ = some (.string pF.tgt) := HO8.out.blk.cell 2
              have d3 : w8.cell? ⟨g7, 3, none⟩ = some (.slice hc3.A hc3.m hc3.c) := HO8.out.blk.cell 3
              have d4 : w8.cell? ⟨g7, 4, none⟩ = some (.slice zhf.A zhf.m zhf.c) := HO8.out.blk.cell 4
              have d5 : w8.cell? ⟨g7, 5, none⟩ = some (.int .i64 pF.st) := HO8.out.blk.cell 5
              have d6 : w8.cell? ⟨g7, 6, none⟩ = some (.slice h6.A h6.m h6.c) := HO8.out.blk.cell 6
              have n0 : w8.cell? ⟨gr, 0, none⟩ = some (.string ⟨#[]⟩) := HO8.out.res.cell 0
              have n1 : w8.cell? ⟨gr, 1, none⟩ = some (.string ⟨#[]⟩) := HO8.out.res.cell 1
              have n2 : w8.cell? ⟨gr, 2, none⟩ = some (.string ⟨#[]⟩) := HO8.out.res.cell 2
              have n3 : w8.cell? ⟨gr, 3, none⟩ = some (.slice none 0 0) := HO8.out.res.cell 3
              have n4 : w8.cell? ⟨gr, 4, none⟩ = some (.slice none 0 0) := HO8.out.res.cell 4
              have n5 : w8.cell? ⟨gr, 5, none⟩ = some (.int .i64 0) := HO8.out.res.cell 5
              have n6 : w8.cell? ⟨gr, 6, none⟩ = some (.slice none 0 0) := HO8.out.res.cell 6
              have m0 := HO8.out.res.frozen 0
              have m1 := HO8.out.res.frozen 1
              have m2 := HO8.out.res.frozen 2
              have m3 := HO8.out.res.frozen 3
              have m4 := HO8.out.res.frozen 4
              have m5 := HO8.out.res.frozen 5
              have m6 := HO8.out.res.frozen 6
              have HFIN := Lib.hid HO8.out.fin
              have HUF := Lib.hid hU8
              have HSUB := Lib.hid hsub
              clear hU8 hsub hk8 hU8' hES
              go_wp2
              obtain ⟨fb, fw, fk, fg⟩ := HFIN.out
              refine bodyPost_ret (results_cell_row rfl _ _ gr 39 _ (0, 0) _ rfl fb Tryz.underlying39 rfl info_ent7) rfl ?_
              refine ⟨⟨pF, hc3, zhf, h6⟩, R', rfl, HPF.out, fw, EntS.lt HOF.out.W HOF.out.ents HSUB.out, HOF.out.old, ?_, fun g hg => (HSUB.out g hg).imp_right fun e => Nat.le_trans HOF.out.kp.size e, fk⟩
              rw [HKI.out]
              exact HUF.out.kp fg fun g hg e => by
                rw [e] at hg
                rcases HSUB.out gr hg with h1 | h1
                · exact HOF.out.nr h1
                · have h2 := HOF.out.res.lt; omega
      · have e4 : (zst == 4) = false := by rw [beq_eq_false_iff_ne]; exact h4
        have HKI : Hid (knI ⟨xid, xsrc, xtgt, xcom, xfl, xst, xfd⟩ ⟨zid, zsrc, ztgt, zcom, zfl, zst, zfd⟩ = 0) := by show _ = _; unfold knI; rw [if_pos HS.out, if_neg h4]
        have HST : Hid ((if xsrc = zsrc ∧ zst ≠ 4 then zst else if ztgt.size = 0 then (0 : Int) else 1) = zst) := by show _ = _; rw [if_pos ⟨HS.out, h4⟩]
        have HL6F : Hid (l6 = if xsrc = zsrc then zfd else setF zfd prevB zsrc) := by show _ = _; rw [if_pos HS.out, HL6E.out]
        clear HL6E
        have HL6E := HL6F
        clear h4
        have hEc := HE.out
        go_wp2
        clear hEc
        go_loopw [54] (fun v wr => ∃ (q : Nat) (h6 : SlH), q ≤ xhd.m ∧ v = .int .i64 q ∧ Hid (OutS w wr (UpB U bi bt R) g7 gr ⟨zid, xsrc, ztgt, xcom, zfl, zst, withF l6 (xfd.take q)⟩ hc3 zhf h6) ∧ Hid (Ext W3 wr)) (fun v _ => xhd.m - (intOf v).toNat)
        case atStart => exact ⟨0, zhd, Nat.zero_le _, rfl, HO.out, HE.out⟩
        case round =>
          obtain ⟨q, h6, hq, rfl, HOR, HER⟩ := hrel
          by_cases hlt : q < xhd.m
          · obtain ⟨b, off, eA, _, hcs⟩ := (HX.out.d.ext (HE3.out.trans HER.out)).sl.at_ hlt (by omega)
            have hlx := HX.out.d.sl.len
            dsimp only at hlx eA
            have hql : q < xfd.length := by rw [← hlx]; exact hlt
            obtain ⟨f, hf⟩ : ∃ f, f = xfd[q] := ⟨_, rfl⟩
            have f0 := hcs q hql 0 (by omega)
            have f1 := hcs q hql 1 (by omega)
            simp only [← hf, fdC, List.getElem_cons_zero, List.getElem_cons_succ, Nat.add_zero, ← Nat.add_assoc] at f0 f1
            have HTK : Hid (withF l6 (xfd.take (q + 1)) = setF (withF l6 (xfd.take q)) f.1 f.2) := by show _ = _; rw [List.take_succ_eq_append_getElem hql, withF_snoc, hf]
            have hgf : GoodFd f := HX.out.d.good f (by rw [hf]; exact List.getElem_mem hql)
            have hwl := withF_len (xfd.take q) l6
            have h6m : h6.m ≤ 4000 := by
              have h1 := HOR.out.W.d.sl.len
              have h2 := HL6.out
              have h3 := HXF.out
              dsimp only at h1
              have h4 : (xfd.take q).length ≤ 20 := Nat.le_trans (List.length_take_le' _ _) h3
              omega
            have hi1 : (q : Int) < (xhd.m : Int) := by omega
            have hq4 : q ≤ 4000 := by have := HXF.out; omega
            have r6 := laters (show wr.cell? ⟨g7, 6, none⟩ = some (.slice h6.A h6.m h6.c) from HOR.out.blk.cell 6)
            have hal : Ext wr (wr.alloc (Obj.cells #[.string f.1, .string f.2] 56)) := (Ext.refl _).alloc _
            have hst := psetF_any (HOR.out.W.d.ext hal) f.1 f.2 h6m
            have HQL := Lib.hid hql
            have HWL := Lib.hid hwl
            have HGF := Lib.hid hgf
            obtain ⟨fn, fv⟩ := f
            dsimp only at f0 f1 hst
            clear hcs hf hlx hql hwl hgf
            obtain ⟨A0, m0, cc0⟩ := xhd
            dsimp only at eA
            subst eA
            dsimp only at hlt hq hi1
            go_wp2_with (first
              | (go_at_call 31; refine Hid.out ?_))
            refine Hid.mk_ ((hst).mono ?_)
            rintro e w5 ⟨⟨A5, m5, c5, L5, rfl, hS5, ho5⟩, hE5⟩
            have hEr5 := hal.trans hE5
            have HO5 := HOR.out.more hEr5
            have k6 : w5.cell? ⟨g7, 6, none⟩ = some (.slice _ _ _) := HO5.blk.cell 6
            have k6f := HO5.blk.frozen 6
            have hl5 := hS5.len
            have hm5 : m5 ≤ 4000 := by
              rw [ho5.len]
              have h2 := HL6.out
              have h3 := HXF.out
              have h4 : (xfd.take q).length ≤ 20 := Nat.le_trans (List.length_take_le' _ _) h3
              have h5 := HWL.out
              omega
            have hL5 : L5 = withF l6 (xfd.take (q + 1)) := by rw [HTK.out]; exact hS5.eq
            have hO6 := HO5.setD (ho5.fds hm5 (hS5.good HOR.out.W.d.good HGF.out.1 HGF.out.2)) (Aps.of_ge (fun k hk => ho5.ge k hk) (Nat.lt_of_lt_of_le HOR.out.blk.lt hal.size_le) (Nat.lt_of_lt_of_le HOR.out.res.lt hal.size_le) (fun g hg => Nat.lt_of_lt_of_le hg ((HE3.out.trans HER.out).trans hal).size_le))
            rw [hL5] at hO6
            have HO6 := Lib.hid hO6
            have HE6 : Hid (Ext W3 (w5.setCell ⟨g7, 6, none⟩ (.slice A5 m5 c5))) := (HER.out.trans hEr5).set_ (p := ⟨g7, 6, none⟩) HG73.out _
            clear ho5 hS5 hl5 hO6 HO5 hL5 hm5 hal hst hEr5 hE5 r6
            go_wp2
            go_roundw
            case rel => exact ⟨q + 1, ⟨A5, m5, c5⟩, by omega, by go_num, HO6.out, HE6.out⟩
            case measure => simp [intOf]; omega
          · have hi1 : ¬ (q : Int) < (xhd.m : Int) := by omega
            have hlx := HX.out.d.sl.len
            dsimp only at hlx
            have hqf : xfd.take q = xfd := List.take_of_length_le (by omega)
            rw [hqf] at HOR
            clear hqf hlx
            have hES := HER.out
            obtain ⟨pF, hpF⟩ : ∃ pF : Ep, pF = ⟨zid, xsrc, ztgt, xcom, zfl, zst, withF l6 xfd⟩ := ⟨_, rfl⟩
            have HOF : Hid (OutS w wr (UpB U bi bt R) g7 gr pF hc3 zhf h6) := by rw [hpF]; exact HOR.out
            have HPF : Hid (pF = knownP ⟨xid, xsrc, xtgt, xcom, xfl, xst, xfd⟩ ⟨zid, zsrc, ztgt, zcom, zfl, zst, zfd⟩) := by
              show _ = _
              rw [hpF]
              unfold knownP
              dsimp only
              rw [HST.out, HL6E.out]
            clear hpF
            have hU8' := HU.out.ext (HE3.out.trans hES)
            go_wp2_with (first
              | (go_at_call 32; refine Hid.out ?_))
            refine Hid.mk_ ((add_any hU8' (i := 0) (by omega) (o := 4) rfl xid (HLR.out 0 (by omega)) (Nat.le_trans hB (HE3.out.trans hES).size_le)).mono ?_)
            rintro e w8 ⟨rfl, R', hU8, hsub, hk8⟩
            have HO8 := Lib.hid (HOF.out.keep hk8)
            have d0 : w8.cell? ⟨g7, 0, none⟩ = some (.string pF.id) := HO8.out.blk.cell 0
            have d1 : w8.cell? ⟨g7, 1, none⟩ = some (.string pF.src) := HO8.out.blk.cell 1
            have d2 : w8.cell? ⟨g7, 2, none⟩ = some (.string pF.tgt) := HO8.out.blk.cell 2
            have d3 : w8.cell? ⟨g7, 3, none⟩ = some (.slice hc3.A hc3.m hc3.c) := HO8.out.blk.cell 3
            have d4 : w8.cell? ⟨g7, 4, none⟩ = some (.slice zhf.A zhf.m zhf.c) := HO8.out.blk.cell 4
            have d5 : w8.cell? ⟨g7, 5, none⟩ = some (.int .i64 pF.st) := HO8.out.blk.cell 5
            have d6 : w8.cell? ⟨g7, 6, none⟩ = some (.slice h6.A h6.m h6.c) := HO8.out.blk.cell 6
            have n0 : w8.cell? ⟨gr, 0, none⟩ = some (.string ⟨#[]⟩) := HO8.out.res.cell 0
            have n1 : w8.cell? ⟨gr, 1, none⟩ = some (.string ⟨#[]⟩) := HO8.out.res.cell 1
            have n2 : w8.cell? ⟨gr, 2, none⟩ = some (.string ⟨#[]⟩) := HO8.out.res.cell 2
            have n3 : w8.cell? ⟨gr, 3, none⟩ = some (.slice none 0 0) := HO8.out.res.cell 3
            have n4 : w8.cell? ⟨gr, 4, none⟩ = some (.slice none 0 0) := HO8.out.res.cell 4
            have n5 : w8.cell? ⟨gr, 5, none⟩ = some (.int .i64 0) := HO8.out.res.cell 5
            have n6 : w8.cell? ⟨gr, 6, none⟩ = some (.slice none 0 0) := HO8.out.res.cell 6
            have m0 := HO8.out.res.frozen 0
            have m1 := HO8.out.res.frozen 1
            have m2 := HO8.out.res.frozen 2
            have m3 := HO8.out.res.frozen 3
            have m4 := HO8.out.res.frozen 4
            have m5 := HO8.out.res.frozen 5
            have m6 := HO8.out.res.frozen 6
            have HFIN := Lib.hid HO8.out.fin
            have HUF := Lib.hid hU8
            have HSUB := Lib.hid hsub
            clear hU8 hsub hk8 hU8' hES
            go_wp2
            obtain ⟨fb, fw, fk, fg⟩ := HFIN.out
            refine bodyPost_ret (results_cell_row rfl _ _ gr 39 _ (0, 0) _ rfl fb Tryz.underlying39 rfl info_ent7) rfl ?_
            refine ⟨⟨pF, hc3, zhf, h6⟩, R', rfl, HPF.out, fw, EntS.lt HOF.out.W HOF.out.ents HSUB.out, HOF.out.old, ?_, fun g hg => (HSUB.out g hg).imp_right fun e => Nat.le_trans HOF.out.kp.size e, fk⟩
            rw [HKI.out]
            exact HUF.out.kp fg fun g hg e => by
              rw [e] at hg
              rcases HSUB.out gr hg with h1 | h1
              · exact HOF.out.nr h1
              · have h2 := HOF.out.res.lt; omega
    · have e1 : (xsrc.toList == zsrc.toList) = false := by rw [beq_eq_false_iff_ne]; exact fun e => hsame (toList_iff.1 e)
      have b6 : wc.cell? ⟨g7, 6, none⟩ = some (.slice zhd.A zhd.m zhd.c) := HO.out.blk.cell 6
      have HKI : Hid (knI ⟨xid, xsrc, xtgt, xcom, xfl, xst, xfd⟩ ⟨zid, zsrc, ztgt, zcom, zfl, zst, zfd⟩ = 1) := by show _ = _; unfold knI; rw [if_neg hsame]
      have HS := Lib.hid hsame
      clear hsame
      have hd20 : zhd.m ≤ 4000 := by have h1 := HO.out.W.d.sl.len; have h2 := HYF.out; dsimp only at h1; omega
      have hEc := HE.out
      have hst := psetF_any HO.out.W.d ⟨#[112, 114, 101, 118, 105, 111, 117, 115]⟩ zsrc hd20
      dsimp only at hst
      go_wp2_with (first
        | (go_at_call 31; refine Hid.out ?_))
      refine Hid.mk_ ((hst).mono ?_)
      rintro e w5 ⟨⟨A5, m5, c5, l6, rfl, hS5, ho5⟩, hE5⟩
      have HO5 := HO.out.more hE5
      have k6 : w5.cell? ⟨g7, 6, none⟩ = some (.slice _ _ _) := HO5.blk.cell 6
      have k6f := HO5.blk.frozen 6
      have hl5 := hS5.len
      have HL6 : Hid (l6.length ≤ 21) := by show _ ≤ _; have := HYF.out; omega
      have HL6E : Hid (l6 = setF zfd prevB zsrc) := hS5.eq
      have hm5 : m5 ≤ 4000 := by rw [ho5.len]; have := HL6.out; omega
      have hO6 := HO5.setD (ho5.fds hm5 (hS5.good HO.out.W.d.good (by show _ ≤ _; decide) HY.out.src)) (Aps.of_ge (fun k hk => ho5.ge k hk) HO.out.blk.lt HO.out.res.lt (fun g hg => Nat.lt_of_lt_of_le hg (HE3.out.trans HE.out).size_le))
      have HO := Lib.hid hO6
      have HE6 : Hid (Ext W3 (w5.setCell ⟨g7, 6, none⟩ (.slice A5 m5 c5))) := (HE.out.trans hE5).set_ (p := ⟨g7, 6, none⟩) HG73.out _
      clear HE hEc
      have HE := HE6
      clear ho5 hS5 hl5 hO6 HO5 hE5 hm5 b6
      have HST : Hid ((if xsrc = zsrc ∧ zst ≠ 4 then zst else if ztgt.size = 0 then (0 : Int) else 1) = if ztgt.size = 0 then 0 else 1) := by show _ = _; rw [if_neg (fun e => HS.out e.1)]
      have HL6F : Hid (l6 = if xsrc = zsrc then zfd else setF zfd prevB zsrc) := by show _ = _; rw [if_neg HS.out]; exact HL6E.out
      clear HL6E
      have HL6E := HL6F
      have hEc := HE.out
      go_wp2
      clear hEc
      go_loopw [54] (fun v wr => ∃ (q : Nat) (h6 : SlH), q ≤ xhd.m ∧ v = .int .i64 q ∧ Hid (OutS w wr (UpB U bi bt R) g7 gr ⟨zid, xsrc, ztgt, xcom, zfl, zst, withF l6 (xfd.take q)⟩ hc3 zhf h6) ∧ Hid (Ext W3 wr)) (fun v _ => xhd.m - (intOf v).toNat)
      case atStart => exact ⟨0, ⟨A5, m5, c5⟩, Nat.zero_le _, rfl, HO.out, HE.out⟩
      case round =>
        obtain ⟨q, h6, hq, rfl, HOR, HER⟩ := hrel
        by_cases hlt : q < xhd.m
        · obtain ⟨b, off, eA, _, hcs⟩ := (HX.out.d.ext (HE3.out.trans HER.out)).sl.at_ hlt (by omega)
          have hlx := HX.out.d.sl.len
          dsimp only at hlx eA
          have hql : q < xfd.length := by rw [← hlx]; exact hlt
          obtain ⟨f, hf⟩ : ∃ f, f = xfd[q] := ⟨_, rfl⟩
          have f0 := hcs q hql 0 (by omega)
          have f1 := hcs q hql 1 (by omega)
          simp only [← hf, fdC, List.getElem_cons_zero, List.getElem_cons_succ, Nat.add_zero, ← Nat.add_assoc] at f0 f1
          have HTK : Hid (withF l6 (xfd.take (q + 1)) = setF (withF l6 (xfd.take q)) f.1 f.2) := by show _ = _; rw [List.take_succ_eq_append_getElem hql, withF_snoc, hf]
          have hgf : GoodFd f := HX.out.d.good f (by rw [hf]; exact List.getElem_mem hql)
          have hwl := withF_len (xfd.take q) l6
          have h6m : h6.m ≤ 4000 := by
            have h1 := HOR.out.W.d.sl.len
            have h2 := HL6.out
            have h3 := HXF.out
            dsimp only at h1
            have h4 : (xfd.take q).length ≤ 20 := Nat.le_trans (List.length_take_le' _ _) h3
            omega
          have hi1 : (q : Int) < (xhd.m : Int) := by omega
          have hq4 : q ≤ 4000 := by have := HXF.out; omega
          have r6 := laters (show wr.cell? ⟨g7, 6, none⟩ = some (.slice h6.A h6.m h6.c) from HOR.out.blk.cell 6)
          have hal : Ext wr (wr.alloc (Obj.cells #[.string f.1, .string f.2] 56)) := (Ext.refl _).alloc _
          have hst := psetF_any (HOR.out.W.d.ext hal) f.1 f.2 h6m
          have HQL := Lib.hid hql
          have HWL := Lib.hid hwl
          have HGF := Lib.hid hgf
          obtain ⟨fn, fv⟩ := f
          dsimp only at f0 f1 hst
          clear hcs hf hlx hql hwl hgf
          obtain ⟨A0, m0, cc0⟩ := xhd
          dsimp only at eA
          subst eA
          dsimp only at hlt hq hi1
          go_wp2_with (first
            | (go_at_call 31; refine Hid.out ?_))
          refine Hid.mk_ ((hst).mono ?_)
          rintro e w5 ⟨⟨A5, m5, c5, L5, rfl, hS5, ho5⟩, hE5⟩
          have hEr5 := hal.trans hE5
          have HO5 := HOR.out.more hEr5
          have k6 : w5.cell? ⟨g7, 6, none⟩ = some (.slice _ _ _) := HO5.blk.cell 6
          have k6f := HO5.blk.frozen 6
          have hl5 := hS5.len
          have hm5 : m5 ≤ 4000 := by
            rw [ho5.len]
            have h2 := HL6.out
            have h3 := HXF.out
            have h4 : (xfd.take q).length ≤ 20 := Nat.le_trans (List.length_take_le' _ _) h3
            have h5 := HWL.out
            omega
          have hL5 : L5 = withF l6 (xfd.take (q + 1)) := by rw [HTK.out]; exact hS5.eq
          have hO6 := HO5.setD (ho5.fds hm5 (hS5.good HOR.out.W.d.good HGF.out.1 HGF.out.2)) (Aps.of_ge (fun k hk => ho5.ge k hk) (Nat.lt_of_lt_of_le HOR.out.blk.lt hal.size_le) (Nat.lt_of_lt_of_le HOR.out.res.lt hal.size_le) (fun g hg => Nat.lt_of_lt_of_le hg ((HE3.out.trans HER.out).trans hal).size_le))
          rw [hL5] at hO6
          have HO6 := Lib.hid hO6
          have HE6 : Hid (Ext W3 (w5.setCell ⟨g7, 6, none⟩ (.slice A5 m5 c5))) := (HER.out.trans hEr5).set_ (p := ⟨g7, 6, none⟩) HG73.out _
          clear ho5 hS5 hl5 hO6 HO5 hL5 hm5 hal hst hEr5 hE5 r6
          go_wp2
          go_roundw
          case rel => exact ⟨q + 1, ⟨A5, m5, c5⟩, by omega, by go_num, HO6.out, HE6.out⟩
          case measure => simp [intOf]; omega
        · have hi1 : ¬ (q : Int) < (xhd.m : Int) := by omega
          have hlx := HX.out.d.sl.len
          dsimp only at hlx
          have hqf : xfd.take q = xfd := List.take_of_length_le (by omega)
          rw [hqf] at HOR
          clear hqf hlx
          have c5 : wr.cell? ⟨g7, 5, none⟩ = some (.int .i64 zst) := HOR.out.blk.cell 5
          have f5 := HOR.out.blk.frozen 5
          have HG7 : Hid (Ext W3 (wr.setCell ⟨g7, 5, none⟩ (.int .i64 0))) := HER.out.set_ (p := ⟨g7, 5, none⟩) HG73.out _
          have hEc := HER.out
          have hE5 := HG7.out
          by_cases ht : ztgt.size = 0
          · have ht1 : ztgt.toList.isEmpty = true := by rw [isEmpty_size, ht]; rfl
            obtain ⟨pF, hpF⟩ : ∃ pF : Ep, pF = ⟨zid, xsrc, ztgt, xcom, zfl, 0, withF l6 xfd⟩ := ⟨_, rfl⟩
            have HOF : Hid (OutS w (wr.setCell ⟨g7, 5, none⟩ (.int .i64 0)) (UpB U bi bt R) g7 gr pF hc3 zhf h6) := by rw [hpF]; exact HOR.out.setSt 0 (by omega)
            have HPF : Hid (pF = knownP ⟨xid, xsrc, xtgt, xcom, xfl, xst, xfd⟩ ⟨zid, zsrc, ztgt, zcom, zfl, zst, zfd⟩) := by
              show _ = _
              rw [hpF]
              unfold knownP
              dsimp only
              rw [HST.out, if_pos ht, HL6E.out]
            clear ht hpF
            have hES := hE5
            have hU8' := HU.out.ext (HE3.out.trans hES)
            go_wp2_with (first
              | (go_at_call 32; refine Hid.out ?_))
            refine Hid.mk_ ((add_any hU8' (i := 1) (by omega) (o := 5) rfl xid (HLR.out 1 (by omega)) (Nat.le_trans hB (HE3.out.trans hES).size_le)).mono ?_)
            rintro e w8 ⟨rfl, R', hU8, hsub, hk8⟩
            have HO8 := Lib.hid (HOF.out.keep hk8)
            have d0 : w8.cell? ⟨g7, 0, none⟩ = some (.string pF.id) := HO8.out.blk.cell 0
            have d1 : w8.cell? ⟨g7, 1, none⟩ = some (.string pF.src) := HO8.out.blk.cell 1
            have d2 : w8.cell? ⟨g7, 2, none⟩ = some (.string pF.tgt) := HO8.out.blk.cell 2
            have d3 : w8.cell? ⟨g7, 3, none⟩ = some (.slice hc3.A hc3.m hc3.c) := HO8.out.blk.cell 3
            have d4 : w8.cell? ⟨g7, 4, none⟩ = some (.slice zhf.A zhf.m zhf.c) := HO8.out.blk.cell 4
            have d5 : w8.cell? ⟨g7, 5, none⟩ = some (.int .i64 pF.st) := HO8.out.blk.cell 5
            have d6 : w8.cell? ⟨g7, 6, none⟩ = some (.slice h6.A h6.m h6.c) := HO8.out.blk.cell 6
            have n0 : w8.cell? ⟨gr, 0, none⟩ = some (.string ⟨#[]⟩) := HO8.out.res.cell 0
            have n1 : w8.cell? ⟨gr, 1, none⟩ = some (.string ⟨#[]⟩) := HO8.out.res.cell 1
            have n2 : w8.cell? ⟨gr, 2, none⟩ = some (.string ⟨#[]⟩) := HO8.out.res.cell 2
            have n3 : w8.cell? ⟨gr, 3, none⟩ = some (.slice none 0 0) := HO8.out.res.cell 3
            have n4 : w8.cell? ⟨gr, 4, none⟩ = some (.slice none 0 0) := HO8.out.res.cell 4
            have n5 : w8.cell? ⟨gr, 5, none⟩ = some (.int .i64 0) := HO8.out.res.cell 5
            have n6 : w8.cell? ⟨gr, 6, none⟩ = some (.slice none 0 0) := HO8.out.res.cell 6
            have m0 := HO8.out.res.frozen 0
            have m1 := HO8.out.res.frozen 1
            have m2 := HO8.out.res.frozen 2
            have m3 := HO8.out.res.frozen 3
            have m4 := HO8.out.res.frozen 4
            have m5 := HO8.out.res.frozen 5
            have m6 := HO8.out.res.frozen 6
            have HFIN := Lib.hid HO8.out.fin
            have HUF := Lib.hid hU8
            have HSUB := Lib.hid hsub
            clear hU8 hsub hk8 hU8' hES
            go_wp2
            obtain ⟨fb, fw, fk, fg⟩ := HFIN.out
            refine bodyPost_ret (results_cell_row rfl _ _ gr 39 _ (0, 0) _ rfl fb Tryz.underlying39 rfl info_ent7) rfl ?_
            refine ⟨⟨pF, hc3, zhf, h6⟩, R', rfl, HPF.out, fw, EntS.lt HOF.out.W HOF.out.ents HSUB.out, HOF.out.old, ?_, fun g hg => (HSUB.out g hg).imp_right fun e => Nat.le_trans HOF.out.kp.size e, fk⟩
            rw [HKI.out]
            exact HUF.out.kp fg fun g hg e => by
              rw [e] at hg
              rcases HSUB.out gr hg with h1 | h1
              · exact HOF.out.nr h1
              · have h2 := HOF.out.res.lt; omega
          · have ht1 : ztgt.toList.isEmpty = false := by rw [isEmpty_size]; exact decide_eq_false ht
            obtain ⟨pF, hpF⟩ : ∃ pF : Ep, pF = ⟨zid, xsrc, ztgt, xcom, zfl, 1, withF l6 xfd⟩ := ⟨_, rfl⟩
            have o1 := HOR.out.setSt 0 (by omega)
            have c5b : (wr.setCell ⟨g7, 5, none⟩ (.int .i64 0)).cell? ⟨g7, 5, none⟩ = some (.int .i64 0) := o1.blk.cell 5
            have f5b := o1.blk.frozen 5
            have HOF : Hid (OutS w ((wr.setCell ⟨g7, 5, none⟩ (.int .i64 0)).setCell ⟨g7, 5, none⟩ (.int .i64 1)) (UpB U bi bt R) g7 gr pF hc3 zhf h6) := by rw [hpF]; exact o1.setSt 1 (by omega)
            have HPF : Hid (pF = knownP ⟨xid, xsrc, xtgt, xcom, xfl, xst, xfd⟩ ⟨zid, zsrc, ztgt, zcom, zfl, zst, zfd⟩) := by
              show _ = _
              rw [hpF]
              unfold knownP
              dsimp only
              rw [HST.out, if_neg ht, HL6E.out]
            clear ht hpF o1
            have hES : Ext W3 ((wr.setCell ⟨g7, 5, none⟩ (.int .i64 0)).setCell ⟨g7, 5, none⟩ (.int .i64 1)) := hE5.set_ (p := ⟨g7, 5, none⟩) HG73.out _
            have hU8' := HU.out.ext (HE3.out.trans hES)
            go_wp2_with (first
              | (go_at_call 32; refine Hid.out ?_))
            refine Hid.mk_ ((add_any hU8' (i := 1) (by omega) (o := 5) rfl xid (HLR.out 1 (by omega)) (Nat.le_trans hB (HE3.out.trans hES).size_le)).mono ?_)
            rintro e w8 ⟨rfl, R', hU8, hsub, hk8⟩
            have HO8 := Lib.hid (HOF.out.keep hk8)
            have d0 : w8.cell? ⟨g7, 0, none⟩ = some (.string pF.id) := HO8.out.blk.cell 0
            have d1 : w8.cell? ⟨g7, 1, none⟩ = some (.string pF.src) := HO8.out.blk.cell 1
            have d2 : w8.cell? ⟨g7, 2, none⟩ = some (.string pF.tgt) := HO8.out.blk.cell 2
            have d3 : w8.cell? ⟨g7, 3, none⟩ = some (.slice hc3.A hc3.m hc3.c) := HO8.out.blk.cell 3
            have d4 : w8.cell? ⟨g7, 4, none⟩ = some (.slice zhf.A zhf.m zhf.c) := HO8.out.blk.cell 4
            have d5 : w8.cell? ⟨g7, 5, none⟩ = some (.int .i64 pF.st) := HO8.out.blk.cell 5
            have d6 : w8.cell? ⟨g7, 6, none⟩ = some (.slice h6.A h6.m h6.c) := HO8.out.blk.cell 6
            have n0 : w8.cell? ⟨gr, 0, none⟩ = some (.string ⟨#[]⟩) := HO8.out.res.cell 0
            have n1 : w8.cell? ⟨gr, 1, none⟩ = some (.string ⟨#[]⟩) := HO8.out.res.cell 1
            have n2 : w8.cell? ⟨gr, 2, none⟩ = some (.string ⟨#[]⟩) := HO8.out.res.cell 2
            have n3 : w8.cell? ⟨gr, 3, none⟩ = some (.slice none 0 0) := HO8.out.res.cell 3
            have n4 : w8.cell? ⟨gr, 4, none⟩ = some (.slice none 0 0) := HO8.out.res.cell 4
            have n5 : w8.cell? ⟨gr, 5, none⟩ = some (.int .i64 0) := HO8.out.res.cell 5
            have n6 : w8.cell? ⟨gr, 6, none⟩ = some (.slice none 0 0) := HO8.out.res.cell 6
            have m0 := HO8.out.res.frozen 0
            have m1 := HO8.out.res.frozen 1
            have m2 := HO8.out.res.frozen 2
            have m3 := HO8.out.res.frozen 3
            have m4 := HO8.out.res.frozen 4
            have m5 := HO8.out.res.frozen 5
            have m6 := HO8.out.res.frozen 6
            have HFIN := Lib.hid HO8.out.fin
            have HUF := Lib.hid hU8
            have HSUB := Lib.hid hsub
            clear hU8 hsub hk8 hU8' hES
            go_wp2
            obtain ⟨fb, fw, fk, fg⟩ := HFIN.out
            refine bodyPost_ret (results_cell_row rfl _ _ gr 39 _ (0, 0) _ rfl fb Tryz.underlying39 rfl info_ent7) rfl ?_
            refine ⟨⟨pF, hc3, zhf, h6⟩, R', rfl, HPF.out, fw, EntS.lt HOF.out.W HOF.out.ents HSUB.out, HOF.out.old, ?_, fun g hg => (HSUB.out g hg).imp_right fun e => Nat.le_trans HOF.out.kp.size e, fk⟩
            rw [HKI.out]
            exact HUF.out.kp fg fun g hg e => by
              rw [e] at hg
              rcases HSUB.out gr hg with h1 | h1
              · exact HOF.out.nr h1
              · have h2 := HOF.out.res.lt; omega
end
end Go.Proofs.YtgnchicipmomlaaGreatDoor
