/- The whole fallback: the walk. -/
import Derived.Test.YtdgppdiickmofaaGreatDoorPQ49
namespace Go.Proofs.YtdgppdiickmofaaGreatDoor
open Go.RowKit
set_option maxRecDepth 100000
attribute [local go_sem] ext_refl_t ext_alloc_t ext_drew_t ext_drewN_t ext_alloc2_t ext_alloc3_t ext_alloc4_t ext_alloc5_t ext_alloc6_t ext_alloc7_t ext_alloc8_t ext_alloc1d_t ext_alloc2d_t ext_alloc3d_t ext_alloc4d_t
attribute [local go_sem] yielded_undef
def lcU : LcH := ⟨undL, [], [], ⟨none, 0, 0⟩, ⟨none, 0, 0⟩, [], [], [], [], 0, 0, ⟨none, 0, 0⟩, ⟨none, 0, 0⟩, ⟨none, 0, 0⟩, ⟨none, 0, 0⟩, ⟨none, 0, 0⟩⟩
def lcE : LcH := ⟨[101, 110], [], [], ⟨none, 0, 0⟩, ⟨none, 0, 0⟩, [], [], [], [], 0, 0, ⟨none, 0, 0⟩, ⟨none, 0, 0⟩, ⟨none, 0, 0⟩, ⟨none, 0, 0⟩, ⟨none, 0, 0⟩⟩
def exT (g : Nat) : TabH := ⟨[lcU, lcE], [], [], ⟨some ⟨g, 0, none⟩, 2, 2⟩, ⟨none, 0, 0⟩, ⟨none, 0, 0⟩⟩
theorem exT_chain (g : Nat) : chainP (tabL (exT g).ls) (exT g).al [101, 110, 95, 71, 66] = ([1, 0], 0) := ex_fb
theorem exT_off (g : Nat) : offP (tabL (exT g).ls) [1, 0] = [[101, 110], undL] := rfl
theorem exT_W (w : World) {xs : Array Value} (hx : xs = ([lcU, lcE].flatMap lcC).toArray) : TabW (w.alloc (.cells xs 38)) (exT w.heap.size) :=
  ⟨⟨SlC.new_ (cs := lcC) w [lcU, lcE] lcC_len (by simp) _ hx (0, 0) _ rfl _, Nat.le_refl _, (show 2 * 296 ≤ 140737488351232 by decide), fun x hx => by
      rcases List.mem_cons.1 hx with e | e
      · rw [e]; exact ⟨by decide, by decide⟩
      · rw [List.mem_singleton] at e; rw [e]; exact ⟨by decide, by decide⟩⟩, HW.nil_ (fun _ => rfl), HW.nil_ (fun _ => rfl), (show 2 ≤ 12 by decide), (show 0 ≤ 12 by decide), (show 0 ≤ 30 by decide)⟩
/-- The table as it came in, once it is few. -/
def tabH (t : TabX) : TabH := ⟨t.xs.map LxH.lc, t.al, t.nr, t.hl, t.ha, t.hn⟩
theorem tab_few {w : World} {t : TabX} (ht : TabI w t) (h1 : FewLs (t.xs.map LxH.lc)) (h2 : FewAl t.al) (h3 : FewNr t.nr) : TabW w (tabH t) ∧ ∀ x ∈ t.xs, DLx w x ∧ SzX x := by
  refine ⟨⟨⟨ht.xs.sl.map_ lcC_len, ht.xs.cap, ht.xs.bd, fun x hx => ?_⟩, ⟨ht.al.sl, ht.al.cap, ht.al.bd, fun x hx => ?_⟩, ⟨ht.nr.sl, ht.nr.cap, ht.nr.bd, fun x hx => ?_⟩, h1.1, h2.1, h3.1⟩, fun x hx => ?_⟩
  · have h := (h1.2 x hx).1
    exact ⟨by omega, by omega⟩
  · have h := h2.2 x hx
    exact ⟨by omega, by omega⟩
  · have h := h3.2 x hx
    have h' := ht.nr.good x hx
    exact ⟨by omega, by omega, h'.2.2.1, h'.2.2.2⟩
  · have hd := (ht.xs.good x hx).1
    have h := (h1.2 x.lc (List.mem_map_of_mem hx)).2
    have e1 := hd.card.1.sl.len
    have e2 := hd.ord.1.sl.len
    have e3 := hd.lst.sl.len
    have e4 := hd.unt.sl.len
    have e5 := hd.dat.sl.len
    have e6 := hd.mon.sl.len
    have e7 := hd.day.sl.len
    exact ⟨hd, by omega, by omega, by omega, by omega, by omega, by omega, by omega⟩
section
variable {w : World}
set_option maxHeartbeats 25600000 in
theorem fb_any {t : TabX} (ht : TabI w t) {s : List UInt8} (hs : GdS s) (hM : MX w) :
    Calls Tryz.prog 3 #[.agg (txC t).toArray, .string (str s)] w fun e w' => e = .returned (.bool true) ∧ Ext w w' := by
  have HI := Lib.hid ht
  have HM := Lib.hid hM
  have HSL := Lib.hid hs
  clear ht hM hs
  have HOF : Hid (∀ {t : TabH} {W : World}, TabW W t → ∀ {s : List UInt8}, s.length ≤ 1000 → MX W → Calls Tryz.prog 4 #[tbV t, .string (str s)] W fun e w' => OfPost t s e w' ∧ Ext W w') := fun h1 _ h2 h3 => of_any h1 h2 h3
  have HFE : Hid (∀ W, Ext w W → Calls Tryz.prog 6 #[.agg #[.slice t.hl.A t.hl.m t.hl.c, .slice t.ha.A t.ha.m t.ha.c, .slice t.hn.A t.hn.m t.hn.c]] W fun e w' => RetR e (FewLs (t.xs.map LxH.lc) ∧ FewAl t.al ∧ FewNr t.nr) ∧ Ext W w') := fun W hE =>
    few22_any ⟨(HI.out.xs.sl.map_ lcC_len).ext hE, HI.out.xs.cap, HI.out.xs.bd, fun x hx => by obtain ⟨y, hy, rfl⟩ := List.mem_map.1 hx; exact (HI.out.xs.good y hy).2⟩ (HW.ext HI.out.al hE) (HW.ext HI.out.nr hE)
  have HTF : Hid (FewLs (t.xs.map LxH.lc) → FewAl t.al → FewNr t.nr → TabW w (tabH t) ∧ ∀ x ∈ t.xs, DLx w x ∧ SzX x) := fun a b c => tab_few HI.out a b c
  unfold txC
  unfold tabH at HTF
  obtain ⟨xs, al, nr, ⟨A1, m1, c1⟩, ⟨A2, m2, c2⟩, ⟨A3, m3, c3⟩⟩ := t
  dsimp only at HFE HTF HI ⊢
  obtain ⟨ls, hls⟩ : ∃ l, l = xs.map LxH.lc := ⟨_, rfl⟩
  rw [← hls] at HFE HTF
  have HLS := Lib.hid hls
  clear hls
  obtain ⟨x, hx⟩ : ∃ x, x = str s := ⟨_, rfl⟩
  have HXS := Lib.hid hx
  have HXZ : Hid (x.size = s.length) := by show _ = _; rw [hx, str_size]
  have bx : x.size ≤ 140737488351232 := by rw [HXZ.out]; exact HSL.out
  rw [← hx]
  clear hx
  obtain ⟨W0, hW0⟩ : ∃ W0, W0 = w.alloc (Obj.cells #[.slice A1 m1 c1, .slice A2 m2 c2, .slice A3 m3 c3] 26) := ⟨_, rfl⟩
  have hE0 : Ext w W0 := by rw [hW0]; exact (Ext.refl w).alloc _
  have hb0 : Blk W0 w.heap.size 26 #[.slice A1 m1 c1, .slice A2 m2 c2, .slice A3 m3 c3] := by rw [hW0]; exact Blk.new w _ _
  go_enter Tryz.func3, Tryz.ntmps3
  go_upto_region 1 with fail
  rw [← hW0]
  obtain ⟨g0, hg0⟩ : ∃ g, g = w.heap.size := ⟨_, rfl⟩
  rw [← hg0] at hb0 ⊢
  have HB0 := Lib.hid hb0
  have HE0 := Lib.hid hE0
  have k0 := laters (show W0.cell? ⟨g0, 0, none⟩ = some (.slice A1 m1 c1) from HB0.out.cell 0)
  have k1 := laters (show W0.cell? ⟨g0, 1, none⟩ = some (.slice A2 m2 c2) from HB0.out.cell 1)
  have k2 := laters (show W0.cell? ⟨g0, 2, none⟩ = some (.slice A3 m3 c3) from HB0.out.cell 2)
  have hEr := Ext.refl W0
  clear hb0 hW0 hg0 hE0
  go_wp2_with (first
    | (go_at_call 4; refine Hid.out ?_))
  refine Hid.mk_ ((HOF.out (exT_W W0 rfl) (s := [101, 110, 95, 71, 66]) (by simp) (HM.out.ext (HE0.out.trans ((Ext.refl W0).alloc _)))).mono ?_)
  rintro e w1 ⟨hof, hE1⟩
  unfold OfPost at hof
  rw [exT_chain] at hof
  dsimp only at hof
  rw [exT_off] at hof
  obtain ⟨⟨A5, m5, c5⟩, rfl, hsl⟩ := hof
  have HSO : Hid (SlC strF 1 w1 A5 m5 [str [101, 110], str undL]) := hsl rfl
  have HE1 : Hid (Ext W0 w1) := ((Ext.refl W0).alloc _).trans hE1
  clear hsl hE1
  have hnew : SlC strF 1 (w1.alloc (.cells #[.string ⟨#[101, 110]⟩, .string ⟨#[117, 110, 100]⟩] 9)) (some ⟨w1.heap.size, 0, none⟩) 2 [str [101, 110], str undL] := SlC.new_ (cs := strF) w1 [str [101, 110], str undL] (fun _ => rfl) (by simp) _ rfl (0, 0) _ rfl _
  have HNEW := Lib.hid hnew
  clear hnew
  go_wp2_with (first
    | (go_at_call 5; refine Hid.out ?_))
  refine Hid.mk_ ((sameStrs_any _ _ (HSO.out.ext ((Ext.refl w1).alloc _)) HNEW.out).mono ?_)
  rintro e w2 ⟨rfl, hE2⟩
  have HE2 : Hid (Ext W0 w2) := HE1.out.trans (((Ext.refl w1).alloc _).trans hE2)
  have hE02 := HE2.out
  clear hE2 HNEW HSO
  go_wp2_with (first
    | (go_at_call 6; refine Hid.out ?_))
  refine Hid.mk_ ((HFE.out _ (HE0.out.trans hE02)).mono ?_)
  rintro e w3 ⟨⟨r3, rfl, hr3⟩, hE3⟩
  have HE3 : Hid (Ext W0 w3) := hE02.trans hE3
  have HR3 := Lib.hid hr3
  clear hE3 hr3 hE02
  cases r3 with
  | false =>
    go_wp2
    go_ret
    exact ⟨rfl, HE0.out.trans HE3.out⟩
  | true =>
  by_cases hsz : 100 < x.size
  · have hszi : (100 : Int) < (x.size : Int) := by omega
    go_wp2
    go_ret
    exact ⟨rfl, HE0.out.trans HE3.out⟩
  have hszi : ¬ (100 : Int) < (x.size : Int) := by omega
  have HS1 : Hid (s.length ≤ 1000) := by show _ ≤ _; rw [← HXZ.out]; omega
  obtain ⟨f1, f2, f3⟩ : FewLs ls ∧ FewAl al ∧ FewNr nr := by first | exact HR3.out rfl | exact HR3.out trivial
  obtain ⟨hTW, hDL⟩ := HTF.out f1 f2 f3
  have HTW := Lib.hid hTW
  have HDL := Lib.hid hDL
  clear hTW hDL f1 f2 f3 HTF HFE HR3
  obtain ⟨cl, hcl⟩ : ∃ c, c = (chainP (tabL ls) al s).1 := ⟨_, rfl⟩
  obtain ⟨er, her⟩ : ∃ c, c = (chainP (tabL ls) al s).2 := ⟨_, rfl⟩
  have HCC : Hid (chainP (tabL ls) al s = (cl, er)) := by show _ = _; rw [hcl, her]
  have HEF : Hid (∀ W, Ext w W → Calls Tryz.prog 7 #[.agg #[.slice A1 m1 c1, .slice A2 m2 c2, .slice A3 m3 c3], .string x] W fun e w' => (∃ y : LcH, e = .returned (.tuple #[lcV y, .int .i64 er]) ∧ (er = 0 → ∃ xx : LxH, xx.lc = y ∧ DLx w' xx ∧ EfR (atP xs cl) (plx xx))) ∧ Ext W w') := by
    show ∀ _, _
    intro W hE
    rw [hcl, her, HXS.out]
    exact (eff_any hE (t := ⟨ls, al, nr, ⟨A1, m1, c1⟩, ⟨A2, m2, c2⟩, ⟨A3, m3, c3⟩⟩) (HTW.out.ext hE) HLS.out.symm HDL.out HS1.out (HM.out.ext hE)).mono fun e w' ⟨⟨y, h1, h2⟩, h3⟩ => ⟨⟨y, h1, fun h0 => by
      obtain ⟨xx, ha, hb, hc⟩ := h2 h0
      exact ⟨xx, ha, hb.dl, hc⟩⟩, h3⟩
  have HOX : Hid (∀ W, Ext w W → Calls Tryz.prog 4 #[.agg #[.slice A1 m1 c1, .slice A2 m2 c2, .slice A3 m3 c3], .string x] W fun e w' => (∃ h : SlH, e = .returned (.tuple #[.slice h.A h.m h.c, .int .i64 er]) ∧ (er = 0 → SlC strF 1 w' h.A h.m ((offP (tabL ls) cl).map str))) ∧ Ext W w') := by
    show ∀ _, _
    intro W hE
    rw [hcl, her, HXS.out]
    exact of_any (t := ⟨ls, al, nr, ⟨A1, m1, c1⟩, ⟨A2, m2, c2⟩, ⟨A3, m3, c3⟩⟩) (HTW.out.ext hE) HS1.out (HM.out.ext hE)
  clear hcl her
  have hE03 := HE3.out
  go_wp2_with (first
    | (go_at_call 7; refine Hid.out ?_))
  refine Hid.mk_ ((HEF.out _ (HE0.out.trans hE03)).mono ?_)
  rintro e w4 ⟨⟨y, rfl, hy⟩, hE4⟩
  have HY := Lib.hid hy
  have HE4 : Hid (Ext W0 w4) := hE03.trans hE4
  have HWX : Hid (Ext w4 ((w4.alloc (.cells lcZs 38)).setRow w4.heap.size (lcC y).toArray)) := ((Ext.refl w4).alloc _).grown (grown_setRow _ _ _) (fun j hj => by injection hj with hj; omega)
  have HB7 : Hid (Blk ((w4.alloc (.cells lcZs 38)).setRow w4.heap.size (lcC y).toArray) w4.heap.size 38 (lcC y).toArray) := setRow_heap' (Blk.new w4 38 lcZs) _
  obtain ⟨W5, hW5⟩ : ∃ W, W = (w4.alloc (.cells lcZs 38)).setRow w4.heap.size (lcC y).toArray := ⟨_, rfl⟩
  obtain ⟨g7, hg7⟩ : ∃ g, g = w4.heap.size := ⟨_, rfl⟩
  rw [← hW5, ← hg7] at HB7
  rw [← hW5] at HWX
  have HW5 := Lib.hid hW5
  have HG7 := Lib.hid hg7
  clear hy hE4 hE03 hW5 hg7 hsz hszi
  go_upto_region 7 with (first
    | (refine wpList_storeLc rfl rfl rfl y rfl (Blk.new w4 38 lcZs) rfl ?_))
  rw [← HW5.out, ← HG7.out]
  have HE5 : Hid (Ext W0 W5) := HE4.out.trans HWX.out
  have hE05 := HE5.out
  go_wp2_with (first
    | (go_at_call 4; refine Hid.out ?_))
  refine Hid.mk_ ((HOX.out _ (HE0.out.trans hE05)).mono ?_)
  rintro e w6 ⟨⟨⟨A6, m6, c6⟩, rfl, hl6⟩, hE6⟩
  dsimp only at hl6 ⊢
  have HL6 := Lib.hid hl6
  have HE6 : Hid (Ext W0 w6) := hE05.trans hE6
  have HE56 := Lib.hid hE6
  clear hl6 hE6 hE05
  by_cases h0 : er = 0
  case neg =>
    have e1 : (er != 0) = true := by simp [h0]
    have e2 : (er == er) = true := by simp
    have H0 := Lib.hid h0
    clear h0
    go_wp2
    go_ret
    exact ⟨by first | rfl | simp, HE0.out.trans HE6.out⟩
  case pos =>
    subst h0
    obtain ⟨hu, hcn, -, r, hr⟩ := chain_head (l := tabL ls) (al := al) (s := s) (by rw [HCC.out])
    have HU := Lib.hid hu
    have HCN := Lib.hid hcn
    obtain ⟨i, hi⟩ : ∃ i, i = nearC (tabL ls) (canonR al s).1 := ⟨_, rfl⟩
    rw [HCC.out, ← hi] at hr
    dsimp only at hr
    have hil : i < ls.length := by
      have h1 := chain_lt (l := tabL ls) (al := al) (s := s) i (by rw [HCC.out, hr]; exact List.mem_cons_self ..)
      rwa [tabL_len] at h1
    have hilt : i < (tabL ls).length := by rw [tabL_len]; exact hil
    obtain ⟨tg, htg⟩ : ∃ s, s = (tabL ls)[i].1 := ⟨_, rfl⟩
    have htg2 : tg = ls[i].tag := htg.trans (congrArg Prod.fst (List.getElem_map (fun x : LcH => (x.tag, x.par)) (l := ls) (i := i) (h := hilt)))
    have HTL : Hid (tg.length ≤ 120) := by show _ ≤ _; rw [htg2]; exact (HTW.out.ls.good _ (List.getElem_mem hil)).1
    have HOFF : Hid (∃ q, offP (tabL ls) cl = tg :: q) := by
      refine ⟨offP (tabL ls) r, ?_⟩
      rw [hr]
      unfold offP
      rw [List.map_cons, List.getElem?_eq_getElem hilt, htg]
      rfl
    have HAG : Hid (canonR al tg = (tg, 0) → chainP (tabL ls) al tg = (cl, 0)) := fun h => by
      rw [htg] at h ⊢
      rw [hr]
      exact chain_again (s := s) (by rw [HCC.out, hr]) hilt h
    clear hi hr hil hilt htg htg2 hu hcn
    obtain ⟨hls6⟩ : SlC strF 1 w6 A6 m6 ((offP (tabL ls) cl).map str) ∧ True := ⟨by first | exact HL6.out rfl | exact HL6.out trivial, trivial⟩
    have HS6 := Lib.hid hls6
    have hm60 : 0 < m6 := by obtain ⟨q, hq⟩ := HOFF.out; have h1 := hls6.len; rw [hq] at h1; simp at h1; omega
    have hm6l := hls6.le
    obtain ⟨b6, off6, e0, _, hcs⟩ := strs_cells hls6 hm60
    subst e0
    have x6 := hcs 0 (str tg) (by obtain ⟨q, hq⟩ := HOFF.out; rw [hq]; rfl)
    rw [Nat.add_zero] at x6
    obtain ⟨z, hz⟩ : ∃ z, z = str tg := ⟨_, rfl⟩
    rw [← hz] at x6
    have HZ := Lib.hid hz
    have X6 := laters x6
    have h60 : ((m6 : Int) == 0) = false := beq_eq_false_iff_ne.2 (by omega)
    have hi60 : (0 : Int) < (m6 : Int) := by omega
    obtain ⟨cn2, hcn2⟩ : ∃ c, c = (canonR al tg).1 := ⟨_, rfl⟩
    obtain ⟨e2, he2⟩ : ∃ c, c = (canonR al tg).2 := ⟨_, rfl⟩
    have HC2 : Hid (canonR al tg = (cn2, e2)) := by show _ = _; rw [hcn2, he2]
    obtain ⟨sc, hsc⟩ : ∃ c, c = str cn2 := ⟨_, rfl⟩
    have HQ : Hid ((sc.toList == z.toList) = decide (cn2 = tg)) := by show _ = _; rw [hsc, HZ.out]; exact str_eqB _ _
    have HCA : Hid (∀ W, Ext w W → Calls Tryz.prog 8 #[.slice A2 m2 c2, .string z] W fun e w' => e = .returned (.tuple #[.string sc, .int .i64 e2]) ∧ Ext W w') := by
      show ∀ _, _
      intro W hE
      rw [hsc, hcn2, he2, HZ.out]
      exact acanon_any (h := ⟨A2, m2, c2⟩) (HW.ext HTW.out.al hE) HTW.out.a12 (by have := HTL.out; omega) (HM.out.ext hE)
    have HE06 : Hid (Ext w w6) := HE0.out.trans HE6.out
    have hE06 := HE6.out
    have hE66 := Ext.refl w6
    replace k0 := laters (k0 w6 hE06)
    replace k1 := laters (k1 w6 hE06)
    replace k2 := laters (k2 w6 hE06)
    clear hls6 hcs hz x6 hcn2 he2 hsc
    go_upto_region 10 with fail
    go_cut [9, 10] from 75 to 83 (fun v9 v10 wx => v9 = .string sc ∧ v10 = .int .i64 e2 ∧ Ext w6 wx)
    case first =>
      go_region_held3 (fun w' => Ext w6 w')
        (first | assumption | exact (Ext.refl w6).drew)
        (first
          | (go_at_call 8; refine (HCA.out _ (HE06.out.drew)).mono ?_; rintro e w9 ⟨rfl, hE9⟩; have hE69 := ((Ext.refl w6).drew).trans hE9)
          | fail)
      all_goals
        go_wp2_with fail
        go_meet
        exact ⟨rfl, rfl, by assumption⟩
    case rest =>
      obtain ⟨rfl, rfl, hE9⟩ := hcut
      obtain ⟨w9, hw9⟩ : ∃ w3 : World, w3 = wc := ⟨_, rfl⟩
      rw [← hw9] at hE9 ⊢
      have HE9 := Lib.hid hE9
      clear hw9
      have j0 := laters (k0 w9 HE9.out)
      have j1 := laters (k1 w9 HE9.out)
      have j2 := laters (k2 w9 HE9.out)
      have X9 := laters (X6 w9 HE9.out)
      have HE09 : Hid (Ext w w9) := HE06.out.trans HE9.out
      have hE99 := Ext.refl w9
      clear k0 k1 k2 X6 hE9 hE06 hE66
      go_upto_region 11 with fail
      go_cut [92] from 84 to 92 (fun v wx => v = .bool (decide (e2 = 0) && decide (cn2 = tg)) ∧ wx = w9)
      case first =>
        have q1 := HQ.out
        obtain ⟨b2, hb2⟩ : ∃ b, b = decide (cn2 = tg) := ⟨_, rfl⟩
        rw [← hb2] at q1
        have HB2 := Lib.hid hb2
        clear hb2
        by_cases h2 : e2 = 0
        · have e1 : (e2 == 0) = true := by rw [h2]; rfl
          have e3 : decide (e2 = 0) = true := decide_eq_true h2
          have HE3 := Lib.hid e3
          clear e3 h2
          cases b2
          all_goals
            go_wp2
            go_meet
            exact ⟨by rw [HE3.out, ← HB2.out]; rfl, rfl⟩
        · have e1 : (e2 == 0) = false := beq_eq_false_iff_ne.2 h2
          have e3 : decide (e2 = 0) = false := decide_eq_false h2
          have HE3 := Lib.hid e3
          clear e3 h2
          go_wp2
          go_meet
          exact ⟨by rw [HE3.out]; rfl, rfl⟩
      case rest =>
      obtain ⟨rfl, hwc⟩ := hcut
      rw [hwc]
      clear hwc
      obtain ⟨bb, hbb⟩ : ∃ b, b = (decide (e2 = 0) && decide (cn2 = tg)) := ⟨_, rfl⟩
      have HBB := Lib.hid hbb
      rw [← hbb]
      clear hbb
      go_upto_if 92 with fail
      go_cut [11, 12, 13, 14] from 93 to 126 (fun v11 v12 v13 v14 wx => Ext w9 wx)
      case first =>
        cases bb with
        | false =>
          go_wp2
          go_meet
          exact Ext.refl w9
        | true =>
        obtain ⟨h2, h3⟩ : e2 = 0 ∧ cn2 = tg := by have h := HBB.out.symm; rw [Bool.and_eq_true, decide_eq_true_eq, decide_eq_true_eq] at h; exact h
        subst h2
        have HAC : Hid (chainP (tabL ls) al tg = (cl, 0)) := HAG.out (by rw [HC2.out, h3])
        have HEG : Hid (∀ W, Ext w W → Calls Tryz.prog 7 #[.agg #[.slice A1 m1 c1, .slice A2 m2 c2, .slice A3 m3 c3], .string z] W fun e w' => (∃ xx : LxH, e = .returned (.tuple #[lcV xx.lc, .int .i64 0]) ∧ DLy w' (fun j => w.heap.size ≤ j ∧ j < W.heap.size) xx ∧ EfR (atP xs cl) (plx xx)) ∧ Ext W w') := by
          show ∀ _, _
          intro W hE
          have h := eff_any hE (t := ⟨ls, al, nr, ⟨A1, m1, c1⟩, ⟨A2, m2, c2⟩, ⟨A3, m3, c3⟩⟩) (HTW.out.ext hE) HLS.out.symm HDL.out (s := tg) (by have := HTL.out; omega) (HM.out.ext hE)
          unfold EfPost at h
          dsimp only at h
          rw [HAC.out, ← HZ.out] at h
          exact h.mono fun e w' ⟨⟨y, h1, h2⟩, h3⟩ => by
            obtain ⟨xx, rfl, h4, h5⟩ := h2 rfl
            exact ⟨⟨xx, h1, h4, h5⟩, h3⟩
        have HOG : Hid (∀ W, Ext w W → Calls Tryz.prog 4 #[.agg #[.slice A1 m1 c1, .slice A2 m2 c2, .slice A3 m3 c3], .string z] W fun e w' => (∃ h : SlH, e = .returned (.tuple #[.slice h.A h.m h.c, .int .i64 0]) ∧ SlC strF 1 w' h.A h.m ((offP (tabL ls) cl).map str)) ∧ Ext W w') := by
          show ∀ _, _
          intro W hE
          have h := of_any (t := ⟨ls, al, nr, ⟨A1, m1, c1⟩, ⟨A2, m2, c2⟩, ⟨A3, m3, c3⟩⟩) (HTW.out.ext hE) (s := tg) (by have := HTL.out; omega) (HM.out.ext hE)
          unfold OfPost at h
          dsimp only at h
          rw [HAC.out, ← HZ.out] at h
          exact h.mono fun e w' ⟨⟨y, h1, h2⟩, h3⟩ => ⟨⟨y, h1, h2 rfl⟩, h3⟩
        clear h3
        go_upto_region 12 with fail
        go_cut [11, 12] from 93 to 100 (fun v11 v12 wx => ∃ (g11 : Nat) (x2 : LxH), v11 = .pointer (some ⟨g11, 0, none⟩) ∧ v12 = .int .i64 0 ∧ Blk wx g11 38 (lcC x2.lc).toArray ∧ DLx wx x2 ∧ EfR (atP xs cl) (plx x2) ∧ Ext w9 wx)
        case first =>
          refine wp_region_held_drew (S := fun w' => Ext w9 w') (by kernel_rfl) ((Ext.refl w9).drew) ?_
          intro hHeld
          refine wpAnyH_takeD (i := 0) (d := 94) (v := ?_) rfl rfl (by kernel_rfl) (by kernel_rfl) (by kernel_rfl) (fun _ _ _ h => h) (Or.inl ⟨by rfl, ?_⟩) hHeld ?_
          rotate_left
          · rintro w hS4
            go_simp
            try with_reducible rfl
          simp only [Act.put, List.setIfInBounds_toArray, List.set_cons_zero, List.set_cons_succ]
          refine wpAnyH_takeD (i := 1) (d := 95) (v := ?_) rfl rfl (by kernel_rfl) (by kernel_rfl) (by kernel_rfl) (fun _ _ _ h => h) (Or.inl ⟨by rfl, ?_⟩) hHeld ?_
          rotate_left
          · rintro w hS4
            go_simp
            try with_reducible rfl
          simp only [Act.put, List.setIfInBounds_toArray, List.set_cons_zero, List.set_cons_succ]
          refine wpAnyH_takeD (i := 2) (d := 96) (v := ?_) rfl rfl (by kernel_rfl) (by kernel_rfl) (by kernel_rfl) (fun _ _ _ h => h) (Or.inl ⟨by rfl, ?_⟩) hHeld ?_
          rotate_left
          · rintro w hS4
            go_simp
            try with_reducible rfl
          simp only [Act.put, List.setIfInBounds_toArray, List.set_cons_zero, List.set_cons_succ]
          refine wpAnyH_takeD (i := 3) (d := 97) (v := ?_) rfl rfl (by kernel_rfl) (by kernel_rfl) (by kernel_rfl) (fun _ _ _ h => h) (Or.inl ⟨by rfl, ?_⟩) hHeld ?_
          rotate_left
          · rintro w hS4
            go_simp
            try with_reducible rfl
          simp only [Act.put, List.setIfInBounds_toArray, List.set_cons_zero, List.set_cons_succ]
          refine wpAnyH_ready (rs := [4, 8]) (by kernel_rfl) (by simp) ?_
          refine AllReadyH.cons rfl (fun K hK => ?_) (AllReadyH.cons rfl (fun K hK => ?_) AllReadyH.nil)
          · go_simp
            go_at_call 7
            refine (HEG.out _ (HE09.out.drew)).mono ?_
            rintro e v1 ⟨⟨x2, rfl, hd2, hr2⟩, hEv⟩
            have hv1 : Ext w9 v1 := ((Ext.refl w9).drew).trans hEv
            refine hK.out _ _ hv1 (fun _ => ?_)
            clear hK K hHeld
            have hHeld : Ext w9 v1 := hv1
            refine wpAnyH_takeD (i := 5) (d := 93) (v := ?_) rfl rfl (by kernel_rfl) (by kernel_rfl) (by kernel_rfl) (fun _ _ _ h => h) (Or.inl ⟨by rfl, ?_⟩) hHeld ?_
            rotate_left
            · rintro w hS4
              go_simp
              try with_reducible rfl
            simp only [Act.put, List.setIfInBounds_toArray, List.set_cons_zero, List.set_cons_succ]
            refine wpAnyH_takeD (i := 6) (d := 99) (v := ?_) rfl rfl (by kernel_rfl) (by kernel_rfl) (by kernel_rfl) (fun _ _ _ h => h) (Or.inl ⟨by rfl, ?_⟩) hHeld ?_
            rotate_left
            · rintro w hS4
              go_simp
              try with_reducible rfl
            simp only [Act.put, List.setIfInBounds_toArray, List.set_cons_zero, List.set_cons_succ]
            refine wpAnyH_takeD (i := 7) (d := 100) (v := ?_) rfl rfl (by kernel_rfl) (by kernel_rfl) (by kernel_rfl) (fun _ _ _ h => h) (Or.inl ⟨by rfl, ?_⟩) hHeld ?_
            rotate_left
            · rintro w hS4
              go_simp
              try with_reducible rfl
            simp only [Act.put, List.setIfInBounds_toArray, List.set_cons_zero, List.set_cons_succ]
            refine wpAnyH_ready (rs := [8]) (by kernel_rfl) (by simp) ?_
            refine AllReadyH.cons rfl (fun K hK => ?_) AllReadyH.nil
            go_simp
            refine hK.out _ _ (hv1.alloc _) (fun _ => ?_)
            clear hK K hHeld
            have hEs : Ext v1 ((v1.alloc (.cells lcZs 38)).setRow v1.heap.size (lcC x2.lc).toArray) := ((Ext.refl v1).alloc _).grown (grown_setRow _ _ _) (fun j hj => by injection hj with hj; omega)
            refine wpAnyH_storeR (i := 9) (g := v1.heap.size) (cells := (lcC x2.lc).toArray) (by kernel_rfl) rfl rfl rfl rfl rfl rfl (Blk.new v1 38 lcZs) (by kernel_rfl) rfl (lc_all x2.lc) (hv1.trans hEs) ?_
            have hHeld := hv1.trans hEs
            refine wpAnyH_takeD (i := 10) (d := 12) (v := ?_) rfl rfl (by kernel_rfl) (by kernel_rfl) (by kernel_rfl) (fun _ _ _ h => h) (Or.inl ⟨by rfl, ?_⟩) hHeld ?_
            rotate_left
            · rintro w hS4
              go_simp
              try with_reducible rfl
            simp only [Act.put, List.setIfInBounds_toArray, List.set_cons_zero, List.set_cons_succ]
            refine wpAnyH_done (by kernel_rfl) ?_ _
            go_wp2_with fail
            go_meet
            exact ⟨v1.heap.size, x2, rfl, rfl, setRow_heap' (Blk.new v1 38 lcZs) _, hd2.dl.ext hEs, hr2, hv1.trans hEs⟩
          · go_simp
            have hEa : Ext w9 (w9.alloc (.cells lcZs 38)).drew := ((Ext.refl w9).alloc _).drew
            refine hK.out _ _ hEa (fun _ => ?_)
            clear hK K hHeld
            refine wpAnyH_ready (rs := [4]) (by kernel_rfl) (by simp) ?_
            refine AllReadyH.cons rfl (fun K hK => ?_) AllReadyH.nil
            go_simp
            go_at_call 7
            refine (HEG.out _ (HE09.out.trans hEa)).mono ?_
            rintro e v1 ⟨⟨x2, rfl, hd2, hr2⟩, hEv⟩
            have hv1 : Ext w9 v1 := hEa.trans hEv
            refine hK.out _ _ hv1 (fun _ => ?_)
            clear hK K
            have hHeld : Ext w9 v1 := hv1
            refine wpAnyH_takeD (i := 5) (d := 93) (v := ?_) rfl rfl (by kernel_rfl) (by kernel_rfl) (by kernel_rfl) (fun _ _ _ h => h) (Or.inl ⟨by rfl, ?_⟩) hHeld ?_
            rotate_left
            · rintro w hS4
              go_simp
              try with_reducible rfl
            simp only [Act.put, List.setIfInBounds_toArray, List.set_cons_zero, List.set_cons_succ]
            refine wpAnyH_takeD (i := 6) (d := 99) (v := ?_) rfl rfl (by kernel_rfl) (by kernel_rfl) (by kernel_rfl) (fun _ _ _ h => h) (Or.inl ⟨by rfl, ?_⟩) hHeld ?_
            rotate_left
            · rintro w hS4
              go_simp
              try with_reducible rfl
            simp only [Act.put, List.setIfInBounds_toArray, List.set_cons_zero, List.set_cons_succ]
            refine wpAnyH_takeD (i := 7) (d := 100) (v := ?_) rfl rfl (by kernel_rfl) (by kernel_rfl) (by kernel_rfl) (fun _ _ _ h => h) (Or.inl ⟨by rfl, ?_⟩) hHeld ?_
            rotate_left
            · rintro w hS4
              go_simp
              try with_reducible rfl
            simp only [Act.put, List.setIfInBounds_toArray, List.set_cons_zero, List.set_cons_succ]
            have hbz : Blk v1 w9.heap.size 38 lcZs := (show Blk (w9.alloc (.cells lcZs 38)).drew w9.heap.size 38 lcZs from Blk.new w9 38 lcZs).below hEv (by have h := (Blk.new w9 38 lcZs).lt; exact h)
            have hdk : DLx (v1.setRow w9.heap.size (lcC x2.lc).toArray) x2 := (hd2.kp ((KpS.grown (grown_setRow v1 w9.heap.size _)).mono fun j _ e => by
              injection e with e
              have h1 := HE09.out.size
              have h2 : (w9.alloc (.cells lcZs 38)).drew.heap.size = w9.heap.size + 1 := by show (w9.alloc (.cells lcZs 38)).heap.size = _; simp
              rw [h2]
              omega)).dl
            have hEs : Ext w9 (v1.setRow w9.heap.size (lcC x2.lc).toArray) := hv1.grown (grown_setRow _ _ _) (fun j hj => by injection hj with hj; omega)
            refine wpAnyH_storeR (i := 9) (g := w9.heap.size) (cells := (lcC x2.lc).toArray) (by kernel_rfl) rfl rfl rfl rfl rfl rfl hbz (by kernel_rfl) rfl (lc_all x2.lc) hEs ?_
            have hHeld := hEs
            refine wpAnyH_takeD (i := 10) (d := 12) (v := ?_) rfl rfl (by kernel_rfl) (by kernel_rfl) (by kernel_rfl) (fun _ _ _ h => h) (Or.inl ⟨by rfl, ?_⟩) hHeld ?_
            rotate_left
            · rintro w hS4
              go_simp
              try with_reducible rfl
            simp only [Act.put, List.setIfInBounds_toArray, List.set_cons_zero, List.set_cons_succ]
            refine wpAnyH_done (by kernel_rfl) ?_ _
            go_wp2_with fail
            go_meet
            exact ⟨w9.heap.size, x2, rfl, rfl, setRow_heap' hbz _, hdk, hr2, hEs⟩
        case rest =>
        obtain ⟨g11, x2, rfl, rfl, hb11, hd2, hr2, hE12⟩ := hcut
        obtain ⟨w12, hw12⟩ : ∃ w3 : World, w3 = wc := ⟨_, rfl⟩
        rw [← hw12] at hb11 hd2 hE12 ⊢
        have HB11 := Lib.hid hb11
        have HD2 := Lib.hid hd2
        have HR2 := Lib.hid hr2
        have HE12 := Lib.hid hE12
        have i0 := laters (j0 w12 hE12)
        have i1 := laters (j1 w12 hE12)
        have i2 := laters (j2 w12 hE12)
        have X12 := laters (X9 w12 hE12)
        have hE1212 := Ext.refl w12
        clear hw12 hb11 hd2 hr2 hE12 j0 j1 j2 X9
        go_upto_region 13 with fail
        go_cut [13, 14] from 101 to 108 (fun v13 v14 wx => ∃ h : SlH, v13 = .slice h.A h.m h.c ∧ v14 = .int .i64 0 ∧ SlC strF 1 wx h.A h.m ((offP (tabL ls) cl).map str) ∧ Ext w12 wx)
        case first =>
          refine wp_region_held_drew (S := fun w' => Ext w12 w') (by kernel_rfl) ((Ext.refl w12).drew) ?_
          intro hHeld
          refine wpAnyH_takeD (i := 0) (d := 102) (v := ?_) rfl rfl (by kernel_rfl) (by kernel_rfl) (by kernel_rfl) (fun _ _ _ h => h) (Or.inl ⟨by rfl, ?_⟩) hHeld ?_
          rotate_left
          · rintro w hS4
            go_simp
            try with_reducible rfl
          simp only [Act.put, List.setIfInBounds_toArray, List.set_cons_zero, List.set_cons_succ]
          refine wpAnyH_takeD (i := 1) (d := 103) (v := ?_) rfl rfl (by kernel_rfl) (by kernel_rfl) (by kernel_rfl) (fun _ _ _ h => h) (Or.inl ⟨by rfl, ?_⟩) hHeld ?_
          rotate_left
          · rintro w hS4
            go_simp
            try with_reducible rfl
          simp only [Act.put, List.setIfInBounds_toArray, List.set_cons_zero, List.set_cons_succ]
          refine wpAnyH_takeD (i := 2) (d := 104) (v := ?_) rfl rfl (by kernel_rfl) (by kernel_rfl) (by kernel_rfl) (fun _ _ _ h => h) (Or.inl ⟨by rfl, ?_⟩) hHeld ?_
          rotate_left
          · rintro w hS4
            go_simp
            try with_reducible rfl
          simp only [Act.put, List.setIfInBounds_toArray, List.set_cons_zero, List.set_cons_succ]
          refine wpAnyH_takeD (i := 3) (d := 105) (v := ?_) rfl rfl (by kernel_rfl) (by kernel_rfl) (by kernel_rfl) (fun _ _ _ h => h) (Or.inl ⟨by rfl, ?_⟩) hHeld ?_
          rotate_left
          · rintro w hS4
            go_simp
            try with_reducible rfl
          simp only [Act.put, List.setIfInBounds_toArray, List.set_cons_zero, List.set_cons_succ]
          refine wpAnyH_ready (rs := [4]) (by kernel_rfl) (by simp) ?_
          refine AllReadyH.cons rfl (fun K hK => ?_) AllReadyH.nil
          go_simp
          go_at_call 4
          refine (HOG.out _ ((HE09.out.trans HE12.out).drew)).mono ?_
          rintro e v1 ⟨⟨h, rfl, hsl⟩, hEv⟩
          have hv1 : Ext w12 v1 := ((Ext.refl w12).drew).trans hEv
          refine hK.out _ _ hv1 (fun _ => ?_)
          clear hK K hHeld
          have hHeld : Ext w12 v1 := hv1
          refine wpAnyH_takeD (i := 5) (d := 101) (v := ?_) rfl rfl (by kernel_rfl) (by kernel_rfl) (by kernel_rfl) (fun _ _ _ h => h) (Or.inl ⟨by rfl, ?_⟩) hHeld ?_
          rotate_left
          · rintro w hS4
            go_simp
            try with_reducible rfl
          simp only [Act.put, List.setIfInBounds_toArray, List.set_cons_zero, List.set_cons_succ]
          refine wpAnyH_takeD (i := 6) (d := 107) (v := ?_) rfl rfl (by kernel_rfl) (by kernel_rfl) (by kernel_rfl) (fun _ _ _ h => h) (Or.inl ⟨by rfl, ?_⟩) hHeld ?_
          rotate_left
          · rintro w hS4
            go_simp
            try with_reducible rfl
          simp only [Act.put, List.setIfInBounds_toArray, List.set_cons_zero, List.set_cons_succ]
          refine wpAnyH_takeD (i := 7) (d := 108) (v := ?_) rfl rfl (by kernel_rfl) (by kernel_rfl) (by kernel_rfl) (fun _ _ _ h => h) (Or.inl ⟨by rfl, ?_⟩) hHeld ?_
          rotate_left
          · rintro w hS4
            go_simp
            try with_reducible rfl
          simp only [Act.put, List.setIfInBounds_toArray, List.set_cons_zero, List.set_cons_succ]
          refine wpAnyH_takeD (i := 8) (d := 13) (v := ?_) rfl rfl (by kernel_rfl) (by kernel_rfl) (by kernel_rfl) (fun _ _ _ h => h) (Or.inl ⟨by rfl, ?_⟩) hHeld ?_
          rotate_left
          · rintro w hS4
            go_simp
            try with_reducible rfl
          simp only [Act.put, List.setIfInBounds_toArray, List.set_cons_zero, List.set_cons_succ]
          refine wpAnyH_takeD (i := 9) (d := 14) (v := ?_) rfl rfl (by kernel_rfl) (by kernel_rfl) (by kernel_rfl) (fun _ _ _ h => h) (Or.inl ⟨by rfl, ?_⟩) hHeld ?_
          rotate_left
          · rintro w hS4
            go_simp
            try with_reducible rfl
          simp only [Act.put, List.setIfInBounds_toArray, List.set_cons_zero, List.set_cons_succ]
          refine wpAnyH_done (by kernel_rfl) ?_ _
          go_wp2_with fail
          go_meet
          exact ⟨h, rfl, rfl, hsl, hv1⟩
        case rest =>
        obtain ⟨⟨A13, m13, c13⟩, rfl, rfl, hs13, hE13⟩ := hcut
        dsimp only at hs13 ⊢
        obtain ⟨w13, hw13⟩ : ∃ w3 : World, w3 = wc := ⟨_, rfl⟩
        rw [← hw13] at hs13 hE13 ⊢
        have HS13 := Lib.hid hs13
        have HE13 := Lib.hid hE13
        obtain ⟨x1, hx1, hd1, hr1⟩ : ∃ xx : LxH, xx.lc = y ∧ DLx w4 xx ∧ EfR (atP xs cl) (plx xx) := by first | exact HY.out rfl | exact HY.out trivial
        subst hx1
        have HE4d : Hid (Ext w4 w13) := (((HWX.out.trans HE56.out).trans HE9.out).trans HE12.out).trans HE13.out
        have HSA : Hid (∀ W, Ext w13 W → Calls Tryz.prog 9 #[lcV x1.lc, lcV x2.lc] W fun e w' => e = .returned (.bool true) ∧ Ext W w') := fun W hE => sameLocale_any (hd1.ext (HE4d.out.trans hE)) (HD2.out.ext (HE13.out.trans hE)) (hr1.uniq HR2.out)
        have HB7d : Hid (Blk w13 g7 38 (lcC x1.lc).toArray) := HB7.out.below (((HE56.out.trans HE9.out).trans HE12.out).trans HE13.out) HB7.out.lt
        have HB11d : Hid (Blk w13 g11 38 (lcC x2.lc).toArray) := HB11.out.below HE13.out HB11.out.lt
        have HSM : Hid (∀ W, Ext w13 W → Calls Tryz.prog 5 #[.slice (some ⟨b6, off6, none⟩) m6 c6, .slice A13 m13 c13] W fun e w' => e = .returned (.bool true) ∧ Ext W w') := fun W hE => sameStrs_any _ _ (HS6.out.ext (((HE9.out.trans HE12.out).trans HE13.out).trans hE)) (HS13.out.ext hE)
        have y0 := show w13.cell? ⟨g7, 0, none⟩ = some (.string (str x1.lc.tag)) from HB7d.out.cell 0
        have y1 := show w13.cell? ⟨g7, 1, none⟩ = some (.string (str x1.lc.par)) from HB7d.out.cell 1
        have y2 := show w13.cell? ⟨g7, 2, none⟩ = some (.string (str x1.lc.dir)) from HB7d.out.cell 2
        have y3 := show w13.cell? ⟨g7, 3, none⟩ = some (.slice x1.lc.card.A x1.lc.card.m x1.lc.card.c) from HB7d.out.cell 3
        have y4 := show w13.cell? ⟨g7, 4, none⟩ = some (.slice x1.lc.ord.A x1.lc.ord.m x1.lc.ord.c) from HB7d.out.cell 4
        have y5 := show w13.cell? ⟨g7, 5, none⟩ = some (.string (str x1.lc.dec)) from HB7d.out.cell 5
        have y6 := show w13.cell? ⟨g7, 6, none⟩ = some (.string (str x1.lc.grp)) from HB7d.out.cell 6
        have y7 := show w13.cell? ⟨g7, 7, none⟩ = some (.string (str x1.lc.min)) from HB7d.out.cell 7
        have y8 := show w13.cell? ⟨g7, 8, none⟩ = some (.string (str x1.lc.pct)) from HB7d.out.cell 8
        have y9 := show w13.cell? ⟨g7, 9, none⟩ = some (.int .i64 x1.lc.p1) from HB7d.out.cell 9
        have y10 := show w13.cell? ⟨g7, 10, none⟩ = some (.int .i64 x1.lc.p2) from HB7d.out.cell 10
        have y11 := show w13.cell? ⟨g7, 11, none⟩ = some (.slice x1.lc.lst.A x1.lc.lst.m x1.lc.lst.c) from HB7d.out.cell 11
        have y12 := show w13.cell? ⟨g7, 12, none⟩ = some (.slice x1.lc.unt.A x1.lc.unt.m x1.lc.unt.c) from HB7d.out.cell 12
        have y13 := show w13.cell? ⟨g7, 13, none⟩ = some (.slice x1.lc.dat.A x1.lc.dat.m x1.lc.dat.c) from HB7d.out.cell 13
        have y14 := show w13.cell? ⟨g7, 14, none⟩ = some (.slice x1.lc.mon.A x1.lc.mon.m x1.lc.mon.c) from HB7d.out.cell 14
        have y15 := show w13.cell? ⟨g7, 15, none⟩ = some (.slice x1.lc.day.A x1.lc.day.m x1.lc.day.c) from HB7d.out.cell 15
        have v0 := show w13.cell? ⟨g11, 0, none⟩ = some (.string (str x2.lc.tag)) from HB11d.out.cell 0
        have v1 := show w13.cell? ⟨g11, 1, none⟩ = some (.string (str x2.lc.par)) from HB11d.out.cell 1
        have v2 := show w13.cell? ⟨g11, 2, none⟩ = some (.string (str x2.lc.dir)) from HB11d.out.cell 2
        have v3 := show w13.cell? ⟨g11, 3, none⟩ = some (.slice x2.lc.card.A x2.lc.card.m x2.lc.card.c) from HB11d.out.cell 3
        have v4 := show w13.cell? ⟨g11, 4, none⟩ = some (.slice x2.lc.ord.A x2.lc.ord.m x2.lc.ord.c) from HB11d.out.cell 4
        have v5 := show w13.cell? ⟨g11, 5, none⟩ = some (.string (str x2.lc.dec)) from HB11d.out.cell 5
        have v6 := show w13.cell? ⟨g11, 6, none⟩ = some (.string (str x2.lc.grp)) from HB11d.out.cell 6
        have v7 := show w13.cell? ⟨g11, 7, none⟩ = some (.string (str x2.lc.min)) from HB11d.out.cell 7
        have v8 := show w13.cell? ⟨g11, 8, none⟩ = some (.string (str x2.lc.pct)) from HB11d.out.cell 8
        have v9 := show w13.cell? ⟨g11, 9, none⟩ = some (.int .i64 x2.lc.p1) from HB11d.out.cell 9
        have v10 := show w13.cell? ⟨g11, 10, none⟩ = some (.int .i64 x2.lc.p2) from HB11d.out.cell 10
        have v11 := show w13.cell? ⟨g11, 11, none⟩ = some (.slice x2.lc.lst.A x2.lc.lst.m x2.lc.lst.c) from HB11d.out.cell 11
        have v12 := show w13.cell? ⟨g11, 12, none⟩ = some (.slice x2.lc.unt.A x2.lc.unt.m x2.lc.unt.c) from HB11d.out.cell 12
        have v13 := show w13.cell? ⟨g11, 13, none⟩ = some (.slice x2.lc.dat.A x2.lc.dat.m x2.lc.dat.c) from HB11d.out.cell 13
        have v14 := show w13.cell? ⟨g11, 14, none⟩ = some (.slice x2.lc.mon.A x2.lc.mon.m x2.lc.mon.c) from HB11d.out.cell 14
        have v15 := show w13.cell? ⟨g11, 15, none⟩ = some (.slice x2.lc.day.A x2.lc.day.m x2.lc.day.c) from HB11d.out.cell 15
        have hE1313 := Ext.refl w13
        clear hw13 hs13 hE13 hd1 hr1 i0 i1 i2 X12
        go_wp2_with (first
          | (go_at_call 9; refine Hid.out ?_))
        refine Hid.mk_ ((HSA.out _ hE1313).mono ?_)
        rintro e w14 ⟨rfl, hE14⟩
        clear y0 y1 y2 y3 y4 y5 y6 y7 y8 y9 y10 y11 y12 y13 y14 y15 v0 v1 v2 v3 v4 v5 v6 v7 v8 v9 v10 v11 v12 v13 v14 v15
        go_wp2_with (first
          | (go_at_call 5; refine Hid.out ?_))
        refine Hid.mk_ ((HSM.out _ hE14).mono ?_)
        rintro e w15 ⟨rfl, hE15⟩
        have HE15 := Lib.hid ((HE12.out.trans HE13.out).trans (hE14.trans hE15))
        clear hE14 hE15
        go_wp2
        go_meet
        exact HE15.out
      case rest =>
      obtain ⟨w16, hw16⟩ : ∃ w3 : World, w3 = wc := ⟨_, rfl⟩
      rw [← hw16] at hcut ⊢
      have HE16 := Lib.hid hcut
      have HE016 : Hid (Ext w w16) := HE09.out.trans HE16.out
      have i0 := laters (j0 w16 hcut)
      have i1 := laters (j1 w16 hcut)
      have i2 := laters (j2 w16 hcut)
      have hE1616 := Ext.refl w16
      clear hw16 hcut j0 j1 j2 X9 hE99
      have hnew : SlC strF 1 (w16.alloc (.cells #[.string x] 9)) (some ⟨w16.heap.size, 0, none⟩) 1 ([s].map str) := by
        rw [show [s].map str = [x] by rw [HXS.out]; rfl]
        exact SlC.new_ (cs := strF) w16 [x] (fun _ => rfl) (by simp) _ rfl (0, 0) _ rfl _
      have HNG : Hid (∀ c0, Calls Tryz.prog 10 #[.agg #[.slice A1 m1 c1, .slice A2 m2 c2, .slice A3 m3 c3], .slice (some ⟨w16.heap.size, 0, none⟩) 1 c0] (w16.alloc (.cells #[.string x] 9)) fun e w' => NegPost ⟨ls, al, nr, ⟨A1, m1, c1⟩, ⟨A2, m2, c2⟩, ⟨A3, m3, c3⟩⟩ s e ∧ Ext (w16.alloc (.cells #[.string x] 9)) w') := fun c0 =>
        neg_any (t := ⟨ls, al, nr, ⟨A1, m1, c1⟩, ⟨A2, m2, c2⟩, ⟨A3, m3, c3⟩⟩) (HTW.out.ext (HE016.out.alloc _)) HS1.out (HM.out.ext (HE016.out.alloc _)) HU.out HCN.out c0 hnew
      clear hnew
      go_wp2_with (first
        | (go_at_call 10; refine Hid.out ?_))
      refine Hid.mk_ ((HNG.out _).mono ?_)
      rintro e w17 ⟨⟨b, e3, rfl, hn1, hn2⟩, hE17⟩
      dsimp only at hn1 hn2
      have HN1 := Lib.hid hn1
      have HN2 := Lib.hid hn2
      have hE1617 : Ext w16 w17 := ((Ext.refl w16).alloc _).trans hE17
      have HE17 : Hid (Ext w w17) := HE016.out.trans hE1617
      have l1 := laters (i1 w17 hE1617)
      have l2 := laters (i2 w17 hE1617)
      have hE1717 := Ext.refl w17
      obtain ⟨sb, hsb⟩ : ∃ v, v = str b := ⟨_, rfl⟩
      have HSB := Lib.hid hsb
      rw [← hsb]
      clear hn1 hn2 hE17 i0 i1 i2 hE1616 hE1617 hsb
      by_cases h3 : e3 = 0
      case neg =>
        obtain ⟨h4, h5⟩ := HN1.out h3
        subst h4
        have HV : Hid (∀ W, Ext w W → Calls Tryz.prog 11 #[.slice A3 m3 c3] W fun e w' => e = .returned (.bool false) ∧ Ext W w') := by
          show ∀ _, _
          intro W hE
          rw [← h5]
          exact mvalid_any (h := ⟨A3, m3, c3⟩) (HTW.out.nr.ext hE) HTW.out.n30
        clear h5 h3
        go_wp2_with (first
          | (go_at_call 11; refine Hid.out ?_))
        refine Hid.mk_ ((HV.out _ HE17.out).mono ?_)
        rintro e w18 ⟨rfl, hE18⟩
        go_wp2
        go_ret
        exact ⟨by first | rfl | simp, HE17.out.trans hE18⟩
      case pos =>
        subst h3
        obtain ⟨hv, hb⟩ : valN nr = true ∧ (b = undL ∨ ((∃ x ∈ ls, b = x.tag) ∧ (parseT b).2 = 0 ∧ (parseT (canonR al s).1).2 = 0 ∧ distT nr (parseT (canonR al s).1).1 (parseT b).1 ≤ 60)) := by first | exact HN2.out rfl | exact HN2.out trivial
        have hbl : b.length ≤ 1000 ∧ (parseT b).2 = 0 := by
          rcases hb with h | ⟨⟨y, hy, h⟩, h4, _⟩
          · rw [h]; exact ⟨by decide, by kernel_rfl⟩
          · exact ⟨by rw [h]; have := (HTW.out.ls.good y hy).1; omega, h4⟩
        obtain ⟨n, hn⟩ : ∃ n, n = distT nr (parseT (canonR al s).1).1 (parseT b).1 := ⟨_, rfl⟩
        have HNB : Hid (b = undL ∨ n ≤ 60) := by
          rcases hb with h | ⟨_, _, _, h⟩
          · exact .inl h
          · exact .inr (by rw [hn]; exact h)
        have hca : (parseT (canonR al s).1).2 = 0 := by
          obtain ⟨t, hvt, ht⟩ := canon_valid HCN.out
          rw [ht, parse_text hvt]
        have HDI : Hid (∀ W, Ext w W → Calls Tryz.prog 12 #[.slice A3 m3 c3, .string (str (canonR al s).1), .string sb] W fun e w' => e = .returned (.tuple #[.int .i64 n, .int .i64 0]) ∧ Ext W w') := by
          show ∀ _, _
          intro W hE
          rw [hn, HSB.out]
          exact mdist_any (h := ⟨A3, m3, c3⟩) (HTW.out.nr.ext hE) HTW.out.n30 hv (canon_len HCN.out) hbl.1 hca hbl.2 (HM.out.ext hE)
        have HCX : Hid (∀ W, Ext w W → Calls Tryz.prog 8 #[.slice A2 m2 c2, .string x] W fun e w' => e = .returned (.tuple #[.string (str (canonR al s).1), .int .i64 0]) ∧ Ext W w') := by
          show ∀ _, _
          intro W hE
          have h := acanon_any (h := ⟨A2, m2, c2⟩) (HW.ext HTW.out.al hE) HTW.out.a12 HS1.out (HM.out.ext hE)
          rw [HCN.out, ← HXS.out] at h
          exact h
        obtain ⟨sa, hsa⟩ : ∃ v, v = str (canonR al s).1 := ⟨_, rfl⟩
        rw [← hsa] at HDI HCX
        clear hv hb hbl hn hca hsa
        go_wp2_with (first
          | (go_at_call 8; refine Hid.out ?_))
        refine Hid.mk_ ((HCX.out _ HE17.out).mono ?_)
        rintro e w18 ⟨rfl, hE18⟩
        go_wp2_with (first
          | (go_at_call 12; refine Hid.out ?_))
        refine Hid.mk_ ((HDI.out _ (HE17.out.trans hE18)).mono ?_)
        rintro e w19 ⟨rfl, hE19⟩
        have HE19 : Hid (Ext w w19) := (HE17.out.trans hE18).trans hE19
        have q1 : b = undL → (sb.toList == [117, 110, 100]) = true := fun h => by
          rw [HSB.out, h, ← str_toList [117, 110, 100]]
          exact (str_eqB _ _).trans (decide_eq_true rfl)
        have Q1 := Lib.hid q1
        clear q1 l1 l2 hE18 hE19
        by_cases hn60 : n ≤ 60
        · go_wp2
          go_ret
          exact ⟨by first | rfl | simp, HE19.out⟩
        · have q2 := Q1.out (HNB.out.resolve_right hn60)
          go_wp2
          go_ret
          exact ⟨by first | rfl | simp, HE19.out⟩
end
end Go.Proofs.YtdgppdiickmofaaGreatDoor
