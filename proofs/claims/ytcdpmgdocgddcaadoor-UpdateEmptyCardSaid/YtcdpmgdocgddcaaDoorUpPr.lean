/- Whether an extraction is proper: what the program computes. -/
import Derived.Test.YtcdpmgdocgddcaaDoorUpL
import Derived.Test.YtcdpmgdocgddcaaDoorCatV
namespace Go.Proofs.YtcdpmgdocgddcaaDoor
open Go.RowKit
set_option maxRecDepth 100000
attribute [local go_sem] ext_refl_t ext_alloc_t ext_drew_t ext_drewN_t ext_alloc2_t ext_alloc3_t ext_alloc4_t ext_alloc5_t ext_alloc6_t ext_alloc7_t ext_alloc8_t ext_alloc1d_t ext_alloc2d_t ext_alloc3d_t ext_alloc4d_t
section
variable {w : World}
theorem fldV_none : FldV none = .tuple #[.string ⟨#[]⟩, .bool false] := rfl
theorem fldV_some (v : ByteArray) : FldV (some v) = .tuple #[.string v, .bool true] := rfl
set_option maxHeartbeats 12800000 in
theorem proper_any {x : Cat} (hx : CatW w x) {h : SlH} {es : List Ent} (hs : EntsW w h es) (hT : Tabs w) :
    Calls Tryd.prog 26 #[catV x, .slice h.A h.m h.c] w fun e w' => e = .returned (.bool (properP x.p (es.map Ent.p))) ∧ Ext w w' := by
  obtain ⟨tag, com, fd, xes, hc, hd, he⟩ := x
  have HX := Lib.hid hx
  have HS := Lib.hid hs
  have HTT := Lib.hid hT
  unfold catV
  dsimp only
  have hb := Blk.new w 26 #[.string tag, .slice hc.A hc.m hc.c, .slice hd.A hd.m hd.c, .slice he.A he.m he.c]
  have hE1 : Ext w (w.alloc (Obj.cells #[.string tag, .slice hc.A hc.m hc.c, .slice hd.A hd.m hd.c, .slice he.A he.m he.c] 26)) := (Ext.refl w).alloc _
  obtain ⟨W1, hW1⟩ : ∃ W1, W1 = w.alloc (Obj.cells #[.string tag, .slice hc.A hc.m hc.c, .slice hd.A hd.m hd.c, .slice he.A he.m he.c] 26) := ⟨_, rfl⟩
  rw [← hW1] at hb hE1
  obtain ⟨g, hg⟩ : ∃ g, g = w.heap.size := ⟨_, rfl⟩
  rw [← hg] at hb
  have X0 := laters (show _ = some (.string tag) from hb.cell 0)
  have X1 := laters (show _ = some (.slice hc.A hc.m hc.c) from hb.cell 1)
  have X2 := laters (show _ = some (.slice hd.A hd.m hd.c) from hb.cell 2)
  have X3 := laters (show _ = some (.slice he.A he.m he.c) from hb.cell 3)
  have HL := Lib.hid hs.sl.len
  have hle := hs.sl.le
  clear hb hx hs hT
  have hEr := Ext.refl W1
  go_enter Tryd.func26, Tryd.ntmps26
  go_upto_region 1 with fail
  rw [← hW1, ← hg]
  clear hW1 hg
  have HE1 := Lib.hid hE1
  go_wp2
  go_loopw [13] (fun v wr => ∃ q : Nat, q ≤ h.m ∧ v = .int .i64 q ∧ Hid (((es.map Ent.p).take q).all noTake = true) ∧ Ext W1 wr) (fun v _ => h.m - (intOf v).toNat)
  case atStart => exact ⟨0, Nat.zero_le _, rfl, rfl, Ext.refl _⟩
  case round =>
    obtain ⟨q, hq, rfl, HQ, hE⟩ := hrel
    by_cases hlt : q < h.m
    · obtain ⟨b, off, eA, _, hcs⟩ := (HS.out.sl.ext (HE1.out.trans hE)).at_ hlt (by omega)
      have hlt1 : q < es.length := by rw [← HL.out]; exact hlt
      obtain ⟨y, hyq⟩ : ∃ y, y = es[q] := ⟨_, rfl⟩
      have y0 := hcs q hlt1 0 (by omega)
      have y1 := hcs q hlt1 1 (by omega)
      have y2 := hcs q hlt1 2 (by omega)
      have y3 := hcs q hlt1 3 (by omega)
      have y4 := hcs q hlt1 4 (by omega)
      have y5 := hcs q hlt1 5 (by omega)
      have y6 := hcs q hlt1 6 (by omega)
      simp only [← hyq, entC, List.getElem_cons_zero, List.getElem_cons_succ, Nat.add_zero, ← Nat.add_assoc] at y0 y1 y2 y3 y4 y5 y6
      have HYD : Hid (FdsW w y.d y.p.fd) := (HS.out.good y (by rw [hyq]; exact List.getElem_mem hlt1)).d
      have HTK : Hid (((es.map Ent.p).take (q + 1)).all noTake = noTake y.p) := by
        show _ = _
        have hl : q < (es.map Ent.p).length := by rw [List.length_map]; exact hlt1
        rw [List.take_succ_eq_append_getElem hl, List.all_append, HQ.out, Bool.true_and, hyq]
        simp
      have HMEM : Hid (y.p ∈ es.map Ent.p) := by show _ ∈ _; rw [hyq]; exact List.mem_map_of_mem (List.getElem_mem hlt1)
      have hi1 : (q : Int) < (h.m : Int) := by omega
      clear hcs hyq
      obtain ⟨⟨yid, ysrc, ytgt, ycom, yfl, yst, yfd⟩, yhc, yhf, yhd⟩ := y
      dsimp only at y0 y1 y2 y3 y4 y5 y6
      have hbY := Blk.new wr 35 #[.string yid, .string ysrc, .string ytgt, .slice yhc.A yhc.m yhc.c, .slice yhf.A yhf.m yhf.c, .int .i64 yst, .slice yhd.A yhd.m yhd.c]
      obtain ⟨W2, hW2⟩ : ∃ W2, W2 = wr.alloc (Obj.cells #[.string yid, .string ysrc, .string ytgt, .slice yhc.A yhc.m yhc.c, .slice yhf.A yhf.m yhf.c, .int .i64 yst, .slice yhd.A yhd.m yhd.c] 35) := ⟨_, rfl⟩
      rw [← hW2] at hbY
      have hE2 : Ext wr W2 := by rw [hW2]; exact (Ext.refl _).alloc _
      have Y6 := laters (show _ = some (.slice yhd.A yhd.m yhd.c) from hbY.cell 6)
      have hE12 := hE.trans hE2
      have hEr2 := Ext.refl W2
      rw [eA]
      go_upto_region 4 with fail
      rw [← hW2]
      clear hW2 hbY y0 y1 y2 y3 y4 y5 y6
      go_wp2_with (first
        | (go_at_call 45; refine Hid.out ?_))
      refine Hid.mk_ ((pfield_any (HYD.out.sl.ext (HE1.out.trans hE12)) ⟨#[112, 114, 101, 118, 105, 111, 117, 115]⟩).mono ?_)
      rintro e w3 ⟨⟨o1, ho1, rfl⟩, hE3⟩
      have H1 : Hid (o1 = fld prevB yfd) := ho1.eq
      have hE13 := hE12.trans hE3
      clear ho1
      have HYM := HMEM
      cases o1 with
      | none =>
        rw [fldV_none]
        go_wp2_with (first
          | (go_at_call 45; refine Hid.out ?_))
        refine Hid.mk_ ((pfield_any (c := yhd.c) (HYD.out.sl.ext (HE1.out.trans hE13)) ⟨#[114, 101, 117, 115, 101, 100]⟩).mono ?_)
        rintro e w4 ⟨⟨o2, ho2, rfl⟩, hE4⟩
        have H2 : Hid (o2 = fld reusB yfd) := ho2.eq
        have hE14 := hE13.trans hE4
        clear ho2
        have HNT : Hid (noTake ⟨yid, ysrc, ytgt, ycom, yfl, yst, yfd⟩ = (Option.isNone (none : Option ByteArray) && o2.isNone)) := by show _ = _; unfold noTake; rw [← H1.out, H2.out]
        cases o2 with
        | none =>
          rw [fldV_none]
          have HQ2 : Hid (((es.map Ent.p).take (q + 1)).all noTake = true) := by show _ = _; rw [HTK.out, HNT.out]; rfl
          go_wp2
          go_roundw
          case rel => exact ⟨q + 1, by omega, by go_num, HQ2, hE14⟩
          case measure => simp [intOf]; omega
        | some v2 =>
          rw [fldV_some]
          have HF : Hid (properP ⟨tag, com, fd, xes.map Ent.p⟩ (es.map Ent.p) = false) := by
            show _ = _
            unfold properP
            have : (es.map Ent.p).all noTake = false := by
              cases hb : (es.map Ent.p).all noTake with
              | false => rfl
              | true => rw [List.all_eq_true] at hb; have := hb _ HMEM.out; rw [HNT.out] at this; cases this
            rw [this]
            rfl
          have HE4 := Lib.hid (HE1.out.trans hE14)
          go_wp2
          go_ret
          exact ⟨by show _ = Ending.returned (.bool (properP ⟨tag, com, fd, xes.map Ent.p⟩ (es.map Ent.p))); rw [HF.out]; rfl, HE4.out⟩
      | some v1 =>
        rw [fldV_some]
        go_wp2_with (first
          | (go_at_call 45; refine Hid.out ?_))
        refine Hid.mk_ ((pfield_any (c := yhd.c) (HYD.out.sl.ext (HE1.out.trans hE13)) ⟨#[114, 101, 117, 115, 101, 100]⟩).mono ?_)
        rintro e w4 ⟨⟨o2, ho2, rfl⟩, hE4⟩
        have H2 : Hid (o2 = fld reusB yfd) := ho2.eq
        have hE14 := hE13.trans hE4
        clear ho2
        have HNT : Hid (noTake ⟨yid, ysrc, ytgt, ycom, yfl, yst, yfd⟩ = (Option.isNone (some v1) && o2.isNone)) := by show _ = _; unfold noTake; rw [← H1.out, H2.out]
        cases o2 with
        | none =>
          rw [fldV_none]
          have HF : Hid (properP ⟨tag, com, fd, xes.map Ent.p⟩ (es.map Ent.p) = false) := by
            show _ = _
            unfold properP
            have : (es.map Ent.p).all noTake = false := by
              cases hb : (es.map Ent.p).all noTake with
              | false => rfl
              | true => rw [List.all_eq_true] at hb; have := hb _ HMEM.out; rw [HNT.out] at this; cases this
            rw [this]
            rfl
          have HE4 := Lib.hid (HE1.out.trans hE14)
          go_wp2
          go_ret
          exact ⟨by show _ = Ending.returned (.bool (properP ⟨tag, com, fd, xes.map Ent.p⟩ (es.map Ent.p))); rw [HF.out]; rfl, HE4.out⟩
        | some v2 =>
          rw [fldV_some]
          have HF : Hid (properP ⟨tag, com, fd, xes.map Ent.p⟩ (es.map Ent.p) = false) := by
            show _ = _
            unfold properP
            have : (es.map Ent.p).all noTake = false := by
              cases hb : (es.map Ent.p).all noTake with
              | false => rfl
              | true => rw [List.all_eq_true] at hb; have := hb _ HMEM.out; rw [HNT.out] at this; cases this
            rw [this]
            rfl
          have HE4 := Lib.hid (HE1.out.trans hE14)
          go_wp2
          go_ret
          exact ⟨by show _ = Ending.returned (.bool (properP ⟨tag, com, fd, xes.map Ent.p⟩ (es.map Ent.p))); rw [HF.out]; rfl, HE4.out⟩
    · have hi1 : ¬ (q : Int) < (h.m : Int) := by omega
      have HALL : Hid ((es.map Ent.p).all noTake = true) := by
        have := HQ.out
        rw [List.take_of_length_le (by rw [List.length_map]; have := HL.out; omega)] at this
        exact this
      have hv1 := valid_any' (HX.out.ext (HE1.out.trans hE)) (HTT.out.ext (HE1.out.trans hE))
      unfold catV at hv1
      dsimp only at hv1
      have X0b := X0 wr hE
      have X1b := X1 wr hE
      have X2b := X2 wr hE
      have X3b := X3 wr hE
      clear X0 X1 X2 X3
      have hErr := Ext.refl wr
      have HPP : Hid (∀ b1 b2 : Bool, validC (Cat.p ⟨tag, com, fd, xes, hc, hd, he⟩) = b1 → validC ⟨tag, [], [], es.map Ent.p⟩ = b2 → properP (Cat.p ⟨tag, com, fd, xes, hc, hd, he⟩) (es.map Ent.p) = (b1 && b2)) := fun b1 b2 e1 e2 => by
        unfold properP
        rw [HALL.out, Bool.true_and, e1]
        show (b1 && validC ⟨tag, [], [], es.map Ent.p⟩) = _
        rw [e2]
      cases hb1 : validC (Cat.p ⟨tag, com, fd, xes, hc, hd, he⟩) with
      | false =>
        rw [hb1] at hv1
        go_wp2_with (first
          | (go_at_call 32; refine Hid.out ?_))
        refine Hid.mk_ ((hv1).mono ?_)
        rintro e w5 ⟨rfl, hE5⟩
        have HR := Lib.hid (HPP.out false _ hb1 rfl)
        clear hb1 hv1
        have HE5 := Lib.hid ((HE1.out.trans hE).trans hE5)
        go_wp2
        go_ret
        exact ⟨by show _ = Ending.returned (.bool (properP (Cat.p ⟨tag, com, fd, xes, hc, hd, he⟩) (es.map Ent.p))); rw [HR.out]; rfl, HE5.out⟩
      | true =>
        rw [hb1] at hv1
        go_wp2_with (first
          | (go_at_call 32; refine Hid.out ?_))
        refine Hid.mk_ ((hv1).mono ?_)
        rintro e w5 ⟨rfl, hE5⟩
        have HR := Lib.hid (HPP.out true _ hb1 rfl)
        have hE05 := (HE1.out.trans hE).trans hE5
        have hx2 : CatW w5 ⟨tag, [], [], es, ⟨none, 0, 0⟩, ⟨none, 0, 0⟩, h⟩ := ⟨HX.out.tag, HW.nil_ strF_len, HW.nil_ fdC_len, EntsW.ext HS.out hE05⟩
        have hv2 := valid_any' hx2 (HTT.out.ext hE05)
        unfold catV at hv2
        dsimp only at hv2
        have hv2' : Calls Tryd.prog 32 #[.agg #[.string tag, .slice none 0 0, .slice none 0 0, .slice h.A h.m h.c]] w5 fun e w' => e = .returned (.bool (validC ⟨tag, [], [], es.map Ent.p⟩)) ∧ Ext w5 w' := hv2
        have x0 := later hE5 X0b
        clear hb1 hv1 hx2 hv2
        go_wp2_with (first
          | (go_at_call 32; refine Hid.out ?_))
        refine Hid.mk_ ((hv2').mono ?_)
        rintro e w6 ⟨rfl, hE6⟩
        have HE6 := Lib.hid (hE05.trans hE6)
        clear hv2'
        go_wp2
        go_ret
        exact ⟨by show _ = Ending.returned (.bool (properP (Cat.p ⟨tag, com, fd, xes, hc, hd, he⟩) (es.map Ent.p))); rw [HR.out]; rfl, HE6.out⟩
end
end Go.Proofs.YtcdpmgdocgddcaaDoor
