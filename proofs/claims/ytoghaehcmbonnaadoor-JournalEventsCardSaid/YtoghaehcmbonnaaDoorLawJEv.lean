/- Encode returns the encoding of any event, and Decode the event with any bytes as its encoding, or ErrForm. No condition. -/
import Derived.Test.YtoghaehcmbonnaaDoorJrnS
import Derived.Test.YtoghaehcmbonnaaDoorJrnQ
import Derived.Test.YtoghaehcmbonnaaDoorJrnT
import Derived.Test.YtoghaehcmbonnaaDoorReadB
import Derived.Test.YtoghaehcmbonnaaDoorJrnD
import Derived.Test.YtoghaehcmbonnaaDoorJrnR
import Derived.Test.YtoghaehcmbonnaaDoorTie
import Derived.Test.YtoghaehcmbonnaaDoorCards
import Derived.Laws.OwnMore
import Derived.ProofKit
import Derived.OpenShut
import Derived.ShutString
import Derived.ChangeOld
import Derived.SizedLaws
namespace Go.Proofs.YtoghaehcmbonnaaDoor
open Go.ChangeShapes Go.WideShapes Go.ChangeAt Go.RowKit
set_option maxRecDepth 100000
attribute [local go_sem] ext_refl_t ext_alloc_t ext_drew_t ext_drewN_t ext_alloc2_t ext_alloc3_t ext_alloc4_t ext_alloc5_t ext_alloc6_t ext_alloc7_t ext_alloc8_t ext_alloc1d_t ext_alloc2d_t ext_alloc3d_t ext_alloc4d_t
section
variable {P : Program} {md : Region.Mode} {ops : Array Oper} {Q : Exit → Act → World → Prop} {S S2 : World → Prop}
theorem wpAnyH_take_d {i d : Nat} {oi : Oper} {v : Value} {fuel : Nat} {listed : Array Bool} {a : Act} {w : World} (hi : ops[i]? = some oi) (hd : oi.dst = some d)
    (hs : Region.noSelect ops = true) (hf : Region.free md ops listed i = true) (hr : (Region.ready md ops listed).contains i = true)
    (hQ : ∀ c a w, Q (.panic c) (a.put oi.dst v) w → Q (.panic c) a w) (hy : YieldsIf P ops S oi v a) (hS : S w)
    (h : wpAnyH P md ops Q S fuel (listed.setIfInBounds i true) (a.put (some d) v) w) : wpAnyH P md ops Q S (fuel + 1) listed a w :=
  wpAnyH_take hi hs hf hr hQ hy hS (by rw [hd]; exact h)
theorem wpAnyH_mono (hs : ∀ w, S2 w → S w) : ∀ (fuel : Nat) (listed : Array Bool) (a : Act) (w : World), wpAnyH P md ops Q S2 fuel listed a w → wpAnyH P md ops Q S fuel listed a w
  | 0, _, _, _, h => h
  | fuel + 1, _, _, _, h => ⟨h.1, fun i hi => wpOp_mono (fun a' w' h' => ⟨hs _ h'.1, wpAnyH_mono hs fuel _ a' w' h'.2⟩) (h.2 i hi)⟩
end
theorem few1_iff (x : Ev) : fewJ [x] = decide (sumE x ≤ 2000) := by
  unfold fewJ
  simp
theorem decE_code (l : List UInt8) : (decE l).2 = 0 ∨ (decE l).2 = 4 := by
  unfold decE
  split
  · exact .inr rfl
  · exact .inl rfl
section
variable {w : World}
set_option maxHeartbeats 12800000 in
theorem jev_walk (kd xa xb xt : Int) (who nam id txt : ByteArray) (hg : GdE ⟨kd, who, nam, id, txt, xa, xb, xt⟩) {A : Option Addr} {m : Nat} (c : Nat) {l : List UInt8} (hs : SlB w A m l) (hT : PT w) :
    Calls Tryd.prog 5 #[.agg #[.int .i64 kd, .string who, .string nam, .string id, .string txt, .int .i64 xa, .int .i64 xb, .int .i64 xt], .slice A m c] w fun e w' => e = .returned (.bool true) ∧ Ext w w' := by
  have hE0 : Ext w (w.alloc (Obj.cells #[.int .i64 kd, .string who, .string nam, .string id, .string txt, .int .i64 xa, .int .i64 xb, .int .i64 xt] 31)) := (Ext.refl w).alloc _
  have hbx := Blk.new w 31 #[.int .i64 kd, .string who, .string nam, .string id, .string txt, .int .i64 xa, .int .i64 xb, .int .i64 xt]
  go_enter Tryd.func5, Tryd.ntmps5
  go_wp2_with (first
    | (go_at_call 6; refine Hid.out ?_))
  refine Hid.mk_ ((awake_jrn (hT.ext hE0)).mono ?_)
  rintro e w1 ⟨rfl, hE1⟩
  have hb1 := hbx.below hE1 hbx.lt
  obtain ⟨gx, hgx⟩ : ∃ gx, gx = w.heap.size := ⟨_, rfl⟩
  rw [← hgx] at hb1 ⊢
  have x0 : w1.cell? ⟨gx, 0, none⟩ = some (.int .i64 kd) := hb1.cell 0
  have x1 : w1.cell? ⟨gx, 1, none⟩ = some (.string who) := hb1.cell 1
  have x2 : w1.cell? ⟨gx, 2, none⟩ = some (.string nam) := hb1.cell 2
  have x3 : w1.cell? ⟨gx, 3, none⟩ = some (.string id) := hb1.cell 3
  have x4 : w1.cell? ⟨gx, 4, none⟩ = some (.string txt) := hb1.cell 4
  have x5 : w1.cell? ⟨gx, 5, none⟩ = some (.int .i64 xa) := hb1.cell 5
  have x6 : w1.cell? ⟨gx, 6, none⟩ = some (.int .i64 xb) := hb1.cell 6
  have x7 : w1.cell? ⟨gx, 7, none⟩ = some (.int .i64 xt) := hb1.cell 7
  have hE01 := hE0.trans hE1
  have HGX := Lib.hid hgx
  have hEf : Ext w1 (w1.alloc (Obj.cells #[.int .i64 kd, .string who, .string nam, .string id, .string txt, .int .i64 xa, .int .i64 xb, .int .i64 xt] 31)) := (Ext.refl w1).alloc _
  have hsf := slc_evb kd who nam id txt xa xb xt (Blk.new w1 31 #[.int .i64 kd, .string who, .string nam, .string id, .string txt, .int .i64 xa, .int .i64 xb, .int .i64 xt])
  clear hgx hbx
  go_wp2_with (first
    | (go_at_call 7; refine Hid.out ?_))
  refine Hid.mk_ ((jfew_any 1 hsf (fun y hy => by rw [List.mem_singleton.1 hy]; exact hg.2)).mono ?_)
  rintro e w2 ⟨rfl, hE2⟩
  have hE12 := hEf.trans hE2
  have hE02 := hE01.trans hE12
  have hb2 := hb1.below hE12 hb1.lt
  rw [few1_iff]
  by_cases hf : sumE ⟨kd, who, nam, id, txt, xa, xb, xt⟩ ≤ 2000
  case neg =>
    rw [decide_eq_false hf]
    clear hf
    go_wp2
    go_ret
    exact ⟨rfl, hE02⟩
  rw [decide_eq_true hf]
  by_cases hm : m ≤ 2000
  case neg =>
    have hm1 : (2000 : Int) < (m : Int) := by omega
    clear hf hm
    go_wp2
    go_ret
    exact ⟨rfl, hE02⟩
  have hm1 : ¬ (2000 : Int) < (m : Int) := by omega
  have hok : OkE ⟨kd, who, nam, id, txt, xa, xb, xt⟩ := ⟨hg.1, by have h1 := encE_len ⟨kd, who, nam, id, txt, xa, xb, xt⟩; unfold sumE at hf; dsimp only at h1 hf; omega⟩
  have hsh : ShortE ⟨kd, who, nam, id, txt, xa, xb, xt⟩ := by unfold ShortE; unfold sumE at hf; omega
  have hel : (encE ⟨kd, who, nam, id, txt, xa, xb, xt⟩).length ≤ 300000 := hok.2
  have HF := Lib.hid hf
  clear hf hsf
  obtain ⟨le, hle⟩ : ∃ le, le = encE ⟨kd, who, nam, id, txt, xa, xb, xt⟩ := ⟨_, rfl⟩
  have hdx : decE le = (⟨kd, who, nam, id, txt, xa, xb, xt⟩, 0) := by rw [hle]; exact decE_okE hok
  have HENC : Hid (∀ W : World, Calls Tryd.prog 19 #[.agg #[.int .i64 kd, .string who, .string nam, .string id, .string txt, .int .i64 xa, .int .i64 xb, .int .i64 xt]] W fun e w' => ∃ A m c, e = .returned (.slice A m c) ∧ OsB w' W.heap.size A m c le ∧ Ext W w') := fun W => by rw [hle]; exact jenc_any _ hg.1 hsh
  have HRENC : Hid (∀ W : World, Calls Tryd.prog 20 #[.agg #[.int .i64 kd, .string who, .string nam, .string id, .string txt, .int .i64 xa, .int .i64 xb, .int .i64 xt]] W fun e w' => ∃ A m c, e = .returned (.slice A m c) ∧ OsB w' W.heap.size A m c le ∧ Ext W w') := fun W => by rw [hle]; exact rjenc_any _ hg.1 (by unfold sumE at HF; have := HF.out; dsimp only at this ⊢; omega)
  rw [← hle] at hel
  clear hle hok hsh
  go_wp2_with (first
    | (go_at_call 17; refine Hid.out ?_))
  refine Hid.mk_ ((jdec_any c (hs.ext hE02)).mono ?_)
  rintro e w3 ⟨rfl, hE3⟩
  have hdc := decE_code l
  have hdo : (decE l).2 = 0 → encE (decE l).1 = l ∧ GoodE (decE l).1 ∧ ShortE (decE l).1 := fun h => by
    obtain ⟨a1, a2, a3, a4, a5, a6⟩ := decE_ok h
    exact ⟨a1, a2, by unfold ShortE; have := hs.len; omega⟩
  have hRD : ∀ W : World, Ext w W → Calls Tryd.prog 18 #[.slice A m c] W fun e w' => e = .returned (.tuple #[evV (decE l).1, .int .i64 (decE l).2]) ∧ Ext W w' := fun W hW => rjdec_any c (hs.ext hW) (by omega)
  obtain ⟨⟨y0, y1, y2, y3, y4, y5, y6, y7⟩, de, hdl⟩ : ∃ y de, decE l = (y, de) := ⟨_, _, rfl⟩
  rw [hdl] at hdc hdo hRD ⊢
  dsimp only at hdc hdo hRD ⊢
  unfold evV at hRD ⊢
  dsimp only at hRD ⊢
  have HRDC := Lib.hid hRD
  have HDO := Lib.hid hdo
  have hE13 := hE12.trans hE3
  have hE03 := hE02.trans hE3
  clear hdl hdo hRD
  obtain ⟨W4, hW4⟩ : ∃ W4, W4 = w3.alloc (Obj.cells #[.int .i64 y0, .string y1, .string y2, .string y3, .string y4, .int .i64 y5, .int .i64 y6, .int .i64 y7] 31) := ⟨_, rfl⟩
  obtain ⟨g5, hg5⟩ : ∃ g5, g5 = w3.heap.size := ⟨_, rfl⟩
  have hE34 : Ext w3 W4 := by rw [hW4]; exact (Ext.refl _).alloc _
  have hy5 : Blk W4 g5 31 #[.int .i64 y0, .string y1, .string y2, .string y3, .string y4, .int .i64 y5, .int .i64 y6, .int .i64 y7] := by rw [hW4, hg5]; exact Blk.new _ _ _
  have hE04 := hE03.trans hE34
  have hE14 := hE13.trans hE34
  go_wp2_with (first
    | (go_at_call 18; refine Hid.out ?_))
  rw [← hW4, ← hg5]
  refine Hid.mk_ ((HRDC.out W4 hE04).mono ?_)
  rintro e w5 ⟨rfl, hE5⟩
  clear hW4 hg5
  have hE05 := hE04.trans hE5
  have hE15 := hE14.trans hE5
  have hy5b := hy5.below hE5 hy5.lt
  obtain ⟨W6, hW6⟩ : ∃ W6, W6 = w5.alloc (Obj.cells #[.int .i64 y0, .string y1, .string y2, .string y3, .string y4, .int .i64 y5, .int .i64 y6, .int .i64 y7] 31) := ⟨_, rfl⟩
  obtain ⟨g7, hg7⟩ : ∃ g7, g7 = w5.heap.size := ⟨_, rfl⟩
  have hE56 : Ext w5 W6 := by rw [hW6]; exact (Ext.refl _).alloc _
  have hy7 : Blk W6 g7 31 #[.int .i64 y0, .string y1, .string y2, .string y3, .string y4, .int .i64 y5, .int .i64 y6, .int .i64 y7] := by rw [hW6, hg7]; exact Blk.new _ _ _
  have hy5c := hy5b.below hE56 hy5b.lt
  have hE06 := hE05.trans hE56
  have hE16 := hE15.trans hE56
  have hb6 := hb1.below hE16 hb1.lt
  have z0 : W6.cell? ⟨gx, 0, none⟩ = some (.int .i64 kd) := hb6.cell 0
  have z1 : W6.cell? ⟨gx, 1, none⟩ = some (.string who) := hb6.cell 1
  have z2 : W6.cell? ⟨gx, 2, none⟩ = some (.string nam) := hb6.cell 2
  have z3 : W6.cell? ⟨gx, 3, none⟩ = some (.string id) := hb6.cell 3
  have z4 : W6.cell? ⟨gx, 4, none⟩ = some (.string txt) := hb6.cell 4
  have z5 : W6.cell? ⟨gx, 5, none⟩ = some (.int .i64 xa) := hb6.cell 5
  have z6 : W6.cell? ⟨gx, 6, none⟩ = some (.int .i64 xb) := hb6.cell 6
  have z7 : W6.cell? ⟨gx, 7, none⟩ = some (.int .i64 xt) := hb6.cell 7
  rw [hW6] at z0 z1 z2 z3 z4 z5 z6 z7
  go_wp2_with (first
    | (go_at_call 19; refine Hid.out ?_))
  rw [← hW6, ← hg7]
  refine Hid.mk_ ((HENC.out W6).mono ?_)
  rintro e w7 ⟨A7, m7, c7, rfl, ho7, hE7⟩
  clear hW6 hg7 z0 z1 z2 z3 z4 z5 z6 z7
  have hE07 := hE06.trans hE7
  have hjd := jdec_any (A := A7) (m := m7) c7 ho7.sl
  rw [hdx] at hjd
  unfold evV at hjd
  dsimp only at hjd
  go_wp2_with (first
    | (go_at_call 17; refine Hid.out ?_))
  refine Hid.mk_ ((hjd).mono ?_)
  rintro e w8 ⟨rfl, hE8⟩
  clear hjd ho7
  have hE78 := hE7.trans hE8
  obtain ⟨W8, hW8⟩ : ∃ W8, W8 = w8.alloc (Obj.cells #[.int .i64 kd, .string who, .string nam, .string id, .string txt, .int .i64 xa, .int .i64 xb, .int .i64 xt] 31) := ⟨_, rfl⟩
  obtain ⟨g9, hg9⟩ : ∃ g9, g9 = w8.heap.size := ⟨_, rfl⟩
  have hE88 : Ext w8 W8 := by rw [hW8]; exact (Ext.refl _).alloc _
  have hE68 := hE78.trans hE88
  have hE08 := hE06.trans hE68
  have bx8 := hb6.below hE68 hb6.lt
  have b58 := hy5c.below hE68 hy5c.lt
  have b78 := hy7.below hE68 hy7.lt
  have b98 : Blk W8 g9 31 #[.int .i64 kd, .string who, .string nam, .string id, .string txt, .int .i64 xa, .int .i64 xb, .int .i64 xt] := by rw [hW8, hg9]; exact Blk.new _ _ _
  obtain ⟨Sb, hSb⟩ : ∃ Sb, Sb = str l := ⟨_, rfl⟩
  obtain ⟨Sx, hSx⟩ : ∃ Sx, Sx = str le := ⟨_, rfl⟩
  have HCVB : Hid (∀ W, Ext W8 W → (convert 27 9 (.slice A m c)).run Tryd.prog W = .ok (.string Sb) W) := fun W h => by rw [hSb]; exact conv_str (hs.ext (hE08.trans h)) _
  have KALL : Hid (∀ W, Ext W8 W → W.cell? ⟨gx, 0, none⟩ = some (.int .i64 kd) ∧ W.cell? ⟨gx, 1, none⟩ = some (.string who) ∧ W.cell? ⟨gx, 2, none⟩ = some (.string nam) ∧ W.cell? ⟨gx, 3, none⟩ = some (.string id) ∧ W.cell? ⟨gx, 4, none⟩ = some (.string txt) ∧ W.cell? ⟨gx, 5, none⟩ = some (.int .i64 xa) ∧ W.cell? ⟨gx, 6, none⟩ = some (.int .i64 xb) ∧ W.cell? ⟨gx, 7, none⟩ = some (.int .i64 xt) ∧ W.cell? ⟨g5, 0, none⟩ = some (.int .i64 y0) ∧ W.cell? ⟨g5, 1, none⟩ = some (.string y1) ∧ W.cell? ⟨g5, 2, none⟩ = some (.string y2) ∧ W.cell? ⟨g5, 3, none⟩ = some (.string y3) ∧ W.cell? ⟨g5, 4, none⟩ = some (.string y4) ∧ W.cell? ⟨g5, 5, none⟩ = some (.int .i64 y5) ∧ W.cell? ⟨g5, 6, none⟩ = some (.int .i64 y6) ∧ W.cell? ⟨g5, 7, none⟩ = some (.int .i64 y7) ∧ W.cell? ⟨g7, 0, none⟩ = some (.int .i64 y0) ∧ W.cell? ⟨g7, 1, none⟩ = some (.string y1) ∧ W.cell? ⟨g7, 2, none⟩ = some (.string y2) ∧ W.cell? ⟨g7, 3, none⟩ = some (.string y3) ∧ W.cell? ⟨g7, 4, none⟩ = some (.string y4) ∧ W.cell? ⟨g7, 5, none⟩ = some (.int .i64 y5) ∧ W.cell? ⟨g7, 6, none⟩ = some (.int .i64 y6) ∧ W.cell? ⟨g7, 7, none⟩ = some (.int .i64 y7) ∧ W.cell? ⟨g9, 0, none⟩ = some (.int .i64 kd) ∧ W.cell? ⟨g9, 1, none⟩ = some (.string who) ∧ W.cell? ⟨g9, 2, none⟩ = some (.string nam) ∧ W.cell? ⟨g9, 3, none⟩ = some (.string id) ∧ W.cell? ⟨g9, 4, none⟩ = some (.string txt) ∧ W.cell? ⟨g9, 5, none⟩ = some (.int .i64 xa) ∧ W.cell? ⟨g9, 6, none⟩ = some (.int .i64 xb) ∧ W.cell? ⟨g9, 7, none⟩ = some (.int .i64 xt) ∧ (convert 27 9 (.slice A m c)).run Tryd.prog W = .ok (.string Sb) W) := fun W h => ⟨later h (bx8.cell 0), later h (bx8.cell 1), later h (bx8.cell 2), later h (bx8.cell 3), later h (bx8.cell 4), later h (bx8.cell 5), later h (bx8.cell 6), later h (bx8.cell 7), later h (b58.cell 0), later h (b58.cell 1), later h (b58.cell 2), later h (b58.cell 3), later h (b58.cell 4), later h (b58.cell 5), later h (b58.cell 6), later h (b58.cell 7), later h (b78.cell 0), later h (b78.cell 1), later h (b78.cell 2), later h (b78.cell 3), later h (b78.cell 4), later h (b78.cell 5), later h (b78.cell 6), later h (b78.cell 7), later h (b98.cell 0), later h (b98.cell 1), later h (b98.cell 2), later h (b98.cell 3), later h (b98.cell 4), later h (b98.cell 5), later h (b98.cell 6), later h (b98.cell 7), HCVB.out W h⟩
  have HENX : Hid (∀ W, Ext W8 W → Calls Tryd.prog 19 #[.agg #[.int .i64 kd, .string who, .string nam, .string id, .string txt, .int .i64 xa, .int .i64 xb, .int .i64 xt]] W fun e w' => (∃ A m c, e = .returned (.slice A m c) ∧ ∀ W', Ext w' W' → (convert 27 9 (.slice A m c)).run Tryd.prog W' = .ok (.string Sx) W') ∧ Ext W w') := fun W _ => (HENC.out W).mono fun e w' ⟨A, m, c, h1, h2, h3⟩ => ⟨⟨A, m, c, h1, fun W' h4 => by rw [hSx]; exact conv_str (h2.sl.ext h4) _⟩, h3⟩
  have HREX : Hid (∀ W, Ext W8 W → Calls Tryd.prog 20 #[.agg #[.int .i64 kd, .string who, .string nam, .string id, .string txt, .int .i64 xa, .int .i64 xb, .int .i64 xt]] W fun e w' => (∃ A m c, e = .returned (.slice A m c) ∧ ∀ W', Ext w' W' → (convert 27 9 (.slice A m c)).run Tryd.prog W' = .ok (.string Sx) W') ∧ Ext W w') := fun W _ => (HRENC.out W).mono fun e w' ⟨A, m, c, h1, h2, h3⟩ => ⟨⟨A, m, c, h1, fun W' h4 => by rw [hSx]; exact conv_str (h2.sl.ext h4) _⟩, h3⟩
  have HE08 := Lib.hid hE08
  have hE8e : Ext W8 W8 := Ext.refl _
  have hE8d : Ext W8 W8.drew := (Ext.refl _).drew
  rcases hdc with rfl | rfl
  · obtain ⟨hd1, hd2, hd3⟩ := HDO.out rfl
    have HENY : Hid (∀ W, Ext W8 W → Calls Tryd.prog 19 #[.agg #[.int .i64 y0, .string y1, .string y2, .string y3, .string y4, .int .i64 y5, .int .i64 y6, .int .i64 y7]] W fun e w' => (∃ A m c, e = .returned (.slice A m c) ∧ ∀ W', Ext w' W' → (convert 27 9 (.slice A m c)).run Tryd.prog W' = .ok (.string Sb) W') ∧ Ext W w') := fun W _ => (jenc_any ⟨y0, y1, y2, y3, y4, y5, y6, y7⟩ hd2 hd3).mono fun e w' ⟨A, m, c, h1, h2, h3⟩ => ⟨⟨A, m, c, h1, fun W' h4 => by rw [hSb, ← hd1]; exact conv_str (h2.sl.ext h4) _⟩, h3⟩
    clear hSb hSx HENC HRENC HDO hd1 hd2 hd3 HRDC hdx bx8 b58 b78 b98 hb1 hb2 hb6 hy5 hy5b hy5c hy7 x0 x1 x2 x3 x4 x5 x6 x7 HCVB hE01 hE12 hE02 hE03 hE04 hE05 hE06 hE07 hE13 hE14 hE15 hE16 hE34 hE56 hE68 hE78 hE88 hE08 hEf
    go_wp2
    rw [← hW8, ← hg9]
    clear hW8 hg9
    have K0 : ∀ W, Ext W8 W → _ := fun W h => (KALL.out W h).1
    have K1 : ∀ W, Ext W8 W → _ := fun W h => (KALL.out W h).2.1
    have K2 : ∀ W, Ext W8 W → _ := fun W h => (KALL.out W h).2.2.1
    have K3 : ∀ W, Ext W8 W → _ := fun W h => (KALL.out W h).2.2.2.1
    have K4 : ∀ W, Ext W8 W → _ := fun W h => (KALL.out W h).2.2.2.2.1
    have K5 : ∀ W, Ext W8 W → _ := fun W h => (KALL.out W h).2.2.2.2.2.1
    have K6 : ∀ W, Ext W8 W → _ := fun W h => (KALL.out W h).2.2.2.2.2.2.1
    have K7 : ∀ W, Ext W8 W → _ := fun W h => (KALL.out W h).2.2.2.2.2.2.2.1
    have K8 : ∀ W, Ext W8 W → _ := fun W h => (KALL.out W h).2.2.2.2.2.2.2.2.1
    have K9 : ∀ W, Ext W8 W → _ := fun W h => (KALL.out W h).2.2.2.2.2.2.2.2.2.1
    have K10 : ∀ W, Ext W8 W → _ := fun W h => (KALL.out W h).2.2.2.2.2.2.2.2.2.2.1
    have K11 : ∀ W, Ext W8 W → _ := fun W h => (KALL.out W h).2.2.2.2.2.2.2.2.2.2.2.1
    have K12 : ∀ W, Ext W8 W → _ := fun W h => (KALL.out W h).2.2.2.2.2.2.2.2.2.2.2.2.1
    have K13 : ∀ W, Ext W8 W → _ := fun W h => (KALL.out W h).2.2.2.2.2.2.2.2.2.2.2.2.2.1
    have K14 : ∀ W, Ext W8 W → _ := fun W h => (KALL.out W h).2.2.2.2.2.2.2.2.2.2.2.2.2.2.1
    have K15 : ∀ W, Ext W8 W → _ := fun W h => (KALL.out W h).2.2.2.2.2.2.2.2.2.2.2.2.2.2.2.1
    have K16 : ∀ W, Ext W8 W → _ := fun W h => (KALL.out W h).2.2.2.2.2.2.2.2.2.2.2.2.2.2.2.2.1
    have K17 : ∀ W, Ext W8 W → _ := fun W h => (KALL.out W h).2.2.2.2.2.2.2.2.2.2.2.2.2.2.2.2.2.1
    have K18 : ∀ W, Ext W8 W → _ := fun W h => (KALL.out W h).2.2.2.2.2.2.2.2.2.2.2.2.2.2.2.2.2.2.1
    have K19 : ∀ W, Ext W8 W → _ := fun W h => (KALL.out W h).2.2.2.2.2.2.2.2.2.2.2.2.2.2.2.2.2.2.2.1
    have K20 : ∀ W, Ext W8 W → _ := fun W h => (KALL.out W h).2.2.2.2.2.2.2.2.2.2.2.2.2.2.2.2.2.2.2.2.1
    have K21 : ∀ W, Ext W8 W → _ := fun W h => (KALL.out W h).2.2.2.2.2.2.2.2.2.2.2.2.2.2.2.2.2.2.2.2.2.1
    have K22 : ∀ W, Ext W8 W → _ := fun W h => (KALL.out W h).2.2.2.2.2.2.2.2.2.2.2.2.2.2.2.2.2.2.2.2.2.2.1
    have K23 : ∀ W, Ext W8 W → _ := fun W h => (KALL.out W h).2.2.2.2.2.2.2.2.2.2.2.2.2.2.2.2.2.2.2.2.2.2.2.1
    have K24 : ∀ W, Ext W8 W → _ := fun W h => (KALL.out W h).2.2.2.2.2.2.2.2.2.2.2.2.2.2.2.2.2.2.2.2.2.2.2.2.1
    have K25 : ∀ W, Ext W8 W → _ := fun W h => (KALL.out W h).2.2.2.2.2.2.2.2.2.2.2.2.2.2.2.2.2.2.2.2.2.2.2.2.2.1
    have K26 : ∀ W, Ext W8 W → _ := fun W h => (KALL.out W h).2.2.2.2.2.2.2.2.2.2.2.2.2.2.2.2.2.2.2.2.2.2.2.2.2.2.1
    have K27 : ∀ W, Ext W8 W → _ := fun W h => (KALL.out W h).2.2.2.2.2.2.2.2.2.2.2.2.2.2.2.2.2.2.2.2.2.2.2.2.2.2.2.1
    have K28 : ∀ W, Ext W8 W → _ := fun W h => (KALL.out W h).2.2.2.2.2.2.2.2.2.2.2.2.2.2.2.2.2.2.2.2.2.2.2.2.2.2.2.2.1
    have K29 : ∀ W, Ext W8 W → _ := fun W h => (KALL.out W h).2.2.2.2.2.2.2.2.2.2.2.2.2.2.2.2.2.2.2.2.2.2.2.2.2.2.2.2.2.1
    have K30 : ∀ W, Ext W8 W → _ := fun W h => (KALL.out W h).2.2.2.2.2.2.2.2.2.2.2.2.2.2.2.2.2.2.2.2.2.2.2.2.2.2.2.2.2.2.1
    have K31 : ∀ W, Ext W8 W → _ := fun W h => (KALL.out W h).2.2.2.2.2.2.2.2.2.2.2.2.2.2.2.2.2.2.2.2.2.2.2.2.2.2.2.2.2.2.2.1
    have K32 : ∀ W, Ext W8 W → _ := fun W h => (KALL.out W h).2.2.2.2.2.2.2.2.2.2.2.2.2.2.2.2.2.2.2.2.2.2.2.2.2.2.2.2.2.2.2.2
    clear KALL hE8e
    refine wp_region_held_drew (S := fun w' => Ext W8 w') (by kernel_rfl) hE8d ?_
    intro hHeld
    refine wpAnyH_take_d (i := 0) (d := 38) (v := ?_) rfl rfl (by kernel_rfl) (by kernel_rfl) (by kernel_rfl) (fun _ _ _ h => h) (Or.inl ⟨by rfl, ?_⟩) hHeld ?_
    rotate_left
    · rintro w hS8; go_simp; try with_reducible rfl
    simp only [Act.put, List.setIfInBounds_toArray, List.set_cons_zero, List.set_cons_succ]
    refine wpAnyH_take_d (i := 3) (d := 41) (v := ?_) rfl rfl (by kernel_rfl) (by kernel_rfl) (by kernel_rfl) (fun _ _ _ h => h) (Or.inl ⟨by rfl, ?_⟩) hHeld ?_
    rotate_left
    · rintro w hS8; go_simp; try with_reducible rfl
    simp only [Act.put, List.setIfInBounds_toArray, List.set_cons_zero, List.set_cons_succ]
    refine wpAnyH_ready (rs := [1]) (by kernel_rfl) (by simp) ?_
    refine AllReadyH.cons rfl (fun K hK => ?_) (AllReadyH.nil)
    go_simp
    go_at_call 19
    refine (HENX.out _ hE8d).mono ?_
    rintro e wa ⟨⟨Aa, ma, ca, rfl, hca⟩, hEa⟩
    have hE8a : Ext W8 wa := Ext.trans hE8d hEa
    refine hK.out _ _ hE8a (fun _ => ?_)
    clear hK K hHeld
    refine wpAnyH_mono (S2 := fun w' => Ext W8 w' ∧ Ext wa w') (fun _ h => h.1) _ _ _ _ ?_
    have hHeld : Ext W8 wa ∧ Ext wa wa := ⟨hE8a, Ext.refl _⟩
    refine wpAnyH_take_d (i := 2) (d := 40) (v := ?_) rfl rfl (by kernel_rfl) (by kernel_rfl) (by kernel_rfl) (fun _ _ _ h => h) (Or.inl ⟨by rfl, ?_⟩) hHeld ?_
    rotate_left
    · rintro w ⟨hS8, hSa⟩; go_simp; try with_reducible rfl
    simp only [Act.put, List.setIfInBounds_toArray, List.set_cons_zero, List.set_cons_succ]
    refine wpAnyH_ready (rs := [4]) (by kernel_rfl) (by simp) ?_
    refine AllReadyH.cons rfl (fun K hK => ?_) (AllReadyH.nil)
    go_simp
    go_at_call 20
    refine (HREX.out _ hE8a).mono ?_
    rintro e wb ⟨⟨Ab, mb, cb, rfl, hcb⟩, hEb⟩
    have hE8b : Ext W8 wb := Ext.trans hE8a hEb
    refine hK.out _ _ ⟨hE8b, hEb⟩ (fun _ => ?_)
    clear hK K hHeld
    refine wpAnyH_mono (S2 := fun w' => Ext W8 w' ∧ Ext wb w') (fun _ h => ⟨h.1, hEb.trans h.2⟩) _ _ _ _ ?_
    have hHeld : Ext W8 wb ∧ Ext wb wb := ⟨hE8b, Ext.refl _⟩
    refine wpAnyH_take_d (i := 5) (d := 43) (v := ?_) rfl rfl (by kernel_rfl) (by kernel_rfl) (by kernel_rfl) (fun _ _ _ h => h) (Or.inl ⟨by rfl, ?_⟩) hHeld ?_
    rotate_left
    · rintro w ⟨hS8, hSb⟩; go_simp; try with_reducible rfl
    simp only [Act.put, List.setIfInBounds_toArray, List.set_cons_zero, List.set_cons_succ]
    refine wpAnyH_take_d (i := 6) (d := 44) (v := ?_) rfl rfl (by kernel_rfl) (by kernel_rfl) (by kernel_rfl) (fun _ _ _ h => h) (Or.inl ⟨by rfl, ?_⟩) hHeld ?_
    rotate_left
    · rintro w ⟨hS8, _⟩; go_simp; try with_reducible rfl
    simp only [Act.put, List.setIfInBounds_toArray, List.set_cons_zero, List.set_cons_succ]
    refine wpAnyH_take_d (i := 7) (d := 45) (v := ?_) rfl rfl (by kernel_rfl) (by kernel_rfl) (by kernel_rfl) (fun _ _ _ h => h) (Or.inl ⟨by rfl, ?_⟩) hHeld ?_
    rotate_left
    · rintro w ⟨hS8, _⟩; go_simp; try with_reducible rfl
    simp only [Act.put, List.setIfInBounds_toArray, List.set_cons_zero, List.set_cons_succ]
    refine wpAnyH_take_d (i := 8) (d := 46) (v := ?_) rfl rfl (by kernel_rfl) (by kernel_rfl) (by kernel_rfl) (fun _ _ _ h => h) (Or.inl ⟨by rfl, ?_⟩) hHeld ?_
    rotate_left
    · rintro w ⟨hS8, _⟩; go_simp; try with_reducible rfl
    simp only [Act.put, List.setIfInBounds_toArray, List.set_cons_zero, List.set_cons_succ]
    refine wpAnyH_take_d (i := 9) (d := 47) (v := ?_) rfl rfl (by kernel_rfl) (by kernel_rfl) (by kernel_rfl) (fun _ _ _ h => h) (Or.inl ⟨by rfl, ?_⟩) hHeld ?_
    rotate_left
    · rintro w ⟨hS8, _⟩; go_simp; try with_reducible rfl
    simp only [Act.put, List.setIfInBounds_toArray, List.set_cons_zero, List.set_cons_succ]
    refine wpAnyH_take_d (i := 10) (d := 48) (v := ?_) rfl rfl (by kernel_rfl) (by kernel_rfl) (by kernel_rfl) (fun _ _ _ h => h) (Or.inl ⟨by rfl, ?_⟩) hHeld ?_
    rotate_left
    · rintro w ⟨hS8, _⟩; go_simp; try with_reducible rfl
    simp only [Act.put, List.setIfInBounds_toArray, List.set_cons_zero, List.set_cons_succ]
    refine wpAnyH_take_d (i := 11) (d := 49) (v := ?_) rfl rfl (by kernel_rfl) (by kernel_rfl) (by kernel_rfl) (fun _ _ _ h => h) (Or.inl ⟨by rfl, ?_⟩) hHeld ?_
    rotate_left
    · rintro w ⟨hS8, _⟩; go_simp; try with_reducible rfl
    simp only [Act.put, List.setIfInBounds_toArray, List.set_cons_zero, List.set_cons_succ]
    refine wpAnyH_take_d (i := 12) (d := 50) (v := ?_) rfl rfl (by kernel_rfl) (by kernel_rfl) (by kernel_rfl) (fun _ _ _ h => h) (Or.inl ⟨by rfl, ?_⟩) hHeld ?_
    rotate_left
    · rintro w ⟨hS8, _⟩; go_simp; try with_reducible rfl
    simp only [Act.put, List.setIfInBounds_toArray, List.set_cons_zero, List.set_cons_succ]
    refine wpAnyH_take_d (i := 13) (d := 51) (v := ?_) rfl rfl (by kernel_rfl) (by kernel_rfl) (by kernel_rfl) (fun _ _ _ h => h) (Or.inl ⟨by rfl, ?_⟩) hHeld ?_
    rotate_left
    · rintro w ⟨hS8, _⟩; go_simp; try with_reducible rfl
    simp only [Act.put, List.setIfInBounds_toArray, List.set_cons_zero, List.set_cons_succ]
    refine wpAnyH_take_d (i := 14) (d := 52) (v := ?_) rfl rfl (by kernel_rfl) (by kernel_rfl) (by kernel_rfl) (fun _ _ _ h => h) (Or.inl ⟨by rfl, ?_⟩) hHeld ?_
    rotate_left
    · rintro w ⟨hS8, _⟩; go_simp; try with_reducible rfl
    simp only [Act.put, List.setIfInBounds_toArray, List.set_cons_zero, List.set_cons_succ]
    refine wpAnyH_take_d (i := 15) (d := 53) (v := ?_) rfl rfl (by kernel_rfl) (by kernel_rfl) (by kernel_rfl) (fun _ _ _ h => h) (Or.inl ⟨by rfl, ?_⟩) hHeld ?_
    rotate_left
    · rintro w ⟨hS8, _⟩; go_simp; try with_reducible rfl
    simp only [Act.put, List.setIfInBounds_toArray, List.set_cons_zero, List.set_cons_succ]
    refine wpAnyH_take_d (i := 16) (d := 54) (v := ?_) rfl rfl (by kernel_rfl) (by kernel_rfl) (by kernel_rfl) (fun _ _ _ h => h) (Or.inl ⟨by rfl, ?_⟩) hHeld ?_
    rotate_left
    · rintro w ⟨hS8, _⟩; go_simp; try with_reducible rfl
    simp only [Act.put, List.setIfInBounds_toArray, List.set_cons_zero, List.set_cons_succ]
    refine wpAnyH_take_d (i := 17) (d := 55) (v := ?_) rfl rfl (by kernel_rfl) (by kernel_rfl) (by kernel_rfl) (fun _ _ _ h => h) (Or.inl ⟨by rfl, ?_⟩) hHeld ?_
    rotate_left
    · rintro w ⟨hS8, _⟩; go_simp; try with_reducible rfl
    simp only [Act.put, List.setIfInBounds_toArray, List.set_cons_zero, List.set_cons_succ]
    refine wpAnyH_take_d (i := 18) (d := 56) (v := ?_) rfl rfl (by kernel_rfl) (by kernel_rfl) (by kernel_rfl) (fun _ _ _ h => h) (Or.inl ⟨by rfl, ?_⟩) hHeld ?_
    rotate_left
    · rintro w ⟨hS8, _⟩; go_simp; try with_reducible rfl
    simp only [Act.put, List.setIfInBounds_toArray, List.set_cons_zero, List.set_cons_succ]
    refine wpAnyH_take_d (i := 19) (d := 57) (v := ?_) rfl rfl (by kernel_rfl) (by kernel_rfl) (by kernel_rfl) (fun _ _ _ h => h) (Or.inl ⟨by rfl, ?_⟩) hHeld ?_
    rotate_left
    · rintro w ⟨hS8, _⟩; go_simp; try with_reducible rfl
    simp only [Act.put, List.setIfInBounds_toArray, List.set_cons_zero, List.set_cons_succ]
    refine wpAnyH_take_d (i := 20) (d := 58) (v := ?_) rfl rfl (by kernel_rfl) (by kernel_rfl) (by kernel_rfl) (fun _ _ _ h => h) (Or.inl ⟨by rfl, ?_⟩) hHeld ?_
    rotate_left
    · rintro w ⟨hS8, _⟩; go_simp; try with_reducible rfl
    simp only [Act.put, List.setIfInBounds_toArray, List.set_cons_zero, List.set_cons_succ]
    refine wpAnyH_take_d (i := 21) (d := 59) (v := ?_) rfl rfl (by kernel_rfl) (by kernel_rfl) (by kernel_rfl) (fun _ _ _ h => h) (Or.inl ⟨by rfl, ?_⟩) hHeld ?_
    rotate_left
    · rintro w ⟨hS8, _⟩; go_simp; try with_reducible rfl
    simp only [Act.put, List.setIfInBounds_toArray, List.set_cons_zero, List.set_cons_succ]
    refine wpAnyH_take_d (i := 22) (d := 60) (v := ?_) rfl rfl (by kernel_rfl) (by kernel_rfl) (by kernel_rfl) (fun _ _ _ h => h) (Or.inl ⟨by rfl, ?_⟩) hHeld ?_
    rotate_left
    · rintro w ⟨hS8, _⟩; go_simp; try with_reducible rfl
    simp only [Act.put, List.setIfInBounds_toArray, List.set_cons_zero, List.set_cons_succ]
    refine wpAnyH_take_d (i := 23) (d := 61) (v := ?_) rfl rfl (by kernel_rfl) (by kernel_rfl) (by kernel_rfl) (fun _ _ _ h => h) (Or.inl ⟨by rfl, ?_⟩) hHeld ?_
    rotate_left
    · rintro w ⟨hS8, _⟩; go_simp; try with_reducible rfl
    simp only [Act.put, List.setIfInBounds_toArray, List.set_cons_zero, List.set_cons_succ]
    refine wpAnyH_take_d (i := 24) (d := 62) (v := ?_) rfl rfl (by kernel_rfl) (by kernel_rfl) (by kernel_rfl) (fun _ _ _ h => h) (Or.inl ⟨by rfl, ?_⟩) hHeld ?_
    rotate_left
    · rintro w ⟨hS8, _⟩; go_simp; try with_reducible rfl
    simp only [Act.put, List.setIfInBounds_toArray, List.set_cons_zero, List.set_cons_succ]
    refine wpAnyH_take_d (i := 25) (d := 63) (v := ?_) rfl rfl (by kernel_rfl) (by kernel_rfl) (by kernel_rfl) (fun _ _ _ h => h) (Or.inl ⟨by rfl, ?_⟩) hHeld ?_
    rotate_left
    · rintro w ⟨hS8, _⟩; go_simp; try with_reducible rfl
    simp only [Act.put, List.setIfInBounds_toArray, List.set_cons_zero, List.set_cons_succ]
    refine wpAnyH_take_d (i := 26) (d := 64) (v := ?_) rfl rfl (by kernel_rfl) (by kernel_rfl) (by kernel_rfl) (fun _ _ _ h => h) (Or.inl ⟨by rfl, ?_⟩) hHeld ?_
    rotate_left
    · rintro w ⟨hS8, _⟩; go_simp; try with_reducible rfl
    simp only [Act.put, List.setIfInBounds_toArray, List.set_cons_zero, List.set_cons_succ]
    refine wpAnyH_take_d (i := 27) (d := 65) (v := ?_) rfl rfl (by kernel_rfl) (by kernel_rfl) (by kernel_rfl) (fun _ _ _ h => h) (Or.inl ⟨by rfl, ?_⟩) hHeld ?_
    rotate_left
    · rintro w ⟨hS8, _⟩; go_simp; try with_reducible rfl
    simp only [Act.put, List.setIfInBounds_toArray, List.set_cons_zero, List.set_cons_succ]
    refine wpAnyH_take_d (i := 28) (d := 66) (v := ?_) rfl rfl (by kernel_rfl) (by kernel_rfl) (by kernel_rfl) (fun _ _ _ h => h) (Or.inl ⟨by rfl, ?_⟩) hHeld ?_
    rotate_left
    · rintro w ⟨hS8, _⟩; go_simp; try with_reducible rfl
    simp only [Act.put, List.setIfInBounds_toArray, List.set_cons_zero, List.set_cons_succ]
    refine wpAnyH_take_d (i := 29) (d := 67) (v := ?_) rfl rfl (by kernel_rfl) (by kernel_rfl) (by kernel_rfl) (fun _ _ _ h => h) (Or.inl ⟨by rfl, ?_⟩) hHeld ?_
    rotate_left
    · rintro w ⟨hS8, _⟩; go_simp; try with_reducible rfl
    simp only [Act.put, List.setIfInBounds_toArray, List.set_cons_zero, List.set_cons_succ]
    refine wpAnyH_take_d (i := 30) (d := 68) (v := ?_) rfl rfl (by kernel_rfl) (by kernel_rfl) (by kernel_rfl) (fun _ _ _ h => h) (Or.inl ⟨by rfl, ?_⟩) hHeld ?_
    rotate_left
    · rintro w ⟨hS8, _⟩; go_simp; try with_reducible rfl
    simp only [Act.put, List.setIfInBounds_toArray, List.set_cons_zero, List.set_cons_succ]
    refine wpAnyH_take_d (i := 33) (d := 71) (v := ?_) rfl rfl (by kernel_rfl) (by kernel_rfl) (by kernel_rfl) (fun _ _ _ h => h) (Or.inl ⟨by rfl, ?_⟩) hHeld ?_
    rotate_left
    · rintro w ⟨hS8, _⟩; go_simp; try with_reducible rfl
    simp only [Act.put, List.setIfInBounds_toArray, List.set_cons_zero, List.set_cons_succ]
    refine wpAnyH_take_d (i := 34) (d := 72) (v := ?_) rfl rfl (by kernel_rfl) (by kernel_rfl) (by kernel_rfl) (fun _ _ _ h => h) (Or.inl ⟨by rfl, ?_⟩) hHeld ?_
    rotate_left
    · rintro w ⟨hS8, _⟩; go_simp; try with_reducible rfl
    simp only [Act.put, List.setIfInBounds_toArray, List.set_cons_zero, List.set_cons_succ]
    refine wpAnyH_ready (rs := [31]) (by kernel_rfl) (by simp) ?_
    refine AllReadyH.cons rfl (fun K hK => ?_) (AllReadyH.nil)
    go_simp
    go_at_call 19
    refine (HENY.out _ hE8b).mono ?_
    rintro e wd ⟨⟨Ad, md, cd, rfl, hcd⟩, hEd⟩
    have hE8z : Ext W8 wd := Ext.trans hE8b hEd
    refine hK.out _ _ ⟨hE8z, hEd⟩ (fun _ => ?_)
    clear hK K hHeld
    refine wpAnyH_mono (S2 := fun w' => Ext W8 w' ∧ Ext wd w') (fun _ h => ⟨h.1, hEd.trans h.2⟩) _ _ _ _ ?_
    have hHeld : Ext W8 wd ∧ Ext wd wd := ⟨hE8z, Ext.refl _⟩
    refine wpAnyH_take_d (i := 32) (d := 70) (v := ?_) rfl rfl (by kernel_rfl) (by kernel_rfl) (by kernel_rfl) (fun _ _ _ h => h) (Or.inl ⟨by rfl, ?_⟩) hHeld ?_
    rotate_left
    · rintro w ⟨hS8, hSd⟩; go_simp; try with_reducible rfl
    simp only [Act.put, List.setIfInBounds_toArray, List.set_cons_zero, List.set_cons_succ]
    refine wpAnyH_take_d (i := 35) (d := 73) (v := ?_) rfl rfl (by kernel_rfl) (by kernel_rfl) (by kernel_rfl) (fun _ _ _ h => h) (Or.inl ⟨by rfl, ?_⟩) hHeld ?_
    rotate_left
    · rintro w ⟨hS8, _⟩; go_simp; try with_reducible rfl
    simp only [Act.put, List.setIfInBounds_toArray, List.set_cons_zero, List.set_cons_succ]
    refine wpAnyH_take_d (i := 36) (d := 74) (v := ?_) rfl rfl (by kernel_rfl) (by kernel_rfl) (by kernel_rfl) (fun _ _ _ h => h) (Or.inl ⟨by rfl, ?_⟩) hHeld ?_
    rotate_left
    · rintro w ⟨hS8, _⟩; go_simp; try with_reducible rfl
    simp only [Act.put, List.setIfInBounds_toArray, List.set_cons_zero, List.set_cons_succ]
    refine wpAnyH_take_d (i := 37) (d := 75) (v := ?_) rfl rfl (by kernel_rfl) (by kernel_rfl) (by kernel_rfl) (fun _ _ _ h => h) (Or.inl ⟨by rfl, ?_⟩) hHeld ?_
    rotate_left
    · rintro w ⟨hS8, _⟩; go_simp; try with_reducible rfl
    simp only [Act.put, List.setIfInBounds_toArray, List.set_cons_zero, List.set_cons_succ]
    refine wpAnyH_take_d (i := 38) (d := 4) (v := ?_) rfl rfl (by kernel_rfl) (by kernel_rfl) (by kernel_rfl) (fun _ _ _ h => h) (Or.inl ⟨by rfl, ?_⟩) hHeld ?_
    rotate_left
    · rintro w ⟨hS8, _⟩; go_simp; try with_reducible rfl
    simp only [Act.put, List.setIfInBounds_toArray, List.set_cons_zero, List.set_cons_succ]
    refine wpAnyH_done (by kernel_rfl) ?_ _
    go_wp2
    go_ret
    exact ⟨rfl, HE08.out.trans hHeld.1⟩
  · have HENY := HENX
    clear hSb hSx HENC HRENC HDO HRDC hdx bx8 b58 b78 b98 hb1 hb2 hb6 hy5 hy5b hy5c hy7 x0 x1 x2 x3 x4 x5 x6 x7 HCVB hE01 hE12 hE02 hE03 hE04 hE05 hE06 hE07 hE13 hE14 hE15 hE16 hE34 hE56 hE68 hE78 hE88 hE08 hEf
    go_wp2
    rw [← hW8, ← hg9]
    clear hW8 hg9
    have K0 : ∀ W, Ext W8 W → _ := fun W h => (KALL.out W h).1
    have K1 : ∀ W, Ext W8 W → _ := fun W h => (KALL.out W h).2.1
    have K2 : ∀ W, Ext W8 W → _ := fun W h => (KALL.out W h).2.2.1
    have K3 : ∀ W, Ext W8 W → _ := fun W h => (KALL.out W h).2.2.2.1
    have K4 : ∀ W, Ext W8 W → _ := fun W h => (KALL.out W h).2.2.2.2.1
    have K5 : ∀ W, Ext W8 W → _ := fun W h => (KALL.out W h).2.2.2.2.2.1
    have K6 : ∀ W, Ext W8 W → _ := fun W h => (KALL.out W h).2.2.2.2.2.2.1
    have K7 : ∀ W, Ext W8 W → _ := fun W h => (KALL.out W h).2.2.2.2.2.2.2.1
    have K8 : ∀ W, Ext W8 W → _ := fun W h => (KALL.out W h).2.2.2.2.2.2.2.2.1
    have K9 : ∀ W, Ext W8 W → _ := fun W h => (KALL.out W h).2.2.2.2.2.2.2.2.2.1
    have K10 : ∀ W, Ext W8 W → _ := fun W h => (KALL.out W h).2.2.2.2.2.2.2.2.2.2.1
    have K11 : ∀ W, Ext W8 W → _ := fun W h => (KALL.out W h).2.2.2.2.2.2.2.2.2.2.2.1
    have K12 : ∀ W, Ext W8 W → _ := fun W h => (KALL.out W h).2.2.2.2.2.2.2.2.2.2.2.2.1
    have K13 : ∀ W, Ext W8 W → _ := fun W h => (KALL.out W h).2.2.2.2.2.2.2.2.2.2.2.2.2.1
    have K14 : ∀ W, Ext W8 W → _ := fun W h => (KALL.out W h).2.2.2.2.2.2.2.2.2.2.2.2.2.2.1
    have K15 : ∀ W, Ext W8 W → _ := fun W h => (KALL.out W h).2.2.2.2.2.2.2.2.2.2.2.2.2.2.2.1
    have K16 : ∀ W, Ext W8 W → _ := fun W h => (KALL.out W h).2.2.2.2.2.2.2.2.2.2.2.2.2.2.2.2.1
    have K17 : ∀ W, Ext W8 W → _ := fun W h => (KALL.out W h).2.2.2.2.2.2.2.2.2.2.2.2.2.2.2.2.2.1
    have K18 : ∀ W, Ext W8 W → _ := fun W h => (KALL.out W h).2.2.2.2.2.2.2.2.2.2.2.2.2.2.2.2.2.2.1
    have K19 : ∀ W, Ext W8 W → _ := fun W h => (KALL.out W h).2.2.2.2.2.2.2.2.2.2.2.2.2.2.2.2.2.2.2.1
    have K20 : ∀ W, Ext W8 W → _ := fun W h => (KALL.out W h).2.2.2.2.2.2.2.2.2.2.2.2.2.2.2.2.2.2.2.2.1
    have K21 : ∀ W, Ext W8 W → _ := fun W h => (KALL.out W h).2.2.2.2.2.2.2.2.2.2.2.2.2.2.2.2.2.2.2.2.2.1
    have K22 : ∀ W, Ext W8 W → _ := fun W h => (KALL.out W h).2.2.2.2.2.2.2.2.2.2.2.2.2.2.2.2.2.2.2.2.2.2.1
    have K23 : ∀ W, Ext W8 W → _ := fun W h => (KALL.out W h).2.2.2.2.2.2.2.2.2.2.2.2.2.2.2.2.2.2.2.2.2.2.2.1
    have K24 : ∀ W, Ext W8 W → _ := fun W h => (KALL.out W h).2.2.2.2.2.2.2.2.2.2.2.2.2.2.2.2.2.2.2.2.2.2.2.2.1
    have K25 : ∀ W, Ext W8 W → _ := fun W h => (KALL.out W h).2.2.2.2.2.2.2.2.2.2.2.2.2.2.2.2.2.2.2.2.2.2.2.2.2.1
    have K26 : ∀ W, Ext W8 W → _ := fun W h => (KALL.out W h).2.2.2.2.2.2.2.2.2.2.2.2.2.2.2.2.2.2.2.2.2.2.2.2.2.2.1
    have K27 : ∀ W, Ext W8 W → _ := fun W h => (KALL.out W h).2.2.2.2.2.2.2.2.2.2.2.2.2.2.2.2.2.2.2.2.2.2.2.2.2.2.2.1
    have K28 : ∀ W, Ext W8 W → _ := fun W h => (KALL.out W h).2.2.2.2.2.2.2.2.2.2.2.2.2.2.2.2.2.2.2.2.2.2.2.2.2.2.2.2.1
    have K29 : ∀ W, Ext W8 W → _ := fun W h => (KALL.out W h).2.2.2.2.2.2.2.2.2.2.2.2.2.2.2.2.2.2.2.2.2.2.2.2.2.2.2.2.2.1
    have K30 : ∀ W, Ext W8 W → _ := fun W h => (KALL.out W h).2.2.2.2.2.2.2.2.2.2.2.2.2.2.2.2.2.2.2.2.2.2.2.2.2.2.2.2.2.2.1
    have K31 : ∀ W, Ext W8 W → _ := fun W h => (KALL.out W h).2.2.2.2.2.2.2.2.2.2.2.2.2.2.2.2.2.2.2.2.2.2.2.2.2.2.2.2.2.2.2.1
    have K32 : ∀ W, Ext W8 W → _ := fun W h => (KALL.out W h).2.2.2.2.2.2.2.2.2.2.2.2.2.2.2.2.2.2.2.2.2.2.2.2.2.2.2.2.2.2.2.2
    clear KALL hE8e
    refine wp_region_held_drew (S := fun w' => Ext W8 w') (by kernel_rfl) hE8d ?_
    intro hHeld
    refine wpAnyH_take_d (i := 0) (d := 38) (v := ?_) rfl rfl (by kernel_rfl) (by kernel_rfl) (by kernel_rfl) (fun _ _ _ h => h) (Or.inl ⟨by rfl, ?_⟩) hHeld ?_
    rotate_left
    · rintro w hS8; go_simp; try with_reducible rfl
    simp only [Act.put, List.setIfInBounds_toArray, List.set_cons_zero, List.set_cons_succ]
    refine wpAnyH_take_d (i := 3) (d := 41) (v := ?_) rfl rfl (by kernel_rfl) (by kernel_rfl) (by kernel_rfl) (fun _ _ _ h => h) (Or.inl ⟨by rfl, ?_⟩) hHeld ?_
    rotate_left
    · rintro w hS8; go_simp; try with_reducible rfl
    simp only [Act.put, List.setIfInBounds_toArray, List.set_cons_zero, List.set_cons_succ]
    refine wpAnyH_ready (rs := [1]) (by kernel_rfl) (by simp) ?_
    refine AllReadyH.cons rfl (fun K hK => ?_) (AllReadyH.nil)
    go_simp
    go_at_call 19
    refine (HENX.out _ hE8d).mono ?_
    rintro e wa ⟨⟨Aa, ma, ca, rfl, hca⟩, hEa⟩
    have hE8a : Ext W8 wa := Ext.trans hE8d hEa
    refine hK.out _ _ hE8a (fun _ => ?_)
    clear hK K hHeld
    refine wpAnyH_mono (S2 := fun w' => Ext W8 w' ∧ Ext wa w') (fun _ h => h.1) _ _ _ _ ?_
    have hHeld : Ext W8 wa ∧ Ext wa wa := ⟨hE8a, Ext.refl _⟩
    refine wpAnyH_take_d (i := 2) (d := 40) (v := ?_) rfl rfl (by kernel_rfl) (by kernel_rfl) (by kernel_rfl) (fun _ _ _ h => h) (Or.inl ⟨by rfl, ?_⟩) hHeld ?_
    rotate_left
    · rintro w ⟨hS8, hSa⟩; go_simp; try with_reducible rfl
    simp only [Act.put, List.setIfInBounds_toArray, List.set_cons_zero, List.set_cons_succ]
    refine wpAnyH_ready (rs := [4]) (by kernel_rfl) (by simp) ?_
    refine AllReadyH.cons rfl (fun K hK => ?_) (AllReadyH.nil)
    go_simp
    go_at_call 20
    refine (HREX.out _ hE8a).mono ?_
    rintro e wb ⟨⟨Ab, mb, cb, rfl, hcb⟩, hEb⟩
    have hE8b : Ext W8 wb := Ext.trans hE8a hEb
    refine hK.out _ _ ⟨hE8b, hEb⟩ (fun _ => ?_)
    clear hK K hHeld
    refine wpAnyH_mono (S2 := fun w' => Ext W8 w' ∧ Ext wb w') (fun _ h => ⟨h.1, hEb.trans h.2⟩) _ _ _ _ ?_
    have hHeld : Ext W8 wb ∧ Ext wb wb := ⟨hE8b, Ext.refl _⟩
    refine wpAnyH_take_d (i := 5) (d := 43) (v := ?_) rfl rfl (by kernel_rfl) (by kernel_rfl) (by kernel_rfl) (fun _ _ _ h => h) (Or.inl ⟨by rfl, ?_⟩) hHeld ?_
    rotate_left
    · rintro w ⟨hS8, hSb⟩; go_simp; try with_reducible rfl
    simp only [Act.put, List.setIfInBounds_toArray, List.set_cons_zero, List.set_cons_succ]
    refine wpAnyH_take_d (i := 6) (d := 44) (v := ?_) rfl rfl (by kernel_rfl) (by kernel_rfl) (by kernel_rfl) (fun _ _ _ h => h) (Or.inl ⟨by rfl, ?_⟩) hHeld ?_
    rotate_left
    · rintro w ⟨hS8, _⟩; go_simp; try with_reducible rfl
    simp only [Act.put, List.setIfInBounds_toArray, List.set_cons_zero, List.set_cons_succ]
    refine wpAnyH_take_d (i := 7) (d := 45) (v := ?_) rfl rfl (by kernel_rfl) (by kernel_rfl) (by kernel_rfl) (fun _ _ _ h => h) (Or.inl ⟨by rfl, ?_⟩) hHeld ?_
    rotate_left
    · rintro w ⟨hS8, _⟩; go_simp; try with_reducible rfl
    simp only [Act.put, List.setIfInBounds_toArray, List.set_cons_zero, List.set_cons_succ]
    refine wpAnyH_take_d (i := 8) (d := 46) (v := ?_) rfl rfl (by kernel_rfl) (by kernel_rfl) (by kernel_rfl) (fun _ _ _ h => h) (Or.inl ⟨by rfl, ?_⟩) hHeld ?_
    rotate_left
    · rintro w ⟨hS8, _⟩; go_simp; try with_reducible rfl
    simp only [Act.put, List.setIfInBounds_toArray, List.set_cons_zero, List.set_cons_succ]
    refine wpAnyH_take_d (i := 9) (d := 47) (v := ?_) rfl rfl (by kernel_rfl) (by kernel_rfl) (by kernel_rfl) (fun _ _ _ h => h) (Or.inl ⟨by rfl, ?_⟩) hHeld ?_
    rotate_left
    · rintro w ⟨hS8, _⟩; go_simp; try with_reducible rfl
    simp only [Act.put, List.setIfInBounds_toArray, List.set_cons_zero, List.set_cons_succ]
    refine wpAnyH_take_d (i := 10) (d := 48) (v := ?_) rfl rfl (by kernel_rfl) (by kernel_rfl) (by kernel_rfl) (fun _ _ _ h => h) (Or.inl ⟨by rfl, ?_⟩) hHeld ?_
    rotate_left
    · rintro w ⟨hS8, _⟩; go_simp; try with_reducible rfl
    simp only [Act.put, List.setIfInBounds_toArray, List.set_cons_zero, List.set_cons_succ]
    refine wpAnyH_take_d (i := 11) (d := 49) (v := ?_) rfl rfl (by kernel_rfl) (by kernel_rfl) (by kernel_rfl) (fun _ _ _ h => h) (Or.inl ⟨by rfl, ?_⟩) hHeld ?_
    rotate_left
    · rintro w ⟨hS8, _⟩; go_simp; try with_reducible rfl
    simp only [Act.put, List.setIfInBounds_toArray, List.set_cons_zero, List.set_cons_succ]
    refine wpAnyH_take_d (i := 12) (d := 50) (v := ?_) rfl rfl (by kernel_rfl) (by kernel_rfl) (by kernel_rfl) (fun _ _ _ h => h) (Or.inl ⟨by rfl, ?_⟩) hHeld ?_
    rotate_left
    · rintro w ⟨hS8, _⟩; go_simp; try with_reducible rfl
    simp only [Act.put, List.setIfInBounds_toArray, List.set_cons_zero, List.set_cons_succ]
    refine wpAnyH_take_d (i := 13) (d := 51) (v := ?_) rfl rfl (by kernel_rfl) (by kernel_rfl) (by kernel_rfl) (fun _ _ _ h => h) (Or.inl ⟨by rfl, ?_⟩) hHeld ?_
    rotate_left
    · rintro w ⟨hS8, _⟩; go_simp; try with_reducible rfl
    simp only [Act.put, List.setIfInBounds_toArray, List.set_cons_zero, List.set_cons_succ]
    refine wpAnyH_take_d (i := 14) (d := 52) (v := ?_) rfl rfl (by kernel_rfl) (by kernel_rfl) (by kernel_rfl) (fun _ _ _ h => h) (Or.inl ⟨by rfl, ?_⟩) hHeld ?_
    rotate_left
    · rintro w ⟨hS8, _⟩; go_simp; try with_reducible rfl
    simp only [Act.put, List.setIfInBounds_toArray, List.set_cons_zero, List.set_cons_succ]
    refine wpAnyH_take_d (i := 15) (d := 53) (v := ?_) rfl rfl (by kernel_rfl) (by kernel_rfl) (by kernel_rfl) (fun _ _ _ h => h) (Or.inl ⟨by rfl, ?_⟩) hHeld ?_
    rotate_left
    · rintro w ⟨hS8, _⟩; go_simp; try with_reducible rfl
    simp only [Act.put, List.setIfInBounds_toArray, List.set_cons_zero, List.set_cons_succ]
    refine wpAnyH_take_d (i := 16) (d := 54) (v := ?_) rfl rfl (by kernel_rfl) (by kernel_rfl) (by kernel_rfl) (fun _ _ _ h => h) (Or.inl ⟨by rfl, ?_⟩) hHeld ?_
    rotate_left
    · rintro w ⟨hS8, _⟩; go_simp; try with_reducible rfl
    simp only [Act.put, List.setIfInBounds_toArray, List.set_cons_zero, List.set_cons_succ]
    refine wpAnyH_take_d (i := 17) (d := 55) (v := ?_) rfl rfl (by kernel_rfl) (by kernel_rfl) (by kernel_rfl) (fun _ _ _ h => h) (Or.inl ⟨by rfl, ?_⟩) hHeld ?_
    rotate_left
    · rintro w ⟨hS8, _⟩; go_simp; try with_reducible rfl
    simp only [Act.put, List.setIfInBounds_toArray, List.set_cons_zero, List.set_cons_succ]
    refine wpAnyH_take_d (i := 18) (d := 56) (v := ?_) rfl rfl (by kernel_rfl) (by kernel_rfl) (by kernel_rfl) (fun _ _ _ h => h) (Or.inl ⟨by rfl, ?_⟩) hHeld ?_
    rotate_left
    · rintro w ⟨hS8, _⟩; go_simp; try with_reducible rfl
    simp only [Act.put, List.setIfInBounds_toArray, List.set_cons_zero, List.set_cons_succ]
    refine wpAnyH_take_d (i := 19) (d := 57) (v := ?_) rfl rfl (by kernel_rfl) (by kernel_rfl) (by kernel_rfl) (fun _ _ _ h => h) (Or.inl ⟨by rfl, ?_⟩) hHeld ?_
    rotate_left
    · rintro w ⟨hS8, _⟩; go_simp; try with_reducible rfl
    simp only [Act.put, List.setIfInBounds_toArray, List.set_cons_zero, List.set_cons_succ]
    refine wpAnyH_take_d (i := 20) (d := 58) (v := ?_) rfl rfl (by kernel_rfl) (by kernel_rfl) (by kernel_rfl) (fun _ _ _ h => h) (Or.inl ⟨by rfl, ?_⟩) hHeld ?_
    rotate_left
    · rintro w ⟨hS8, _⟩; go_simp; try with_reducible rfl
    simp only [Act.put, List.setIfInBounds_toArray, List.set_cons_zero, List.set_cons_succ]
    refine wpAnyH_take_d (i := 21) (d := 59) (v := ?_) rfl rfl (by kernel_rfl) (by kernel_rfl) (by kernel_rfl) (fun _ _ _ h => h) (Or.inl ⟨by rfl, ?_⟩) hHeld ?_
    rotate_left
    · rintro w ⟨hS8, _⟩; go_simp; try with_reducible rfl
    simp only [Act.put, List.setIfInBounds_toArray, List.set_cons_zero, List.set_cons_succ]
    refine wpAnyH_take_d (i := 22) (d := 60) (v := ?_) rfl rfl (by kernel_rfl) (by kernel_rfl) (by kernel_rfl) (fun _ _ _ h => h) (Or.inl ⟨by rfl, ?_⟩) hHeld ?_
    rotate_left
    · rintro w ⟨hS8, _⟩; go_simp; try with_reducible rfl
    simp only [Act.put, List.setIfInBounds_toArray, List.set_cons_zero, List.set_cons_succ]
    refine wpAnyH_take_d (i := 23) (d := 61) (v := ?_) rfl rfl (by kernel_rfl) (by kernel_rfl) (by kernel_rfl) (fun _ _ _ h => h) (Or.inl ⟨by rfl, ?_⟩) hHeld ?_
    rotate_left
    · rintro w ⟨hS8, _⟩; go_simp; try with_reducible rfl
    simp only [Act.put, List.setIfInBounds_toArray, List.set_cons_zero, List.set_cons_succ]
    refine wpAnyH_take_d (i := 24) (d := 62) (v := ?_) rfl rfl (by kernel_rfl) (by kernel_rfl) (by kernel_rfl) (fun _ _ _ h => h) (Or.inl ⟨by rfl, ?_⟩) hHeld ?_
    rotate_left
    · rintro w ⟨hS8, _⟩; go_simp; try with_reducible rfl
    simp only [Act.put, List.setIfInBounds_toArray, List.set_cons_zero, List.set_cons_succ]
    refine wpAnyH_take_d (i := 25) (d := 63) (v := ?_) rfl rfl (by kernel_rfl) (by kernel_rfl) (by kernel_rfl) (fun _ _ _ h => h) (Or.inl ⟨by rfl, ?_⟩) hHeld ?_
    rotate_left
    · rintro w ⟨hS8, _⟩; go_simp; try with_reducible rfl
    simp only [Act.put, List.setIfInBounds_toArray, List.set_cons_zero, List.set_cons_succ]
    refine wpAnyH_take_d (i := 26) (d := 64) (v := ?_) rfl rfl (by kernel_rfl) (by kernel_rfl) (by kernel_rfl) (fun _ _ _ h => h) (Or.inl ⟨by rfl, ?_⟩) hHeld ?_
    rotate_left
    · rintro w ⟨hS8, _⟩; go_simp; try with_reducible rfl
    simp only [Act.put, List.setIfInBounds_toArray, List.set_cons_zero, List.set_cons_succ]
    refine wpAnyH_take_d (i := 27) (d := 65) (v := ?_) rfl rfl (by kernel_rfl) (by kernel_rfl) (by kernel_rfl) (fun _ _ _ h => h) (Or.inl ⟨by rfl, ?_⟩) hHeld ?_
    rotate_left
    · rintro w ⟨hS8, _⟩; go_simp; try with_reducible rfl
    simp only [Act.put, List.setIfInBounds_toArray, List.set_cons_zero, List.set_cons_succ]
    refine wpAnyH_take_d (i := 28) (d := 66) (v := ?_) rfl rfl (by kernel_rfl) (by kernel_rfl) (by kernel_rfl) (fun _ _ _ h => h) (Or.inl ⟨by rfl, ?_⟩) hHeld ?_
    rotate_left
    · rintro w ⟨hS8, _⟩; go_simp; try with_reducible rfl
    simp only [Act.put, List.setIfInBounds_toArray, List.set_cons_zero, List.set_cons_succ]
    refine wpAnyH_take_d (i := 29) (d := 67) (v := ?_) rfl rfl (by kernel_rfl) (by kernel_rfl) (by kernel_rfl) (fun _ _ _ h => h) (Or.inl ⟨by rfl, ?_⟩) hHeld ?_
    rotate_left
    · rintro w ⟨hS8, _⟩; go_simp; try with_reducible rfl
    simp only [Act.put, List.setIfInBounds_toArray, List.set_cons_zero, List.set_cons_succ]
    refine wpAnyH_take_d (i := 30) (d := 68) (v := undef) rfl rfl (by kernel_rfl) (by kernel_rfl) (by kernel_rfl) (fun _ _ _ h => h) (Or.inr ⟨by rfl, rfl⟩) hHeld ?_
    simp only [Act.put, List.setIfInBounds_toArray, List.set_cons_zero, List.set_cons_succ]
    refine wpAnyH_take_d (i := 33) (d := 71) (v := undef) rfl rfl (by kernel_rfl) (by kernel_rfl) (by kernel_rfl) (fun _ _ _ h => h) (Or.inr ⟨by rfl, rfl⟩) hHeld ?_
    simp only [Act.put, List.setIfInBounds_toArray, List.set_cons_zero, List.set_cons_succ]
    refine wpAnyH_take_d (i := 34) (d := 72) (v := undef) rfl rfl (by kernel_rfl) (by kernel_rfl) (by kernel_rfl) (fun _ _ _ h => h) (Or.inr ⟨by rfl, rfl⟩) hHeld ?_
    simp only [Act.put, List.setIfInBounds_toArray, List.set_cons_zero, List.set_cons_succ]
    refine wpAnyH_take_d (i := 31) (d := 69) (v := undef) rfl rfl (by kernel_rfl) (by kernel_rfl) (by kernel_rfl) (fun _ _ _ h => h) (Or.inr ⟨by rfl, rfl⟩) hHeld ?_
    simp only [Act.put, List.setIfInBounds_toArray, List.set_cons_zero, List.set_cons_succ]
    refine wpAnyH_take_d (i := 32) (d := 70) (v := undef) rfl rfl (by kernel_rfl) (by kernel_rfl) (by kernel_rfl) (fun _ _ _ h => h) (Or.inr ⟨by rfl, rfl⟩) hHeld ?_
    simp only [Act.put, List.setIfInBounds_toArray, List.set_cons_zero, List.set_cons_succ]
    refine wpAnyH_take_d (i := 35) (d := 73) (v := undef) rfl rfl (by kernel_rfl) (by kernel_rfl) (by kernel_rfl) (fun _ _ _ h => h) (Or.inr ⟨by rfl, rfl⟩) hHeld ?_
    simp only [Act.put, List.setIfInBounds_toArray, List.set_cons_zero, List.set_cons_succ]
    refine wpAnyH_take_d (i := 36) (d := 74) (v := ?_) rfl rfl (by kernel_rfl) (by kernel_rfl) (by kernel_rfl) (fun _ _ _ h => h) (Or.inl ⟨by rfl, ?_⟩) hHeld ?_
    rotate_left
    · rintro w ⟨hS8, _⟩; go_simp; try with_reducible rfl
    simp only [Act.put, List.setIfInBounds_toArray, List.set_cons_zero, List.set_cons_succ]
    refine wpAnyH_take_d (i := 37) (d := 75) (v := ?_) rfl rfl (by kernel_rfl) (by kernel_rfl) (by kernel_rfl) (fun _ _ _ h => h) (Or.inl ⟨by rfl, ?_⟩) hHeld ?_
    rotate_left
    · rintro w ⟨hS8, _⟩; go_simp; try with_reducible rfl
    simp only [Act.put, List.setIfInBounds_toArray, List.set_cons_zero, List.set_cons_succ]
    refine wpAnyH_take_d (i := 38) (d := 4) (v := ?_) rfl rfl (by kernel_rfl) (by kernel_rfl) (by kernel_rfl) (fun _ _ _ h => h) (Or.inl ⟨by rfl, ?_⟩) hHeld ?_
    rotate_left
    · rintro w ⟨hS8, _⟩; go_simp; try with_reducible rfl
    simp only [Act.put, List.setIfInBounds_toArray, List.set_cons_zero, List.set_cons_succ]
    refine wpAnyH_done (by kernel_rfl) ?_ _
    go_wp2
    go_ret
    exact ⟨rfl, HE08.out.trans hHeld.1⟩
end
set_option maxRecDepth 100000 in
theorem liftedJournalEvents (os : Os) (started : os.Started) (H : Type) (enc : TypeId × Value → H) :
    ReturnsInHanded {} Tryd.checked os 5 .any (fun w args => (Rows.journalEventsSpec.pre enc Tryd.prog Tryd.f5 [] false w args ∧ laidMetH Tryd.prog laidL57 w) ∧ sizedMet enc Tryd.prog Tryd.f5 (OpenSpec.ofChange Rows.journalEventsSpec) false w args) (Rows.journalEventsSpec.post enc Tryd.prog Tryd.f5 false true false false) := by
  refine returnsInHanded_of_change_and (C := Tryd.checked) (X := fun w _ => laidMetH Tryd.prog laidL57 w) (fun _ _ _ hh h => h.of_heap hh) ownK started (by kernel_rfl) Tryd.func5
    (ChangeSpec.witness_shaped (enc := enc) (C := Tryd.checked) (os := os) (X := fun w _ => laidMetH Tryd.prog laidL57 w) false (World.laidAll Tryd.prog os laidL57) #[.agg #[.int .i64 0, .string ⟨#[]⟩, .string ⟨#[]⟩, .string ⟨#[]⟩, .string ⟨#[]⟩, .int .i64 0, .int .i64 0, .int .i64 0], .slice none 0 0] 8 (World.laidAll_os _ _ _)
      (World.shaped_of_ZipB (by kernel_rfl) (by kernel_rfl)) (by kernel_rfl) (by kernel_rfl) (by kernel_rfl)
      (by rw [MakeChecks.laidMetH_plain _ _ _ (by kernel_rfl)]; exact laidMet_laidAll _ (by kernel_rfl) (by kernel_rfl))) ?_
  intro W base args ds gs before hval0 hW hcnd hsz0 hL _
  have hT := pt_of_laid hL
  have hval : ∀ (j : Nat) t v, Tryd.f5.params[j]? = some t → args[j]? = some v → Value.okWide Tryd.prog W .any base t v := hval0
  have hW' := hW
  obtain ⟨p, q, hA0, hV, rfl, hfz, hnd⟩ := hW
  have hA : DataW.TrodAll enc Tryd.prog W 0 (fun _ => true) true Tryd.f5.params.toList args.toList ds p := hA0
  have hsz : (DataW.weightsEach Tryd.prog (Tryd.f5.params.toList ++ Rows.journalEventsSpec.plain.varTypes Tryd.prog) (ds ++ gs)).all (· ≤ reachBytes) = true := hsz0
  rw [Tryd.params5] at hA hval hsz
  obtain ⟨v0, vs0, d0, ds0, p0, q0, hargs0, rfl, rfl, h0, r0⟩ := trodAll_cons hA
  obtain ⟨v1, vs1, d1, ds1, p1, q1, hargs1, rfl, rfl, h1, r1⟩ := trodAll_cons r0
  obtain ⟨rfl, rfl, rfl⟩ := trodAll_nil r1
  obtain rfl : args = #[v0, v1] := by cases args; simp_all
  obtain ⟨rfl, rfl⟩ := trodVars_none hV
  have k0 := h0
  have lt0 : ∀ x ∈ p0, x.block < W.heap.size := by obtain ⟨m, hm⟩ := k0; exact DataW.trod_lt m _ _ _ hm
  have k1 := h1
  have lt1 : ∀ x ∈ p1, x.block < W.heap.size := by obtain ⟨m, hm⟩ := k1; exact DataW.trod_lt m _ _ _ hm
  obtain ⟨x0, rfl, g0⟩ := opn_top_agg opn_ev ((okWide_struct Tryd.underlying31 (hval 0 31 v0 rfl rfl)).imp fun _ hh => hh.1) h0 (WOk.top hsz (j := 0) rfl rfl)
  obtain ⟨A1, m1, c1, l1, rfl, w1, hc1, hb1⟩ := opn_top_bytes (hval 1 27 v1 rfl rfl) h1 (WOk.top hsz (j := 1) rfl rfl)
  obtain ⟨y0, y1, y2, y3, y4, y5, y6, y7⟩ := x0
  clear hA0 hval0
  refine (jev_walk y0 y5 y6 y7 y1 y2 y3 y4 g0 c1 w1 hT).mono fun e W' ⟨he, bel⟩ => ?_
  subst he
  exact ⟨_, rfl, _, _, _, [], _, [], hW', trodAll_mk1 (shut_bool Tryd.underlying4 _), (trodAll_cons_mk (Below.trod laidK (by kernel_rfl) (of_decide_eq_true (by kernel_rfl)) k0 bel lt0) (trodAll_cons_mk (Below.trod laidK (by kernel_rfl) (of_decide_eq_true (by kernel_rfl)) k1 bel lt1) trodAll_mk0)), rfl, Below.frame bel _, fun h => by cases h⟩
theorem JournalEvents_row : Rows.JournalEventsSaid :=
  OpenClaim.holds_of_wide 5 Tryd.f5 rfl rfl rfl rfl rfl rfl rfl ⟨rfl, rfl, rfl, rfl, rfl⟩ rfl rfl rfl rfl rfl (by kernel_rfl) Tryd.func5 (by kernel_rfl)
    (of_decide_eq_true (by kernel_rfl)) (by unfold Func.isWrapper; rw [if_neg (of_decide_eq_false (by kernel_rfl))]; exact ⟨rfl, rfl⟩)
    (fun os started H enc _ => liftedJournalEvents os started H enc)
theorem JournalEvents_holds : Rows.JournalEventsCardSaid :=
  Claim7.holds_tied_plain_at .later [] Rows.journalEventsCard.laidKinds true Rows.journalEventsCard.stood.harness Rows.journalEventsCard.stood.looks
    JournalEvents_row (fun _ h => by cases h) (by kernel_rfl) (fun _ h => by cases h) journalEvents_row_tie rfl ⟨rfl, rfl⟩ (by kernel_rfl) rfl
    (fun f fn hf hfn => by
      obtain rfl : f = 5 := Option.some.inj ((show Tryd.prog.funcNamed Rows.journalEventsRow.func = some 5 by kernel_rfl).symm.trans hf) |>.symm
      obtain rfl : fn = Tryd.f5 := (Option.some.inj (Tryd.func5.symm.trans hfn)).symm
      exact ⟨by kernel_rfl, fun j t ht => by
        rw [Tryd.params5] at ht
        have hm : t ∈ [31, 27] := by simpa using Array.mem_of_getElem? ht
        have hall : ([31, 27].all fun u => !Tryd.prog.wantsStandIn u) = true := by kernel_rfl
        exact (show Tryd.prog.wantsStandIn t = false by simpa using List.all_eq_true.1 hall t hm)⟩)
    (by kernel_rfl)
#print axioms JournalEvents_holds
end Go.Proofs.YtoghaehcmbonnaaDoor
