/- Clones of lists of strings and fields; the copy of an entry. -/
import Derived.Test.YtgnchicipmomlaaGreatDoorPK20
import Derived.Deep.RegionLaw
import Derived.Deep.DeepCutAuto
import Derived.Laws.ResultCell
import Derived.Laws.Rows
import Derived.Test.YtgnchicipmomlaaGreatDoorPK15
import Derived.Test.YtgnchicipmomlaaGreatDoorPK02
import Derived.Test.YtgnchicipmomlaaGreatDoorPK01
namespace Go.Proofs.YtgnchicipmomlaaGreatDoor
open Go.RowKit
set_option maxRecDepth 100000

theorem info_ent7 : (Tryz.prog.info? 39).map (·.size) = some 7 := by kernel_rfl
theorem info_cat4 : (Tryz.prog.info? 32).map (·.size) = some 4 := by kernel_rfl
theorem eql_nil_ss (w : World) (A : Option Addr) (n c n' c' : Nat) : (binOp .eql 28 (.slice A n c) (.slice none n' c')).run Tryz.prog w = .ok (.bool A.isNone) w :=
  Lib.run_eql_slice_nil w _ 9 A n c n' c' Tryz.underlying28
theorem eql_nil_fd (w : World) (A : Option Addr) (n c n' c' : Nat) : (binOp .eql 29 (.slice A n c) (.slice none n' c')).run Tryz.prog w = .ok (.bool A.isNone) w :=
  Lib.run_eql_slice_nil w _ 56 A n c n' c' Tryz.underlying29
attribute [local go_sem] eql_nil_ss eql_nil_fd

section
variable {w w' : World}
theorem grown_set (w : World) (p : Addr) (u : Value) : w.grownBy (w.setCell p u) (some p.block) :=
  ⟨rfl, rfl, rfl, by simp, fun j _ hne => Below.heap_setCell w p u j (fun e => hne (by rw [e]))⟩
theorem HW.set_ {α : Type} {cs : α → List Value} {k by_ : Nat} {good : α → Prop} {h : SlH} {l : List α} (hh : HW cs k by_ good w h l) {p : Addr} (ha : Apart (some p.block) h) (u : Value) : HW cs k by_ good (w.setCell p u) h l := hh.kept (grown_set w p u) ha
theorem Apart.of_ge {h : SlH} {B g : Nat} (hn : ∀ k, ob h.A = some k → B ≤ k) (hg : g < B) : Apart (some g) h := by
  cases hA : ob h.A with
  | none => exact .inr (.inl hA)
  | some k =>
    refine .inr (.inr fun e => ?_)
    rw [hA] at e
    injection e with e
    have := hn k hA
    omega
theorem Apart.of_new {h : SlH} {B : Nat} {r : Option Nat} (hn : ∀ k, ob h.A = some k → B ≤ k) (hr : ∀ g, r = some g → g < B) : Apart r h := by
  cases r with
  | none => cases hA : ob h.A with
    | none => exact .inr (.inl hA)
    | some k => exact .inr (.inr (by rw [hA]; simp))
  | some g => exact Apart.of_ge hn (hr g rfl)
set_option maxHeartbeats 400000 in
theorem cloneS_any {h : SlH} {l : List _} (hs : HW strF 1 16 GoodStr w h l) :
    Calls Tryz.prog 12 #[.slice h.A h.m h.c] w fun e w' => ∃ h' : SlH, e = .returned (.slice h'.A h'.m h'.c) ∧ HW strF 1 16 GoodStr w' h' l ∧ OsC strF 9 1 w' w.heap.size h'.A h'.m h'.c l ∧ Ext w w' := by
  obtain ⟨A, m, c⟩ := h
  have hbd := hs.bd
  have hgd := Lib.hid hs.good
  have h0 := hs.sl
  dsimp only at hbd h0 ⊢
  clear hs
  go_enter Tryz.func12, Tryz.ntmps12
  rcases A with _ | ad
  · have hl : l = [] := by
      rcases Nat.eq_zero_or_pos m with hm | hm
      · exact List.eq_nil_of_length_eq_zero (by rw [← h0.len, hm])
      · obtain ⟨ad, h, _⟩ := h0.rd.2 hm
        cases h
    subst hl
    go_wp2
    go_ret
    exact ⟨⟨none, 0, 0⟩, rfl, HW.nil_ strF_len, OsC.nil_ strF_len strF_cell, Ext.refl _⟩
  · have hm8 : m ≤ 17592186044416 := by have := Nat.mul_le_mul_left m (show 8 ≤ 16 by omega); omega
    have hb0 : (0 + m) * 16 ≤ 140737488355328 := by rw [Nat.zero_add]; omega
    go_wp2_with (first
      | (at_builtin; refine appC einfo_ss rfl _ _ rfl (OsC.new0 w w.heap.size (Nat.le_refl _) strF_len strF_cell) rfl (h0.ext ((Ext.refl w).alloc _)) rfl hb0 (by simp) ?_; intro A' m' c' w1 ho hg hat))
    go_ret
    have hm' : m' = m := by rw [ho.len, h0.len]; rfl
    exact ⟨⟨A', m', c'⟩, rfl, ⟨ho.sl, ho.cap, by rw [hm']; exact hbd, hgd.out⟩, ho, ((Ext.refl w).alloc _).grown hg (by simp [ob])⟩
set_option maxHeartbeats 400000 in
theorem cloneF_any {h : SlH} {l : List _} (hs : HW fdC 2 32 GoodFd w h l) :
    Calls Tryz.prog 13 #[.slice h.A h.m h.c] w fun e w' => ∃ h' : SlH, e = .returned (.slice h'.A h'.m h'.c) ∧ HW fdC 2 32 GoodFd w' h' l ∧ OsC fdC 56 2 w' w.heap.size h'.A h'.m h'.c l ∧ Ext w w' := by
  obtain ⟨A, m, c⟩ := h
  have hbd := hs.bd
  have hgd := Lib.hid hs.good
  have h0 := hs.sl
  dsimp only at hbd h0 ⊢
  clear hs
  go_enter Tryz.func13, Tryz.ntmps13
  rcases A with _ | ad
  · have hl : l = [] := by
      rcases Nat.eq_zero_or_pos m with hm | hm
      · exact List.eq_nil_of_length_eq_zero (by rw [← h0.len, hm])
      · obtain ⟨ad, h, _⟩ := h0.rd.2 hm
        cases h
    subst hl
    go_wp2
    go_ret
    exact ⟨⟨none, 0, 0⟩, rfl, HW.nil_ fdC_len, OsC.nil_ fdC_len fdC_cell, Ext.refl _⟩
  · have hm8 : m ≤ 17592186044416 := by have := Nat.mul_le_mul_left m (show 8 ≤ 32 by omega); omega
    have hb0 : (0 + m) * 32 ≤ 140737488355328 := by rw [Nat.zero_add]; omega
    go_wp2_with (first
      | (at_builtin; refine appC einfo_fd rfl _ _ rfl (OsC.new0 w w.heap.size (Nat.le_refl _) fdC_len fdC_cell) rfl (h0.ext ((Ext.refl w).alloc _)) rfl hb0 (by simp) ?_; intro A' m' c' w1 ho hg hat))
    go_ret
    have hm' : m' = m := by rw [ho.len, h0.len]; rfl
    exact ⟨⟨A', m', c'⟩, rfl, ⟨ho.sl, ho.cap, by rw [hm']; exact hbd, hgd.out⟩, ho, ((Ext.refl w).alloc _).grown hg (by simp [ob])⟩
end

attribute [local go_sem] ext_refl_t ext_alloc_t ext_drew_t ext_drewN_t ext_alloc2_t ext_alloc3_t ext_alloc4_t ext_alloc5_t ext_alloc6_t ext_alloc7_t ext_alloc8_t ext_alloc1d_t ext_alloc2d_t ext_alloc3d_t ext_alloc4d_t
section
variable {w : World}
set_option maxHeartbeats 6400000 in
theorem ucopied_any {x : Ent} (hx : EntW w x) :
    Calls Tryz.prog 30 #[entV x] w fun e w' => ∃ y : Ent, e = .returned (entV y) ∧ y.p = x.p ∧ EntW w' y ∧ Ext w w' ∧ ∀ r, (∀ g, r = some g → g < w.heap.size) → EntA r y := by
  obtain ⟨⟨id, src, tgt, com, fl, st, fd⟩, hc, hf, hd⟩ := x
  obtain ⟨kc, kf, kd, gid, gsrc, gtgt, gst⟩ := hx
  unfold entV
  dsimp only at *
  have hb := (Blk.new w 39 #[.string id, .string src, .string tgt, .slice hc.A hc.m hc.c, .slice hf.A hf.m hf.c, .int .i64 st, .slice hd.A hd.m hd.c]).alloc (Obj.cells #[.string ⟨#[]⟩, .string ⟨#[]⟩, .string ⟨#[]⟩, .slice none 0 0, .slice none 0 0, .int .i64 0, .slice none 0 0] 39)
  have hb2 := Blk.new (w.alloc (Obj.cells #[.string id, .string src, .string tgt, .slice hc.A hc.m hc.c, .slice hf.A hf.m hf.c, .int .i64 st, .slice hd.A hd.m hd.c] 39)) 39 #[.string ⟨#[]⟩, .string ⟨#[]⟩, .string ⟨#[]⟩, .slice none 0 0, .slice none 0 0, .int .i64 0, .slice none 0 0]
  have hEW0 : Ext w ((w.alloc (Obj.cells #[.string id, .string src, .string tgt, .slice hc.A hc.m hc.c, .slice hf.A hf.m hf.c, .int .i64 st, .slice hd.A hd.m hd.c] 39)).alloc (Obj.cells #[.string ⟨#[]⟩, .string ⟨#[]⟩, .string ⟨#[]⟩, .slice none 0 0, .slice none 0 0, .int .i64 0, .slice none 0 0] 39)) := ((Ext.refl w).alloc _).alloc _
  have hs2 : (w.alloc (Obj.cells #[.string id, .string src, .string tgt, .slice hc.A hc.m hc.c, .slice hf.A hf.m hf.c, .int .i64 st, .slice hd.A hd.m hd.c] 39)).heap.size = w.heap.size + 1 := by simp
  rw [hs2] at hb2
  have hsz0 : ((w.alloc (Obj.cells #[.string id, .string src, .string tgt, .slice hc.A hc.m hc.c, .slice hf.A hf.m hf.c, .int .i64 st, .slice hd.A hd.m hd.c] 39)).alloc (Obj.cells #[.string ⟨#[]⟩, .string ⟨#[]⟩, .string ⟨#[]⟩, .slice none 0 0, .slice none 0 0, .int .i64 0, .slice none 0 0] 39)).heap.size = w.heap.size + 2 := by simp
  go_enter Tryz.func30, Tryz.ntmps30
  go_wp2
  obtain ⟨W0, hW0⟩ : ∃ W0, W0 = (w.alloc (Obj.cells #[.string id, .string src, .string tgt, .slice hc.A hc.m hc.c, .slice hf.A hf.m hf.c, .int .i64 st, .slice hd.A hd.m hd.c] 39)).alloc (Obj.cells #[.string ⟨#[]⟩, .string ⟨#[]⟩, .string ⟨#[]⟩, .slice none 0 0, .slice none 0 0, .int .i64 0, .slice none 0 0] 39) := ⟨_, rfl⟩
  rw [← hW0] at hb hb2 hEW0 hsz0 ⊢
  obtain ⟨g, hg⟩ : ∃ g, g = w.heap.size := ⟨_, rfl⟩
  rw [← hg] at hb hb2 hsz0 ⊢
  have HG := Lib.hid hg
  have HSZ := Lib.hid hsz0
  have X3 := laters (show _ = some (.slice hc.A hc.m hc.c) from hb.cell 3)
  have X4 := laters (show _ = some (.slice hf.A hf.m hf.c) from hb.cell 4)
  have X6 := laters (show _ = some (.slice hd.A hd.m hd.c) from hb.cell 6)
  have hEd : Ext W0 W0.drew := (Ext.refl _).drew
  have hEwd : Ext w W0.drew := hEW0.drew
  clear hW0 hs2 hg hsz0
  go_cut [] from 3 (fun wx => ∃ (w3 : World) (h1 h2 h3 : SlH), wx = ((w3.setCell ⟨g, 3, none⟩ (.slice h1.A h1.m h1.c)).setCell ⟨g, 4, none⟩ (.slice h2.A h2.m h2.c)).setCell ⟨g, 6, none⟩ (.slice h3.A h3.m h3.c) ∧ Ext W0 w3 ∧ StrsW w3 h1 com ∧ StrsW w3 h2 fl ∧ FdsW w3 h3 fd ∧
      (∀ k, ob h1.A = some k → W0.heap.size ≤ k) ∧ (∀ k, ob h2.A = some k → W0.heap.size ≤ k) ∧ (∀ k, ob h3.A = some k → W0.heap.size ≤ k))
  case first =>
    first
    | (go_region_law (first
        | (go_simp; go_at_call 12; refine (cloneS_any (kc.ext hEwd)).mono ?_; rintro e w1 ⟨⟨a1, m1, c1⟩, rfl, k1, o1, hE1⟩; have hE01 := hEd.trans hE1; have hEw1 := hEwd.trans hE1)
        | (go_simp; go_at_call 12; refine (cloneS_any (kf.ext hEw1)).mono ?_; rintro e w2 ⟨⟨a2, m2, c2⟩, rfl, k2, o2, hE2⟩; have hE02 := hE01.trans hE2; have hEw2 := hEw1.trans hE2)
        | (go_simp; go_at_call 13; refine (cloneF_any (kd.ext hEw2)).mono ?_; rintro e w3 ⟨⟨a3, m3, c3⟩, rfl, k3, o3, hE3⟩; have hE03 := hE02.trans hE3; have hEw3 := hEw2.trans hE3; have hb3 := hb.below hE03 hb.lt; have d3 := hb3.cell 3; have d4 := hb3.cell 4; have d6 := hb3.cell 6; have f3 := hb3.frozen 3; have f4 := hb3.frozen 4; have f6 := hb3.frozen 6)
        | fail))
    | fail
    all_goals
      go_wp2
      go_meet
      case rel => exact ⟨w3, ⟨a1, m1, c1⟩, ⟨a2, m2, c2⟩, ⟨a3, m3, c3⟩, rfl, hE03, (k1.ext hE2).ext hE3, k2.ext hE3, k3, fun k hk => o1.ge k hk, fun k hk => Nat.le_trans hE01.size_le (o2.ge k hk), fun k hk => Nat.le_trans hE02.size_le (o3.ge k hk)⟩
  case rest =>
    obtain ⟨w3, h1, h2, h3, rfl, hE3, q1, q2, q3, n1, n2, n3⟩ := hcut
    have hb3 := hb.below hE3 hb.lt
    have hz3 := hb2.below hE3 hb2.lt
    have hbs := ((hb3.set_ 3 (.slice h1.A h1.m h1.c)).set_ 4 (.slice h2.A h2.m h2.c)).set_ 6 (.slice h3.A h3.m h3.c)
    have hzs := ((hz3.far (p := ⟨g, 3, none⟩) (by show g + 1 ≠ g; omega) (.slice h1.A h1.m h1.c)).far (p := ⟨g, 4, none⟩) (by show g + 1 ≠ g; omega) (.slice h2.A h2.m h2.c)).far (p := ⟨g, 6, none⟩) (by show g + 1 ≠ g; omega) (.slice h3.A h3.m h3.c)
    have hgW : g < W0.heap.size := by rw [HSZ.out]; omega
    have hgW1 : g + 1 < W0.heap.size := by rw [HSZ.out]; omega
    have hgw : w.heap.size ≤ g := by rw [HG.out]; exact Nat.le_refl _
    have HEC : Hid (Ext w (((w3.setCell ⟨g, 3, none⟩ (.slice h1.A h1.m h1.c)).setCell ⟨g, 4, none⟩ (.slice h2.A h2.m h2.c)).setCell ⟨g, 6, none⟩ (.slice h3.A h3.m h3.c))) := (((hEW0.trans hE3).set_ (p := ⟨g, 3, none⟩) hgw _).set_ (p := ⟨g, 4, none⟩) hgw _).set_ (p := ⟨g, 6, none⟩) hgw _
    have HQ1 : Hid (StrsW (((w3.setCell ⟨g, 3, none⟩ (.slice h1.A h1.m h1.c)).setCell ⟨g, 4, none⟩ (.slice h2.A h2.m h2.c)).setCell ⟨g, 6, none⟩ (.slice h3.A h3.m h3.c)) h1 com) := ((q1.set_ (p := ⟨g, 3, none⟩) (Apart.of_ge n1 hgW) _).set_ (p := ⟨g, 4, none⟩) (Apart.of_ge n1 hgW) _).set_ (p := ⟨g, 6, none⟩) (Apart.of_ge n1 hgW) _
    have HQ2 : Hid (StrsW (((w3.setCell ⟨g, 3, none⟩ (.slice h1.A h1.m h1.c)).setCell ⟨g, 4, none⟩ (.slice h2.A h2.m h2.c)).setCell ⟨g, 6, none⟩ (.slice h3.A h3.m h3.c)) h2 fl) := ((q2.set_ (p := ⟨g, 3, none⟩) (Apart.of_ge n2 hgW) _).set_ (p := ⟨g, 4, none⟩) (Apart.of_ge n2 hgW) _).set_ (p := ⟨g, 6, none⟩) (Apart.of_ge n2 hgW) _
    have HQ3 : Hid (FdsW (((w3.setCell ⟨g, 3, none⟩ (.slice h1.A h1.m h1.c)).setCell ⟨g, 4, none⟩ (.slice h2.A h2.m h2.c)).setCell ⟨g, 6, none⟩ (.slice h3.A h3.m h3.c)) h3 fd) := ((q3.set_ (p := ⟨g, 3, none⟩) (Apart.of_ge n3 hgW) _).set_ (p := ⟨g, 4, none⟩) (Apart.of_ge n3 hgW) _).set_ (p := ⟨g, 6, none⟩) (Apart.of_ge n3 hgW) _
    clear hb3 hz3 q1 q2 q3
    obtain ⟨Wc, hWc⟩ : ∃ Wc, Wc = ((w3.setCell ⟨g, 3, none⟩ (.slice h1.A h1.m h1.c)).setCell ⟨g, 4, none⟩ (.slice h2.A h2.m h2.c)).setCell ⟨g, 6, none⟩ (.slice h3.A h3.m h3.c) := ⟨_, rfl⟩
    rw [← hWc] at hbs hzs HEC HQ1 HQ2 HQ3 ⊢
    clear hWc hE3
    have r0 : Wc.cell? ⟨g, 0, none⟩ = some (.string id) := hbs.cell 0
    have r1 : Wc.cell? ⟨g, 1, none⟩ = some (.string src) := hbs.cell 1
    have r2 : Wc.cell? ⟨g, 2, none⟩ = some (.string tgt) := hbs.cell 2
    have r3 : Wc.cell? ⟨g, 3, none⟩ = some (.slice h1.A h1.m h1.c) := hbs.cell 3
    have r4 : Wc.cell? ⟨g, 4, none⟩ = some (.slice h2.A h2.m h2.c) := hbs.cell 4
    have r5 : Wc.cell? ⟨g, 5, none⟩ = some (.int .i64 st) := hbs.cell 5
    have r6 : Wc.cell? ⟨g, 6, none⟩ = some (.slice h3.A h3.m h3.c) := hbs.cell 6
    have s0 := hzs.cell 0
    have s1 := hzs.cell 1
    have s2 := hzs.cell 2
    have s3 := hzs.cell 3
    have s4 := hzs.cell 4
    have s5 := hzs.cell 5
    have s6 := hzs.cell 6
    have t0 := hzs.frozen 0
    have t1 := hzs.frozen 1
    have t2 := hzs.frozen 2
    have t3 := hzs.frozen 3
    have t4 := hzs.frozen 4
    have t5 := hzs.frozen 5
    have t6 := hzs.frozen 6
    have HZS : Hid (Blk Wc (g + 1) 39 _) := hzs
    clear hbs hzs hb hb2 X3 X4 X6
    go_wp2
    refine bodyPost_ret (results_cell_row rfl _ _ (g + 1) 39 #[.string id, .string src, .string tgt, .slice h1.A h1.m h1.c, .slice h2.A h2.m h2.c, .int .i64 st, .slice h3.A h3.m h3.c] (0, 0) _ rfl (((((((HZS.out.set_ 0 _).set_ 1 _).set_ 2 _).set_ 3 _).set_ 4 _).set_ 5 _).set_ 6 _) Tryz.underlying39 rfl info_ent7) rfl ?_
    refine ⟨⟨⟨id, src, tgt, com, fl, st, fd⟩, h1, h2, h3⟩, rfl, rfl, ⟨?_, ?_, ?_, gid, gsrc, gtgt, gst⟩, ?_, fun r hr => ⟨Apart.of_new n1 fun k hk => ?_, Apart.of_new n2 fun k hk => ?_, Apart.of_new n3 fun k hk => ?_⟩⟩
    · iterate 7 refine HW.set_ ?_ (Apart.of_ge n1 hgW1) _
      exact HQ1.out
    · iterate 7 refine HW.set_ ?_ (Apart.of_ge n2 hgW1) _
      exact HQ2.out
    · iterate 7 refine HW.set_ ?_ (Apart.of_ge n3 hgW1) _
      exact HQ3.out
    · iterate 7 refine Ext.set_ ?_ (Nat.le_trans hgw (Nat.le_succ g)) _
      exact HEC.out
    · have h9 := hr k hk; have h8 := HSZ.out; have h7 := HG.out; omega
    · have h9 := hr k hk; have h8 := HSZ.out; have h7 := HG.out; omega
    · have h9 := hr k hk; have h8 := HSZ.out; have h7 := HG.out; omega
end

end Go.Proofs.YtgnchicipmomlaaGreatDoor

/- Remove. -/
namespace Go.Proofs.YtgnchicipmomlaaGreatDoor
open Go.RowKit
set_option maxRecDepth 100000

section
variable {w w' : World} {base : Nat} {y : Cat}
end
def cp0 : Cp := ⟨⟨#[]⟩, [], [], []⟩
attribute [local go_sem] ext_refl_t ext_alloc_t ext_drew_t ext_drewN_t ext_alloc2_t ext_alloc3_t ext_alloc4_t ext_alloc5_t ext_alloc6_t ext_alloc7_t ext_alloc8_t ext_alloc1d_t ext_alloc2d_t ext_alloc3d_t ext_alloc4d_t
section
variable {w : World}
end

end Go.Proofs.YtgnchicipmomlaaGreatDoor
