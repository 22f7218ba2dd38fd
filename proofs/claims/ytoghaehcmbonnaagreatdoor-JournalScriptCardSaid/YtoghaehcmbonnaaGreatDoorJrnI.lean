/- The reference's Decode of an event. -/
import Derived.Test.YtoghaehcmbonnaaGreatDoorJrnA
import Derived.Test.YtoghaehcmbonnaaGreatDoorRefRd
import Derived.Test.YtoghaehcmbonnaaGreatDoorSlc
import Derived.Laws.ResultCell
import Derived.Laws.Rows
namespace Go.Proofs.YtoghaehcmbonnaaGreatDoor
open Go.RowKit
set_option maxRecDepth 100000
attribute [local go_sem] ext_refl_t ext_alloc_t ext_drew_t ext_drewN_t ext_alloc2_t ext_alloc3_t ext_alloc4_t ext_alloc5_t ext_alloc6_t ext_alloc7_t ext_alloc8_t ext_alloc1d_t ext_alloc2d_t ext_alloc3d_t ext_alloc4d_t
theorem info_ev8 : (Tryz.prog.info? 46).map (·.size) = some 8 := by kernel_rfl
theorem results_cell_row_tmpE {P : Program} {fn : Func} {p u : Tmp} {ty : TypeId} (h : fn.results = #[.cell p ty, .tmp u]) (tmps : Array Value) (w : World) (g : Nat) (t : TypeId) (cs : Array Value) (fr : Nat × Nat) (d : TypeDesc)
    (hp : tmps.getD p undef = .pointer (some ⟨g, 0, none⟩)) (hg : w.heap[g]? = some (.cells cs t fr))
    (hu : P.underlying ty = some d) (hd : (match d with | .struct _ | .array _ _ => true | _ => false) = true) (hi : (P.info? ty).map (·.size) = some cs.size) :
    (results fn tmps).run P w = .ok (.tuple #[.agg cs, tmps.getD u undef]) w := by
  rw [results_cell_tmp h, hp]
  simp [asAddr, run_loadVar_row w g t ty cs fr d hg hu hd hi, Result.andThen]
section
variable {w : World}
set_option maxHeartbeats 12800000 in
theorem rjdec_any {A : Option Addr} {m : Nat} (c : Nat) {l : List UInt8} (hs : SlB w A m l) (hm : m ≤ 1000000) :
    Calls Tryz.prog 45 #[.slice A m c] w fun e w' => e = .returned (.tuple #[evV (decE l).1, .int .i64 (decE l).2]) ∧ Ext w w' := by
  have HML := Lib.hid hs.len
  obtain ⟨W0, hW0⟩ : ∃ W0, W0 = w.alloc (Obj.cells #[.int .i64 0, .string ⟨#[]⟩, .string ⟨#[]⟩, .string ⟨#[]⟩, .string ⟨#[]⟩, .int .i64 0, .int .i64 0, .int .i64 0] 46) := ⟨_, rfl⟩
  have hb0 : Blk W0 w.heap.size 46 #[.int .i64 0, .string ⟨#[]⟩, .string ⟨#[]⟩, .string ⟨#[]⟩, .string ⟨#[]⟩, .int .i64 0, .int .i64 0, .int .i64 0] := by rw [hW0]; exact Blk.new w _ _
  have hE0 : Ext w W0 := by rw [hW0]; exact (Ext.refl w).alloc _
  obtain ⟨gr, hgr⟩ : ∃ gr, gr = w.heap.size := ⟨_, rfl⟩
  have HGR := Lib.hid hgr
  go_enter Tryz.func45, Tryz.ntmps45
  go_wp2_with (first
    | (at_builtin; refine Hid.out ?_))
  rw [← hW0, ← hgr]
  rw [← hgr] at hb0
  have hz : W0.heap.size = gr + 1 := by rw [hW0, hgr]; simp
  have hoN : OsB (W0.alloc (Obj.cells #[] 5)) W0.heap.size (some ⟨gr + 1, 0, none⟩) 0 0 [] := by
    have h := OsB.new_ W0 W0.heap.size (Nat.le_refl _) [] (by decide) #[] rfl 0 rfl
    rw [hz] at h ⊢
    exact h
  clear hW0 hgr hz
  refine Hid.mk_ ?_
  have hEa : Ext W0 (W0.alloc (Obj.cells #[] 5)) := (Ext.refl W0).alloc _
  refine appB rfl _ _ rfl hoN rfl (hs.ext (hE0.trans hEa)) rfl (by omega) hEa.size_le ?_
  intro A1 m1 c1 w1 ho1 hg1 hN1
  rw [List.nil_append] at ho1
  have hE01 : Ext W0 w1 := hEa.grown hg1 hoN.ge
  obtain ⟨W2, hW2⟩ : ∃ W2, W2 = w1.alloc (Obj.cells #[.slice A1 m1 c1, .int .i64 0, .bool false] 111) := ⟨_, rfl⟩
  obtain ⟨g, hg⟩ : ∃ g, g = w1.heap.size := ⟨_, rfl⟩
  have hE2 : Ext w1 W2 := by rw [hW2]; exact (Ext.refl w1).alloc _
  have hR2 : RRdr W2 g A1 m1 c1 l 0 false := by
    have hb := Blk.new w1 111 #[.slice A1 m1 c1, .int .i64 0, .bool false]
    rw [← hW2, ← hg] at hb
    exact ⟨hb, ho1.sl.ext hE2, by
      cases hm1 : obm m1 A1 with
      | none => exact .inl rfl
      | some j => exact .inr (fun e => by injection e with e; have := ho1.lt j (obm_ob hm1); omega), Nat.zero_le _, ho1.cap, fun k hk => Nat.lt_of_lt_of_le (ho1.lt k (obm_ob hk)) hE2.size_le⟩
  have HG1 : Hid (w1.heap.size ≤ g) := by rw [hg]; exact Nat.le_refl _
  have HM1 : Hid (m1 = l.length) := ho1.len
  have HE01 := Lib.hid hE01
  clear hg1 hN1 ho1 hEa hE01
  go_wp2_with (first
    | (go_at_call 66; refine Hid.out ?_))
  rw [← hW2, ← hg]
  clear hW2 hg
  refine Hid.mk_ ((refInt_any hR2).mono ?_)
  rintro e w3 ⟨rfl, hR3, hg3⟩
  obtain ⟨kd, p3, f3, hS⟩ : ∃ n p f', stepI l 0 false = (n, p, f') := ⟨_, _, _, rfl⟩
  rw [hS] at hR3 ⊢
  dsimp only at hR3 ⊢
  have HS3 := Lib.hid hS
  have hE3 : Ext w1 w3 := hE2.grown hg3 (fun k hk => by injection hk with hk; rw [← hk]; exact HG1.out)
  clear hS hg3 hR2 hE2
  go_wp2_with (first
    | (go_at_call 67; refine Hid.out ?_))
  refine Hid.mk_ ((refString_any hR3).mono ?_)
  rintro e w4 ⟨rfl, hR4, hg4⟩
  obtain ⟨s4, p4, f4, hS⟩ : ∃ n p f', stepS l p3 f3 = (n, p, f') := ⟨_, _, _, rfl⟩
  rw [hS] at hR4 ⊢
  dsimp only at hR4 ⊢
  have HS4 := Lib.hid hS
  have hE4 : Ext w1 w4 := hE3.grown hg4 (fun k hk => by injection hk with hk; rw [← hk]; exact HG1.out)
  clear hS hg4 hR3 hE3
  go_wp2_with (first
    | (go_at_call 67; refine Hid.out ?_))
  refine Hid.mk_ ((refString_any hR4).mono ?_)
  rintro e w5 ⟨rfl, hR5, hg5⟩
  obtain ⟨s5, p5, f5, hS⟩ : ∃ n p f', stepS l p4 f4 = (n, p, f') := ⟨_, _, _, rfl⟩
  rw [hS] at hR5 ⊢
  dsimp only at hR5 ⊢
  have HS5 := Lib.hid hS
  have hE5 : Ext w1 w5 := hE4.grown hg5 (fun k hk => by injection hk with hk; rw [← hk]; exact HG1.out)
  clear hS hg5 hR4 hE4
  go_wp2_with (first
    | (go_at_call 67; refine Hid.out ?_))
  refine Hid.mk_ ((refString_any hR5).mono ?_)
  rintro e w6 ⟨rfl, hR6, hg6⟩
  obtain ⟨s6, p6, f6, hS⟩ : ∃ n p f', stepS l p5 f5 = (n, p, f') := ⟨_, _, _, rfl⟩
  rw [hS] at hR6 ⊢
  dsimp only at hR6 ⊢
  have HS6 := Lib.hid hS
  have hE6 : Ext w1 w6 := hE5.grown hg6 (fun k hk => by injection hk with hk; rw [← hk]; exact HG1.out)
  clear hS hg6 hR5 hE5
  go_wp2_with (first
    | (go_at_call 67; refine Hid.out ?_))
  refine Hid.mk_ ((refString_any hR6).mono ?_)
  rintro e w7 ⟨rfl, hR7, hg7⟩
  obtain ⟨s7, p7, f7, hS⟩ : ∃ n p f', stepS l p6 f6 = (n, p, f') := ⟨_, _, _, rfl⟩
  rw [hS] at hR7 ⊢
  dsimp only at hR7 ⊢
  have HS7 := Lib.hid hS
  have hE7 : Ext w1 w7 := hE6.grown hg7 (fun k hk => by injection hk with hk; rw [← hk]; exact HG1.out)
  clear hS hg7 hR6 hE6
  go_wp2_with (first
    | (go_at_call 66; refine Hid.out ?_))
  refine Hid.mk_ ((refInt_any hR7).mono ?_)
  rintro e w8 ⟨rfl, hR8, hg8⟩
  obtain ⟨n8, p8, f8, hS⟩ : ∃ n p f', stepI l p7 f7 = (n, p, f') := ⟨_, _, _, rfl⟩
  rw [hS] at hR8 ⊢
  dsimp only at hR8 ⊢
  have HS8 := Lib.hid hS
  have hE8 : Ext w1 w8 := hE7.grown hg8 (fun k hk => by injection hk with hk; rw [← hk]; exact HG1.out)
  clear hS hg8 hR7 hE7
  go_wp2_with (first
    | (go_at_call 66; refine Hid.out ?_))
  refine Hid.mk_ ((refInt_any hR8).mono ?_)
  rintro e w9 ⟨rfl, hR9, hg9⟩
  obtain ⟨n9, p9, f9, hS⟩ : ∃ n p f', stepI l p8 f8 = (n, p, f') := ⟨_, _, _, rfl⟩
  rw [hS] at hR9 ⊢
  dsimp only at hR9 ⊢
  have HS9 := Lib.hid hS
  have hE9 : Ext w1 w9 := hE8.grown hg9 (fun k hk => by injection hk with hk; rw [← hk]; exact HG1.out)
  clear hS hg9 hR8 hE8
  go_wp2_with (first
    | (go_at_call 66; refine Hid.out ?_))
  refine Hid.mk_ ((refInt_any hR9).mono ?_)
  rintro e w10 ⟨rfl, hR10, hg10⟩
  obtain ⟨n10, p10, f10, hS⟩ : ∃ n p f', stepI l p9 f9 = (n, p, f') := ⟨_, _, _, rfl⟩
  rw [hS] at hR10 ⊢
  dsimp only at hR10 ⊢
  have HS10 := Lib.hid hS
  have hE10 : Ext w1 w10 := hE9.grown hg10 (fun k hk => by injection hk with hk; rw [← hk]; exact HG1.out)
  clear hS hg10 hR9 hE9
  have HRD : Hid (rdE l = (⟨kd, str s4, str s5, str s6, str s7, n8, n9, n10⟩, p10, f10)) := by
    show _ = _
    unfold rdE
    simp only [HS3.out, HS4.out, HS5.out, HS6.out, HS7.out, HS8.out, HS9.out, HS10.out]
  have hple : p10 ≤ m1 := hR10.at_le
  have z2 : w10.cell? ⟨g, 2, none⟩ = some (.bool f10) := hR10.c2
  have hEx := HE01.out.trans hE10
  cases hf : f10 with
  | true =>
    have HR : Hid (decE l = (ev0, 4)) := by show _ = _; unfold decE; rw [HRD.out, if_pos (.inl hf)]
    rw [hf] at z2
    clear hf hR10
    have hEy := hEx.alloc (Obj.cells #[.int .i64 kd, .string (str s4), .string (str s5), .string (str s6), .string (str s7), .int .i64 n8, .int .i64 n9, .int .i64 n10] 46)
    have z3 := later ((Ext.refl w10).alloc (Obj.cells #[.int .i64 kd, .string (str s4), .string (str s5), .string (str s6), .string (str s7), .int .i64 n8, .int .i64 n9, .int .i64 n10] 46)) z2
    clear z2
    have hrb := hb0.below hEy hb0.lt
    have k0 := hrb.cell 0
    have k1 := hrb.cell 1
    have k2 := hrb.cell 2
    have k3 := hrb.cell 3
    have k4 := hrb.cell 4
    have k5 := hrb.cell 5
    have k6 := hrb.cell 6
    have k7 := hrb.cell 7
    have m0 := hrb.frozen 0
    have m1' := hrb.frozen 1
    have m2 := hrb.frozen 2
    have m3 := hrb.frozen 3
    have m4 := hrb.frozen 4
    have m5 := hrb.frozen 5
    have m6 := hrb.frozen 6
    have m7 := hrb.frozen 7
    have HBR : Hid (Blk _ gr 46 _) := hrb
    have HEZ : Hid (Ext w _) := hE0.trans hEy
    clear hrb hb0
    go_wp2
    refine bodyPost_ret (results_cell_row_tmpE rfl _ _ gr 46 _ (0, 0) _ rfl ((((((((HBR.out.set_ 0 _).set_ 1 _).set_ 2 _).set_ 3 _).set_ 4 _).set_ 5 _).set_ 6 _).set_ 7 _) Tryz.underlying46 rfl info_ev8) rfl ?_
    refine ⟨by rw [HR.out]; rfl, ?_⟩
    iterate 8 refine Ext.set_ ?_ (by show w.heap.size ≤ gr; rw [HGR.out]; exact Nat.le_refl _) _
    exact HEZ.out
  | false =>
  rw [hf] at z2
  have hEn : Ext w10 (w10.alloc (Obj.cells #[.int .i64 kd, .string (str s4), .string (str s5), .string (str s6), .string (str s7), .int .i64 n8, .int .i64 n9, .int .i64 n10] 46)) := (Ext.refl w10).alloc _
  have hbe := Blk.new w10 46 #[.int .i64 kd, .string (str s4), .string (str s5), .string (str s6), .string (str s7), .int .i64 n8, .int .i64 n9, .int .i64 n10]
  have z3 := later hEn z2
  have HF := Lib.hid hf
  clear z2
  rw [hf] at hR10
  clear hf
  go_wp2_with (first
    | (go_at_call 68; refine Hid.out ?_))
  refine Hid.mk_ ((rest_any (hR10.ext hEn)).mono ?_)
  rintro e w11 ⟨A11, m11, c11, rfl, hs11, _, _, hE11⟩
  have hl11 : m11 = l.length - p10 := by rw [hs11.len]; unfold restB; rw [if_neg (by decide), List.length_drop]
  have hEy := hEx.trans (hEn.trans hE11)
  by_cases hpe : p10 = l.length
  · have hm0 : ¬ (0 : Int) < (m11 : Int) := by omega
    have HR : Hid (decE l = (⟨kd, str s4, str s5, str s6, str s7, n8, n9, n10⟩, 0)) := by show _ = _; unfold decE; rw [HRD.out, if_neg (by simp [HF.out, hpe])]
    have hbf := hbe.below hE11 hbe.lt
    obtain ⟨ge, hge⟩ : ∃ ge, ge = w10.heap.size := ⟨_, rfl⟩
    rw [← hge] at hbf ⊢
    clear hge hpe hl11 hs11 hR10 z3 hbe
    have e0 : w11.cell? ⟨ge, 0, none⟩ = some (.int .i64 kd) := hbf.cell 0
    have e1 : w11.cell? ⟨ge, 1, none⟩ = some (.string (str s4)) := hbf.cell 1
    have e2 : w11.cell? ⟨ge, 2, none⟩ = some (.string (str s5)) := hbf.cell 2
    have e3 : w11.cell? ⟨ge, 3, none⟩ = some (.string (str s6)) := hbf.cell 3
    have e4 : w11.cell? ⟨ge, 4, none⟩ = some (.string (str s7)) := hbf.cell 4
    have e5 : w11.cell? ⟨ge, 5, none⟩ = some (.int .i64 n8) := hbf.cell 5
    have e6 : w11.cell? ⟨ge, 6, none⟩ = some (.int .i64 n9) := hbf.cell 6
    have e7 : w11.cell? ⟨ge, 7, none⟩ = some (.int .i64 n10) := hbf.cell 7
    have hrb := hb0.below hEy hb0.lt
    have k0 := hrb.cell 0
    have k1 := hrb.cell 1
    have k2 := hrb.cell 2
    have k3 := hrb.cell 3
    have k4 := hrb.cell 4
    have k5 := hrb.cell 5
    have k6 := hrb.cell 6
    have k7 := hrb.cell 7
    have m0 := hrb.frozen 0
    have m1' := hrb.frozen 1
    have m2 := hrb.frozen 2
    have m3 := hrb.frozen 3
    have m4 := hrb.frozen 4
    have m5 := hrb.frozen 5
    have m6 := hrb.frozen 6
    have m7 := hrb.frozen 7
    have HBR : Hid (Blk _ gr 46 _) := hrb
    have HEZ : Hid (Ext w _) := hE0.trans hEy
    clear hrb hb0
    go_wp2
    refine bodyPost_ret (results_cell_row_tmpE rfl _ _ gr 46 _ (0, 0) _ rfl ((((((((HBR.out.set_ 0 _).set_ 1 _).set_ 2 _).set_ 3 _).set_ 4 _).set_ 5 _).set_ 6 _).set_ 7 _) Tryz.underlying46 rfl info_ev8) rfl ?_
    refine ⟨by rw [HR.out]; rfl, ?_⟩
    iterate 8 refine Ext.set_ ?_ (by show w.heap.size ≤ gr; rw [HGR.out]; exact Nat.le_refl _) _
    exact HEZ.out
  · have hm0 : (0 : Int) < (m11 : Int) := by have := HM1.out; omega
    have HR : Hid (decE l = (ev0, 4)) := by show _ = _; unfold decE; rw [HRD.out, if_pos (.inr hpe)]
    clear hpe hl11 hs11 hR10 z3 hbe
    have hrb := hb0.below hEy hb0.lt
    have k0 := hrb.cell 0
    have k1 := hrb.cell 1
    have k2 := hrb.cell 2
    have k3 := hrb.cell 3
    have k4 := hrb.cell 4
    have k5 := hrb.cell 5
    have k6 := hrb.cell 6
    have k7 := hrb.cell 7
    have m0 := hrb.frozen 0
    have m1' := hrb.frozen 1
    have m2 := hrb.frozen 2
    have m3 := hrb.frozen 3
    have m4 := hrb.frozen 4
    have m5 := hrb.frozen 5
    have m6 := hrb.frozen 6
    have m7 := hrb.frozen 7
    have HBR : Hid (Blk _ gr 46 _) := hrb
    have HEZ : Hid (Ext w _) := hE0.trans hEy
    clear hrb hb0
    go_wp2
    refine bodyPost_ret (results_cell_row_tmpE rfl _ _ gr 46 _ (0, 0) _ rfl ((((((((HBR.out.set_ 0 _).set_ 1 _).set_ 2 _).set_ 3 _).set_ 4 _).set_ 5 _).set_ 6 _).set_ 7 _) Tryz.underlying46 rfl info_ev8) rfl ?_
    refine ⟨by rw [HR.out]; rfl, ?_⟩
    iterate 8 refine Ext.set_ ?_ (by show w.heap.size ≤ gr; rw [HGR.out]; exact Nat.le_refl _) _
    exact HEZ.out
end
end Go.Proofs.YtoghaehcmbonnaaGreatDoor
