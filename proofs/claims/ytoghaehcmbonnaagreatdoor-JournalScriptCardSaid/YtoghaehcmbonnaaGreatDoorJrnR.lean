/- The reference's Encode of an event. -/
import Derived.Test.YtoghaehcmbonnaaGreatDoorJrnA
import Derived.Test.YtoghaehcmbonnaaGreatDoorRefW
import Derived.Test.YtoghaehcmbonnaaGreatDoorSlc
import Derived.Deep.Cut
import Derived.Deep.RegionHeld3
namespace Go.Proofs.YtoghaehcmbonnaaGreatDoor
open Go.RowKit
set_option maxRecDepth 100000
attribute [local go_sem] ext_refl_t ext_alloc_t ext_drew_t ext_drewN_t ext_alloc2_t ext_alloc3_t ext_alloc4_t ext_alloc5_t ext_alloc6_t ext_alloc7_t ext_alloc8_t ext_alloc1d_t ext_alloc2d_t ext_alloc3d_t ext_alloc4d_t
theorem encS_lenJ (s : ByteArray) : (encS (bys s)).length ≤ 9 + s.size := by
  unfold encS
  rw [List.length_append, bys_len]
  have := encI_length_le ((bys s).length : Int)
  rw [bys_len] at this
  omega
section
variable {w : World}
set_option maxHeartbeats 6400000 in
theorem rjenc_any (x : Ev) (hg : GoodE x) (hs : x.who.size + x.name.size + x.id.size + x.text.size ≤ 1000000) :
    Calls Tryz.prog 30 #[evV x] w fun e w' => ∃ A m c, e = .returned (.slice A m c) ∧ OsB w' w.heap.size A m c (encE x) ∧ Ext w w' := by
  obtain ⟨kd, who, nam, id, txt, xa, xb, xt⟩ := x
  obtain ⟨⟨g1, g2⟩, ⟨g3, g4⟩, ⟨g5, g6⟩, ⟨g7, g8⟩⟩ := hg
  dsimp only at hs g1 g2 g3 g4 g5 g6 g7 g8
  unfold evV
  have z1 := encS_lenJ who
  have z2 := encS_lenJ nam
  have z3 := encS_lenJ id
  have z4 := encS_lenJ txt
  have y1 := encI_length_le kd
  have y2 := encI_length_le xa
  have y3 := encI_length_le xb
  have y4 := encI_length_le xt
  obtain ⟨w0, hw0⟩ : ∃ w0, w0 = w.alloc (Obj.cells #[.int .i64 kd, .string who, .string nam, .string id, .string txt, .int .i64 xa, .int .i64 xb, .int .i64 xt] 46) := ⟨_, rfl⟩
  have hE0 : Ext w w0 := by rw [hw0]; exact (Ext.refl w).alloc _
  have hb0 : Blk w0 w.heap.size 46 #[.int .i64 kd, .string who, .string nam, .string id, .string txt, .int .i64 xa, .int .i64 xb, .int .i64 xt] := by rw [hw0]; exact Blk.new w _ _
  obtain ⟨gx, hgx⟩ : ∃ g, g = w.heap.size := ⟨_, rfl⟩
  rw [← hgx] at hb0
  have KX : Hid (∀ W, Blk W gx 46 #[.int .i64 kd, .string who, .string nam, .string id, .string txt, .int .i64 xa, .int .i64 xb, .int .i64 xt] → W.cell? ⟨gx, 0, none⟩ = some (.int .i64 kd) ∧ W.cell? ⟨gx, 1, none⟩ = some (.string who) ∧ W.cell? ⟨gx, 2, none⟩ = some (.string nam) ∧ W.cell? ⟨gx, 3, none⟩ = some (.string id) ∧ W.cell? ⟨gx, 4, none⟩ = some (.string txt) ∧ W.cell? ⟨gx, 5, none⟩ = some (.int .i64 xa) ∧ W.cell? ⟨gx, 6, none⟩ = some (.int .i64 xb) ∧ W.cell? ⟨gx, 7, none⟩ = some (.int .i64 xt)) :=
    fun W h => ⟨h.cell 0, h.cell 1, h.cell 2, h.cell 3, h.cell 4, h.cell 5, h.cell 6, h.cell 7⟩
  go_enter Tryz.func30, Tryz.ntmps30
  go_upto_region 1 with fail
  rw [← hw0, ← hgx]
  clear hw0 hgx
  go_cut [3] from 4 to 10 (fun v wx => ∃ A7 m7 c7, v = .slice A7 m7 c7 ∧ OsB wx w0.heap.size A7 m7 c7 (encI kd ++ encS (bys who)) ∧ Ext w0 wx)
  case first =>
    have hE0d : Ext w0 w0.drew := (Ext.refl w0).drew
    have hkd := hb0.below hE0d hb0.lt
    go_region_held3 (fun w' => w'.cell? ⟨gx, 0, none⟩ = some (.int .i64 kd) ∧ w'.cell? ⟨gx, 1, none⟩ = some (.string who)) (exact ⟨(KX.out _ (by assumption)).1, (KX.out _ (by assumption)).2.1⟩) (first
        | (refine step_appB rfl _ _ rfl (ho4.ext hE6) rfl ho6.sl rfl (by have h3 := ho4.len; have h4 := ho6.len; omega) (Nat.le_trans hE04.size_le hE6.size_le) ?_
           intro A7 m7 c7 w7 ho7 hg7 hat7
           have hE07 : Ext w0 w7 := Ext.grown hE06 hg7 (fun k hk => Nat.le_trans hE0d.size_le (ho4.ge k hk))
           have hk7 := hb0.below hE07 hb0.lt)
        | (go_at_call 47
           (with_reducible refine (refStr who (by omega)).mono ?_)
           rintro e w6 ⟨A6, m6, c6, rfl, ho6, hE6⟩
           have hE06 : Ext w0 w6 := hE04.trans hE6
           have hk6 := hb0.below hE06 hb0.lt)
        | (go_at_call 46
           (with_reducible refine (refInt kd g1 g2).mono ?_)
           rintro e w4 ⟨A4, m4, c4, rfl, ho4', hE4⟩
           have hE04 : Ext w0 w4 := hE0d.trans hE4
           have ho4 := ho4'.mono hE0d.size_le
           have hk4 := hb0.below hE04 hb0.lt)
        | fail)
    all_goals
      go_wp2
      go_meet
      exact ⟨A7, m7, c7, rfl, ho7, hE07⟩
  case rest =>
  obtain ⟨AQ, mQ, cQ, rfl, hoQ, hE⟩ := hcut
  obtain ⟨wr, rfl⟩ : ∃ v, v = wc := ⟨_, rfl⟩
  have hlQ := hoQ.len
  simp only [List.length_append] at hlQ
  have HLQ := Lib.hid hlQ
  clear hlQ
  have hErd : Ext wr wr.drew := (Ext.refl wr).drew
  have hkd := hb0.below (hE.trans hErd) hb0.lt
  have hbQ : w0.heap.size ≤ wr.heap.size := hE.size_le
  go_upto_region 2 with fail
  go_cut [3] from 11 to 19 (fun v wx => ∃ A7 m7 c7, v = .slice A7 m7 c7 ∧ OsB wx w0.heap.size A7 m7 c7 (encI kd ++ encS (bys who) ++ encS (bys nam) ++ encS (bys id)) ∧ Ext w0 wx)
  case first =>
    go_region_held3 (fun w' => w'.cell? ⟨gx, 2, none⟩ = some (.string nam) ∧ w'.cell? ⟨gx, 3, none⟩ = some (.string id)) (exact ⟨(KX.out _ (by assumption)).2.2.1, (KX.out _ (by assumption)).2.2.2.1⟩) (first
        | (refine step_appB rfl _ _ rfl (ho5.ext hE6) rfl ho6.sl rfl (by have h0 := ho5.len; simp only [List.length_append] at h0; have h3 := ho6.len; omega) (Nat.le_trans hsz5 hE6.size_le) ?_
           intro A7 m7 c7 w7 ho7 hg7 hat7
           have hE07 : Ext w0 w7 := Ext.grown hE06 hg7 (fun k hk => ho5.ge k hk)
           have hk7 := hb0.below hE07 hb0.lt)
        | (go_at_call 47
           (with_reducible refine (refStr id (by omega)).mono ?_)
           rintro e w6 ⟨A6, m6, c6, rfl, ho6, hE6⟩
           have hE06 : Ext w0 w6 := hE05.trans hE6
           have hk6 := hb0.below hE06 hb0.lt)
        | (refine step_appB rfl _ _ rfl (hoQ.ext hEr4) rfl ho4.sl rfl (by have h0 := HLQ.out; have h3 := ho4.len; omega) (Nat.le_trans hbQ hEr4.size_le) ?_
           intro A5 m5 c5 w5 ho5 hg5 hat5
           have hE05 : Ext w0 w5 := Ext.grown hE04 hg5 (fun k hk => hoQ.ge k hk)
           have hsz5 : w0.heap.size ≤ w5.heap.size := hE05.size_le
           have hk5 := hb0.below hE05 hb0.lt)
        | (go_at_call 47
           (with_reducible refine (refStr nam (by omega)).mono ?_)
           rintro e w4 ⟨A4, m4, c4, rfl, ho4, hE4⟩
           have hEr4 : Ext wr w4 := Ext.trans hErd hE4
           have hE04 : Ext w0 w4 := hE.trans hEr4
           have hk4 := hb0.below hE04 hb0.lt)
        | fail)
    all_goals
      go_wp2
      go_meet
      exact ⟨A7, m7, c7, rfl, ho7, hE07⟩
  case rest =>
  obtain ⟨AQ, mQ, cQ, rfl, hoQ, hE⟩ := hcut
  obtain ⟨wr, rfl⟩ : ∃ v, v = wc := ⟨_, rfl⟩
  have hlQ := hoQ.len
  simp only [List.length_append] at hlQ
  have HLQ := Lib.hid hlQ
  clear hlQ
  have hErd : Ext wr wr.drew := (Ext.refl wr).drew
  have hkd := hb0.below (hE.trans hErd) hb0.lt
  have hbQ : w0.heap.size ≤ wr.heap.size := hE.size_le
  go_upto_region 3 with fail
  go_cut [3] from 20 to 28 (fun v wx => ∃ A7 m7 c7, v = .slice A7 m7 c7 ∧ OsB wx w0.heap.size A7 m7 c7 (encI kd ++ encS (bys who) ++ encS (bys nam) ++ encS (bys id) ++ encS (bys txt) ++ encI xa) ∧ Ext w0 wx)
  case first =>
    go_region_held3 (fun w' => w'.cell? ⟨gx, 4, none⟩ = some (.string txt) ∧ w'.cell? ⟨gx, 5, none⟩ = some (.int .i64 xa)) (exact ⟨(KX.out _ (by assumption)).2.2.2.2.1, (KX.out _ (by assumption)).2.2.2.2.2.1⟩) (first
        | (refine step_appB rfl _ _ rfl (ho5.ext hE6) rfl ho6.sl rfl (by have h0 := ho5.len; simp only [List.length_append] at h0; have h3 := ho6.len; omega) (Nat.le_trans hsz5 hE6.size_le) ?_
           intro A7 m7 c7 w7 ho7 hg7 hat7
           have hE07 : Ext w0 w7 := Ext.grown hE06 hg7 (fun k hk => ho5.ge k hk)
           have hk7 := hb0.below hE07 hb0.lt)
        | (go_at_call 46
           (with_reducible refine (refInt xa g3 g4).mono ?_)
           rintro e w6 ⟨A6, m6, c6, rfl, ho6, hE6⟩
           have hE06 : Ext w0 w6 := hE05.trans hE6
           have hk6 := hb0.below hE06 hb0.lt)
        | (refine step_appB rfl _ _ rfl (hoQ.ext hEr4) rfl ho4.sl rfl (by have h0 := HLQ.out; have h3 := ho4.len; omega) (Nat.le_trans hbQ hEr4.size_le) ?_
           intro A5 m5 c5 w5 ho5 hg5 hat5
           have hE05 : Ext w0 w5 := Ext.grown hE04 hg5 (fun k hk => hoQ.ge k hk)
           have hsz5 : w0.heap.size ≤ w5.heap.size := hE05.size_le
           have hk5 := hb0.below hE05 hb0.lt)
        | (go_at_call 47
           (with_reducible refine (refStr txt (by omega)).mono ?_)
           rintro e w4 ⟨A4, m4, c4, rfl, ho4, hE4⟩
           have hEr4 : Ext wr w4 := Ext.trans hErd hE4
           have hE04 : Ext w0 w4 := hE.trans hEr4
           have hk4 := hb0.below hE04 hb0.lt)
        | fail)
    all_goals
      go_wp2
      go_meet
      exact ⟨A7, m7, c7, rfl, ho7, hE07⟩
  case rest =>
  obtain ⟨AQ, mQ, cQ, rfl, hoQ, hE⟩ := hcut
  obtain ⟨wr, rfl⟩ : ∃ v, v = wc := ⟨_, rfl⟩
  have hlQ := hoQ.len
  simp only [List.length_append] at hlQ
  have HLQ := Lib.hid hlQ
  clear hlQ
  have hErd : Ext wr wr.drew := (Ext.refl wr).drew
  have hkd := hb0.below (hE.trans hErd) hb0.lt
  have hbQ : w0.heap.size ≤ wr.heap.size := hE.size_le
  go_upto_region 4 with fail
  go_cut [2] from 29 to 37 (fun v wx => ∃ A7 m7 c7, v = .slice A7 m7 c7 ∧ OsB wx w0.heap.size A7 m7 c7 (encI kd ++ encS (bys who) ++ encS (bys nam) ++ encS (bys id) ++ encS (bys txt) ++ encI xa ++ encI xb ++ encI xt) ∧ Ext w0 wx)
  case first =>
    go_region_held3 (fun w' => w'.cell? ⟨gx, 6, none⟩ = some (.int .i64 xb) ∧ w'.cell? ⟨gx, 7, none⟩ = some (.int .i64 xt)) (exact ⟨(KX.out _ (by assumption)).2.2.2.2.2.2.1, (KX.out _ (by assumption)).2.2.2.2.2.2.2⟩) (first
        | (refine step_appB rfl _ _ rfl (ho5.ext hE6) rfl ho6.sl rfl (by have h0 := ho5.len; simp only [List.length_append] at h0; have h3 := ho6.len; omega) (Nat.le_trans hsz5 hE6.size_le) ?_
           intro A7 m7 c7 w7 ho7 hg7 hat7
           have hE07 : Ext w0 w7 := Ext.grown hE06 hg7 (fun k hk => ho5.ge k hk)
           have hk7 := hb0.below hE07 hb0.lt)
        | (go_at_call 46
           (with_reducible refine (refInt xt g7 g8).mono ?_)
           rintro e w6 ⟨A6, m6, c6, rfl, ho6, hE6⟩
           have hE06 : Ext w0 w6 := hE05.trans hE6
           have hk6 := hb0.below hE06 hb0.lt)
        | (refine step_appB rfl _ _ rfl (hoQ.ext hEr4) rfl ho4.sl rfl (by have h0 := HLQ.out; have h3 := ho4.len; omega) (Nat.le_trans hbQ hEr4.size_le) ?_
           intro A5 m5 c5 w5 ho5 hg5 hat5
           have hE05 : Ext w0 w5 := Ext.grown hE04 hg5 (fun k hk => hoQ.ge k hk)
           have hsz5 : w0.heap.size ≤ w5.heap.size := hE05.size_le
           have hk5 := hb0.below hE05 hb0.lt)
        | (go_at_call 46
           (with_reducible refine (refInt xb g5 g6).mono ?_)
           rintro e w4 ⟨A4, m4, c4, rfl, ho4, hE4⟩
           have hEr4 : Ext wr w4 := Ext.trans hErd hE4
           have hE04 : Ext w0 w4 := hE.trans hEr4
           have hk4 := hb0.below hE04 hb0.lt)
        | fail)
    all_goals
      go_wp2
      go_meet
      exact ⟨A7, m7, c7, rfl, ho7, hE07⟩
  case rest =>
  obtain ⟨AQ, mQ, cQ, rfl, hoQ, hE⟩ := hcut
  have HO := Lib.hid (hoQ.mono hE0.size_le)
  have hEE := hE0.trans hE
  clear hoQ
  go_wp2
  go_ret
  refine ⟨AQ, mQ, cQ, rfl, ?_, hEE⟩
  have h := HO.out
  simp only [List.append_assoc] at h
  exact h
end
end Go.Proofs.YtoghaehcmbonnaaGreatDoor
