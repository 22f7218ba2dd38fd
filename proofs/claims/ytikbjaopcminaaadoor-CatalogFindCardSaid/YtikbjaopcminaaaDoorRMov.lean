/- The reference's with, without. -/
import Derived.Test.YtikbjaopcminaaaDoorREq
import Derived.Test.YtikbjaopcminaaaDoorCatM
namespace Go.Proofs.YtikbjaopcminaaaDoor
open Go.RowKit
set_option maxRecDepth 100000
attribute [local go_sem] ext_refl_t ext_alloc_t ext_drew_t ext_drewN_t ext_alloc2_t ext_alloc3_t ext_alloc4_t ext_alloc5_t ext_alloc6_t ext_alloc7_t ext_alloc8_t ext_alloc1d_t ext_alloc2d_t ext_alloc3d_t ext_alloc4d_t
theorem Blk.new1 (w : World) (o : Obj) (t : TypeId) (cs : Array Value) : Blk ((w.alloc o).alloc (.cells cs t)) (w.heap.size + 1) t cs := by
  have h := Blk.new (w.alloc o) t cs
  simpa using h
section
variable {w : World}
set_option maxHeartbeats 3200000 in
theorem rwith_any (x : Cat) (A : Option Addr) (m c : Nat) (es : List Ent) :
    Calls Tryd.prog 65 #[catV x, .slice A m c] w fun e w' => e = .returned (catV (x.withE es ⟨A, m, c⟩)) ∧ Ext w w' := by
  obtain ⟨tag, com, fd, es0, hc, hd, he⟩ := x
  have HCA : Hid (catV ⟨tag, com, fd, es0, hc, hd, he⟩ = .agg #[.string tag, .slice hc.A hc.m hc.c, .slice hd.A hd.m hd.c, .slice he.A he.m he.c]) := rfl
  rw [HCA.out]
  go_enter Tryd.func65, Tryd.ntmps65
  go_wp2
  refine bodyPost_ret (results_cell_row rfl _ _ (w.heap.size + 1) 28 #[.string tag, .slice hc.A hc.m hc.c, .slice hd.A hd.m hd.c, .slice A m c] (0, 0) _ rfl (Blk.new1 w _ _ _) Tryd.underlying28 rfl info_cat4) rfl ?_
  exact ⟨rfl, ((Ext.refl w).alloc _).alloc _⟩

set_option maxHeartbeats 3200000 in
theorem rwithout_any {A : Option Addr} {m c : Nat} {l : List Ent} (hs : SlC entC 7 w A m l) (hcap : m ≤ c) {k : Nat} (hk : k < m) (hm : m ≤ 4000) :
    Calls Tryd.prog 66 #[.slice A m c, .int .i64 k] w fun e w' => (∃ A m c, e = .returned (.slice A m c) ∧ OsC entC 30 7 w' w.heap.size A m c (l.take k ++ l.drop (k + 1))) ∧ Ext w w' := by
  have hlen := Lib.hid hs.len
  have hsl := hs.take_ (i := k) (by omega)
  have hsr := hs.cut (i := k + 1) (by omega) hcap
  obtain ⟨hci1, hci2, _⟩ := (cut_runC einfo_ent (A := A) (m := m) (c := c))
  have q3 : ∀ W, (Instr.sliceAt 26 (.slice A m c) none (some (.int .i64 (k : Int))) none).run Tryd.prog W = .ok (.slice A k c) W := fun W => (hci2 W .i64 k (by omega)).1
  have q4 : ∀ W, (Instr.slice 26 (.slice A m c) none (some (.int .i64 (k : Int))) none).run Tryd.prog W = .ok (.slice A k c) W := fun W => (hci2 W .i64 k (by omega)).2
  have q1 : ∀ W, (Instr.sliceAt 26 (.slice A m c) (some (.int .i64 ((k : Int) + 1))) none none).run Tryd.prog W = .ok (.slice (cutA A c 7 (k + 1)) (m - (k + 1)) (c - (k + 1))) W := fun W => by have := (hci1 W .i64 (k + 1) (by omega) hcap).1; simpa using this
  have q2 : ∀ W, (Instr.slice 26 (.slice A m c) (some (.int .i64 ((k : Int) + 1))) none none).run Tryd.prog W = .ok (.slice (cutA A c 7 (k + 1)) (m - (k + 1)) (c - (k + 1))) W := fun W => by have := (hci1 W .i64 (k + 1) (by omega) hcap).2; simpa using this
  have i5 : IntKind.i64.wrap ((k : Int) + 1) = (k : Int) + 1 := IntWalk.i64_in _ (by omega)
  have ho0 : OsC entC 30 7 (w.alloc (.cells #[] 30)).drew w.heap.size (some ⟨w.heap.size, 0, none⟩) 0 0 [] := (OsC.new0 (cs := entC) (e := 30) (k := 7) w w.heap.size (Nat.le_refl _) entC_len entC_cell).ext (Ext.refl _).drew
  have hEa : Ext w (w.alloc (.cells #[] 30)).drew := ((Ext.refl w).alloc _).drew
  clear hci1 hci2
  go_enter Tryd.func66, Tryd.ntmps66
  go_wp2
  first
  | (go_region_law (first
      | (refine step_appC einfo_ent rfl _ _ rfl ho2 rfl (hsr.ext hE2) rfl (by have := ho2.len; simp at this; omega) hE2.size_le ?_; intro A3 m3 c3 w3 ho3 hg3 hat3)
      | (refine step_appC einfo_ent rfl _ _ rfl ho0 rfl (hsl.ext hEa) rfl (by omega) hEa.size_le ?_; intro A2 m2 c2 w2 ho2 hg2 hat2; have hE2 := hEa.grown hg2 (fun j hj => by simp [ob] at hj; omega))
      | fail))
  | fail
  all_goals
    have hE3 := hE2.grown hg3 ho2.ge
    go_wp2
    go_ret
    exact ⟨⟨A3, m3, c3, rfl, by simpa using ho3⟩, hE3⟩
set_option maxHeartbeats 6400000 in
theorem rinserted_any {A : Option Addr} {m c : Nat} {l : List Ent} (hs : SlC entC 7 w A m l) (hcap : m ≤ c) (x : Ent) {k : Nat} (hk : k ≤ m) (hm : m ≤ 4000) :
    Calls Tryd.prog 69 #[.slice A m c, entV x, .int .i64 k] w fun e w' => (∃ A m c, e = .returned (.slice A m c) ∧ OsC entC 30 7 w' w.heap.size A m c (l.take k ++ [x] ++ l.drop k)) ∧ Ext w w' := by
  obtain ⟨⟨bid, bsrc, btgt, bcom, bfl, bst, bfd⟩, bhc, bhf, bhd⟩ := x
  have HCB : Hid (entV ⟨⟨bid, bsrc, btgt, bcom, bfl, bst, bfd⟩, bhc, bhf, bhd⟩ = .agg #[.string bid, .string bsrc, .string btgt, .slice bhc.A bhc.m bhc.c, .slice bhf.A bhf.m bhf.c, .int .i64 bst, .slice bhd.A bhd.m bhd.c]) := rfl
  have HCL : Hid ([(⟨⟨bid, bsrc, btgt, bcom, bfl, bst, bfd⟩, bhc, bhf, bhd⟩ : Ent)].flatMap entC = [.string bid, .string bsrc, .string btgt, .slice bhc.A bhc.m bhc.c, .slice bhf.A bhf.m bhf.c, .int .i64 bst, .slice bhd.A bhd.m bhd.c]) := rfl
  rw [HCB.out]
  obtain ⟨x, hxx⟩ : ∃ x, x = (⟨⟨bid, bsrc, btgt, bcom, bfl, bst, bfd⟩, bhc, bhf, bhd⟩ : Ent) := ⟨_, rfl⟩
  rw [← hxx] at HCL ⊢
  clear HCB hxx
  have hlen := Lib.hid hs.len
  have hsl := hs.take_ (i := k) (by omega)
  have hsr := hs.cut (i := k) (by omega) hcap
  obtain ⟨hci1, hci2, _⟩ := (cut_runC einfo_ent (A := A) (m := m) (c := c))
  have q3 : ∀ W, (Instr.sliceAt 26 (.slice A m c) none (some (.int .i64 (k : Int))) none).run Tryd.prog W = .ok (.slice A k c) W := fun W => (hci2 W .i64 k (by omega)).1
  have q4 : ∀ W, (Instr.slice 26 (.slice A m c) none (some (.int .i64 (k : Int))) none).run Tryd.prog W = .ok (.slice A k c) W := fun W => (hci2 W .i64 k (by omega)).2
  have q1 : ∀ W, (Instr.sliceAt 26 (.slice A m c) (some (.int .i64 (k : Int))) none none).run Tryd.prog W = .ok (.slice (cutA A c 7 k) (m - k) (c - k)) W := fun W => by have := (hci1 W .i64 k (by omega) hcap).1; simpa using this
  have q2 : ∀ W, (Instr.slice 26 (.slice A m c) (some (.int .i64 (k : Int))) none none).run Tryd.prog W = .ok (.slice (cutA A c 7 k) (m - k) (c - k)) W := fun W => by have := (hci1 W .i64 k (by omega) hcap).2; simpa using this
  clear hci1 hci2
  have i6 : (k : Int) ≤ (m : Int) := by omega
  obtain ⟨X, hX⟩ : ∃ X, X = Obj.cells #[.string bid, .string bsrc, .string btgt, .slice bhc.A bhc.m bhc.c, .slice bhf.A bhf.m bhf.c, .int .i64 bst, .slice bhd.A bhd.m bhd.c] 30 := ⟨_, rfl⟩
  obtain ⟨w0, hw0⟩ : ∃ w0, w0 = w.alloc X := ⟨_, rfl⟩
  have hb0 : Blk w0 w.heap.size 30 #[.string bid, .string bsrc, .string btgt, .slice bhc.A bhc.m bhc.c, .slice bhf.A bhf.m bhf.c, .int .i64 bst, .slice bhd.A bhd.m bhd.c] := by rw [hw0, hX]; exact Blk.new w _ _
  obtain ⟨g, hg⟩ : ∃ g, g = w.heap.size := ⟨_, rfl⟩
  rw [← hg] at hb0
  have Y0 := laters (show w0.cell? ⟨g, 0, none⟩ = some (.string bid) from hb0.cell 0)
  have Y1 := laters (show w0.cell? ⟨g, 1, none⟩ = some (.string bsrc) from hb0.cell 1)
  have Y2 := laters (show w0.cell? ⟨g, 2, none⟩ = some (.string btgt) from hb0.cell 2)
  have Y3 := laters (show w0.cell? ⟨g, 3, none⟩ = some (.slice bhc.A bhc.m bhc.c) from hb0.cell 3)
  have Y4 := laters (show w0.cell? ⟨g, 4, none⟩ = some (.slice bhf.A bhf.m bhf.c) from hb0.cell 4)
  have Y5 := laters (show w0.cell? ⟨g, 5, none⟩ = some (.int .i64 bst) from hb0.cell 5)
  have Y6 := laters (show w0.cell? ⟨g, 6, none⟩ = some (.slice bhd.A bhd.m bhd.c) from hb0.cell 6)
  have hE0 : Ext w w0 := by rw [hw0]; exact (Ext.refl w).alloc _
  have hsz : w.heap.size ≤ w0.heap.size := hE0.size_le
  have hoA : OsC entC 30 7 (w0.alloc (.cells #[] 30)).drew w0.heap.size (some ⟨w0.heap.size, 0, none⟩) 0 0 [] := (OsC.new0 (cs := entC) (e := 30) (k := 7) w0 w0.heap.size (Nat.le_refl _) entC_len entC_cell).ext (Ext.refl _).drew
  have hnA : ∀ W : World, SlC entC 7 (W.alloc (Obj.cells #[.string bid, .string bsrc, .string btgt, .slice bhc.A bhc.m bhc.c, .slice bhf.A bhf.m bhf.c, .int .i64 bst, .slice bhd.A bhd.m bhd.c] 30)) (some ⟨W.heap.size, 0, none⟩) 1 [x] := fun W => SlC.new_ (cs := entC) W [x] entC_len (by simp) _ (by rw [HCL.out]) (0, 0) 1 rfl 30
  have hoB : OsC entC 30 7 ((w0.alloc (.cells #[] 30)).alloc (Obj.cells #[.string bid, .string bsrc, .string btgt, .slice bhc.A bhc.m bhc.c, .slice bhf.A bhf.m bhf.c, .int .i64 bst, .slice bhd.A bhd.m bhd.c] 30)).drew w0.heap.size (some ⟨w0.heap.size, 0, none⟩) 0 0 [] := (OsC.new0 (cs := entC) (e := 30) (k := 7) w0 w0.heap.size (Nat.le_refl _) entC_len entC_cell).ext ((Ext.refl _).alloc _).drew
  have hoC : OsC entC 30 7 ((w0.alloc (Obj.cells #[.string bid, .string bsrc, .string btgt, .slice bhc.A bhc.m bhc.c, .slice bhf.A bhf.m bhf.c, .int .i64 bst, .slice bhd.A bhd.m bhd.c] 30)).alloc (.cells #[] 30)).drew w0.heap.size (some ⟨w0.heap.size + 1, 0, none⟩) 0 0 [] := by
    have h9 := (OsC.new0 (cs := entC) (e := 30) (k := 7) (w0.alloc (Obj.cells #[.string bid, .string bsrc, .string btgt, .slice bhc.A bhc.m bhc.c, .slice bhf.A bhf.m bhf.c, .int .i64 bst, .slice bhd.A bhd.m bhd.c] 30)) w0.heap.size (by simp) entC_len entC_cell).ext (Ext.refl _).drew
    simpa using h9
  have hnB : SlC entC 7 ((w0.alloc (.cells #[] 30)).alloc (Obj.cells #[.string bid, .string bsrc, .string btgt, .slice bhc.A bhc.m bhc.c, .slice bhf.A bhf.m bhf.c, .int .i64 bst, .slice bhd.A bhd.m bhd.c] 30)).drew (some ⟨w0.heap.size + 1, 0, none⟩) 1 [x] := by
    have h9 := (hnA (w0.alloc (.cells #[] 30))).ext (Ext.refl _).drew
    simpa using h9
  have hnC : SlC entC 7 ((w0.alloc (Obj.cells #[.string bid, .string bsrc, .string btgt, .slice bhc.A bhc.m bhc.c, .slice bhf.A bhf.m bhf.c, .int .i64 bst, .slice bhd.A bhd.m bhd.c] 30)).alloc (.cells #[] 30)).drew (some ⟨w0.heap.size, 0, none⟩) 1 [x] := (hnA w0).ext ((Ext.refl _).alloc _).drew
  go_enter Tryd.func69, Tryd.ntmps69
  go_wp2
  rw [← hX, ← hw0, ← hg]
  clear hw0 hg hX
  first
  | (go_region_law (first
      | (refine step_appC einfo_ent rfl _ _ rfl ho3 rfl (hsr.ext (hE0.trans hE03)) rfl (by have := ho3.len; simp at this; omega) hE03.size_le ?_; intro A4 m4 c4 w4 ho4 hg4 hat4)
      | (refine step_appC einfo_ent rfl _ _ rfl ho2 rfl hn2 rfl (by have := ho2.len; simp at this; omega) hE02.size_le ?_; intro A3 m3 c3 w3 ho3 hg3 hat3; have hE03 := hE02.grown hg3 ho2.ge)
      | (refine step_appC einfo_ent rfl _ _ rfl (ho2.ext ((Ext.refl w2).alloc _)) rfl (hnA w2) rfl (by have := ho2.len; simp at this; omega) (hE02.alloc _).size_le ?_; intro A3 m3 c3 w3 ho3 hg3 hat3; have hE03 := (hE02.alloc _).grown hg3 ho2.ge)
      | (refine step_appC einfo_ent rfl _ _ rfl hoA rfl (hsl.ext (hE0.trans ((Ext.refl w0).alloc _).drew)) rfl (by omega) (by simp <;> omega) ?_; intro A2 m2 c2 w2 ho2 hg2 hat2; have hE02 : Ext w0 w2 := ((Ext.refl w0).alloc _).drew.grown hg2 (fun j hj => by simp [ob] at hj; omega))
      | (refine step_appC einfo_ent rfl _ _ rfl hoB rfl (hsl.ext (hE0.trans (((Ext.refl w0).alloc _).alloc _).drew)) rfl (by omega) (by simp <;> omega) ?_; intro A2 m2 c2 w2 ho2 hg2 hat2; have hE02 : Ext w0 w2 := (((Ext.refl w0).alloc _).alloc _).drew.grown hg2 (fun j hj => by simp [ob] at hj; omega); have hn2 := hnB.kept hg2 (.inr (by simp [ob])))
      | (refine step_appC einfo_ent rfl _ _ rfl hoC rfl (hsl.ext (hE0.trans (((Ext.refl w0).alloc _).alloc _).drew)) rfl (by omega) (by simp <;> omega) ?_; intro A2 m2 c2 w2 ho2 hg2 hat2; have hE02 : Ext w0 w2 := (((Ext.refl w0).alloc _).alloc _).drew.grown hg2 (fun j hj => by simp [ob] at hj; omega); have hn2 := hnC.kept hg2 (.inr (by simp [ob])))
      | fail))
  | fail
  all_goals
    have hE04 := hE03.grown hg4 ho3.ge
    go_wp2
    go_ret
    exact ⟨⟨A4, m4, c4, rfl, by simpa using ho4.mono hsz⟩, hE0.trans hE04⟩
end

end Go.Proofs.YtikbjaopcminaaaDoor

/- The reference's Remove. -/
namespace Go.Proofs.YtikbjaopcminaaaDoor
open Go.RowKit
set_option maxRecDepth 100000
attribute [local go_sem] ext_refl_t ext_alloc_t ext_drew_t ext_drewN_t ext_alloc2_t ext_alloc3_t ext_alloc4_t ext_alloc5_t ext_alloc6_t ext_alloc7_t ext_alloc8_t ext_alloc1d_t ext_alloc2d_t ext_alloc3d_t ext_alloc4d_t
theorem cat0_W (w : World) : CatW w cat0 := (CatO.zero w 0).w (by show (0 : Nat) ≤ _; omega)
theorem CatW.withE {w : World} {x : Cat} (hx : CatW w x) {base : Nat} {A : Option Addr} {m c : Nat} {es : List Ent} (ho : OsC entC 30 7 w base A m c es) (hm : m ≤ 1000000) (hg : ∀ z ∈ es, EntW w z) : CatW w (x.withE es ⟨A, m, c⟩) :=
  ⟨hx.tag, hx.c, hx.d, ⟨ho.sl, ho.cap, by show m * 128 ≤ _; omega, hg⟩⟩
theorem withE_p (x : Cat) (es : List Ent) (e : SlH) : (x.withE es e).p = ⟨x.tag, x.com, x.fd, es.map Ent.p⟩ := rfl
section
variable {w : World}
set_option maxHeartbeats 12800000 in
theorem rremove_any {x : Cat} (hx : CatW w x) (id : ByteArray) :
    Calls Tryd.prog 26 #[catV x, .string id] w fun e w' => (∃ (y : Cat) (code : Int), e = .returned (.tuple #[catV y, .int .i64 code]) ∧ RemR x.p id y.p code ∧ CatW w' y ∧ ∀ z ∈ y.es, z ∈ x.es) ∧ Ext w w' := by
  obtain ⟨W0, hW0⟩ : ∃ W0, W0 = (w.alloc (Obj.cells #[.string x.tag, .slice x.c.A x.c.m x.c.c, .slice x.d.A x.d.m x.d.c, .slice x.e.A x.e.m x.e.c] 28)).alloc (Obj.cells #[.string ⟨#[]⟩, .slice none 0 0, .slice none 0 0, .slice none 0 0] 28) := ⟨_, rfl⟩
  have hb0 : Blk W0 w.heap.size 28 #[.string x.tag, .slice x.c.A x.c.m x.c.c, .slice x.d.A x.d.m x.d.c, .slice x.e.A x.e.m x.e.c] := by
    rw [hW0]; exact (Blk.new w _ _).alloc _
  have hb1 : Blk W0 (w.heap.size + 1) 28 #[.string ⟨#[]⟩, .slice none 0 0, .slice none 0 0, .slice none 0 0] := by
    rw [hW0]; exact Blk.new1 w _ _ _
  have hEW0 : Ext w W0 := by rw [hW0]; exact ((Ext.refl w).alloc _).alloc _
  have hsz0 : W0.heap.size = w.heap.size + 2 := by rw [hW0]; simp
  have HIDV : Hid (∀ y : Cat, catV y = .agg #[.string y.tag, .slice y.c.A y.c.m y.c.c, .slice y.d.A y.d.m y.d.c, .slice y.e.A y.e.m y.e.c]) := fun _ => rfl
  have hval := rvalid_any (hx.ext hEW0)
  rw [HIDV.out x] at hval ⊢
  obtain ⟨g, hg⟩ : ∃ g, g = w.heap.size := ⟨_, rfl⟩
  have HG := Lib.hid hg
  have HSZ := Lib.hid hsz0
  go_enter Tryd.func26, Tryd.ntmps26
  go_wp2_with (first
    | (go_at_call 22; refine Hid.out ?_))
  rw [← hW0, ← hg]
  rw [← hg] at hb0 hb1
  refine Hid.mk_ (hval.mono ?_)
  rintro e w1 ⟨rfl, hE1⟩
  have X0 := laters (show _ = some (.string x.tag) from hb0.cell 0)
  have X1 := laters (show _ = some (.slice x.c.A x.c.m x.c.c) from hb0.cell 1)
  have X2 := laters (show _ = some (.slice x.d.A x.d.m x.d.c) from hb0.cell 2)
  have X3 := laters (show _ = some (.slice x.e.A x.e.m x.e.c) from hb0.cell 3)
  have hEw1 := hEW0.trans hE1
  clear hW0 hg hsz0 hval
  cases hv : validC x.p with
  | false =>
    have hr1 := hb1.below hE1 hb1.lt
    have s0 := hr1.cell 0
    have s1 := hr1.cell 1
    have s2 := hr1.cell 2
    have s3 := hr1.cell 3
    have t0 := hr1.frozen 0
    have t1 := hr1.frozen 1
    have t2 := hr1.frozen 2
    have t3 := hr1.frozen 3
    have HBR : Hid (Blk w1 (g + 1) 28 _) := hr1
    clear hr1
    have HR : Hid (RemR x.p id cp0 1) := .inl ⟨hv, rfl, rfl⟩
    clear hv
    go_wp2
    refine bodyPost_ret (results_cell_row_tmp' rfl _ _ (g + 1) 28 #[.string ⟨#[]⟩, .slice none 0 0, .slice none 0 0, .slice none 0 0] (0, 0) _ rfl ((((HBR.out.set_ 0 _).set_ 1 _).set_ 2 _).set_ 3 _) Tryd.underlying28 rfl info_cat4) rfl ?_
    refine ⟨⟨cat0, _, rfl, HR.out, cat0_W _, fun z h => (by cases h)⟩, ?_⟩
    iterate 4 refine Ext.set_ ?_ (by show w.heap.size ≤ g + 1; rw [HG.out]; omega) _
    exact hEw1
  | true =>
  have HV := Lib.hid hv
  clear hv
  have hfd := refFind_any (hx.ext hEw1) id
  rw [HIDV.out x] at hfd
  go_wp2_with (first
    | (go_at_call 35; refine Hid.out ?_))
  refine Hid.mk_ ((hfd).mono ?_)
  rintro e w2 ⟨⟨z, hz, rfl⟩, hE2⟩
  have HZ := Lib.hid hz
  have hE02 := hE1.trans hE2
  have hEw2 := hEw1.trans hE2
  clear hfd
  rcases hz.cases_ with rfl | ⟨k, rfl⟩
  · clear hz
    have HFV : Hid (FindV (-1) = .tuple #[.int .i64 0, .bool false]) := rfl
    rw [HFV.out]
    have hr1 := hb1.below hE02 hb1.lt
    have s0 := hr1.cell 0
    have s1 := hr1.cell 1
    have s2 := hr1.cell 2
    have s3 := hr1.cell 3
    have t0 := hr1.frozen 0
    have t1 := hr1.frozen 1
    have t2 := hr1.frozen 2
    have t3 := hr1.frozen 3
    have HBR : Hid (Blk w2 (g + 1) 28 _) := hr1
    clear hr1
    have HR : Hid (RemR x.p id cp0 8) := .inr (.inl ⟨HV.out, HZ.out, rfl, rfl⟩)
    go_wp2
    refine bodyPost_ret (results_cell_row_tmp' rfl _ _ (g + 1) 28 #[.string ⟨#[]⟩, .slice none 0 0, .slice none 0 0, .slice none 0 0] (0, 0) _ rfl ((((HBR.out.set_ 0 _).set_ 1 _).set_ 2 _).set_ 3 _) Tryd.underlying28 rfl info_cat4) rfl ?_
    refine ⟨⟨cat0, _, rfl, HR.out, cat0_W _, fun z h => (by cases h)⟩, ?_⟩
    iterate 4 refine Ext.set_ ?_ (by show w.heap.size ≤ g + 1; rw [HG.out]; omega) _
    exact hEw2
  · have hklt := hz.lt
    clear hz
    have HFV : Hid (FindV (k : Int) = .tuple #[.int .i64 k, .bool true]) := by show FindV _ = _; unfold FindV; rw [if_pos (by omega), decide_eq_true (by omega)]
    rw [HFV.out]
    have hpes : x.p.es.length = x.es.length := List.length_map _
    have hm : x.e.m = x.es.length := hx.e.sl.len
    have hkm : k < x.e.m := by omega
    have hm1 : x.e.m ≤ 1000 := by rw [hm, ← hpes]; exact validC_len HV.out
    have hcap := hx.e.cap
    have HKL := Lib.hid hklt
    have HWI : Hid (∀ (W : World) (A : Option Addr) (m c : Nat), Calls Tryd.prog 65 #[.agg #[.string x.tag, .slice x.c.A x.c.m x.c.c, .slice x.d.A x.d.m x.d.c, .slice x.e.A x.e.m x.e.c], .slice A m c] W fun e w' => e = .returned (.agg #[.string x.tag, .slice x.c.A x.c.m x.c.c, .slice x.d.A x.d.m x.d.c, .slice A m c]) ∧ Ext W w') := fun W A m c => rwith_any (w := W) x A m c []
    have hE02d := hE02.drew
    have hEw2d := hEw2.drew
    have hle1 : g + 1 < w2.heap.size := Nat.lt_of_lt_of_le hb1.lt hE02.size_le
    clear hklt hpes hm
    go_wp2
    first
    | (go_region_law (first
        | (go_simp; go_at_call 65; refine (HWI.out _ A4 m4 c4).mono ?_; rintro e w5 ⟨rfl, hE5⟩; have hE05 := hE04.trans hE5; have hr1 := hb1.below hE05 hb1.lt; have s0 := hr1.cell 0; have s1 := hr1.cell 1; have s2 := hr1.cell 2; have s3 := hr1.cell 3; have t0 := hr1.frozen 0; have t1 := hr1.frozen 1; have t2 := hr1.frozen 2; have t3 := hr1.frozen 3; have HBR : Hid (Blk w5 (g + 1) 28 _) := hr1; clear hr1)
        | (go_simp; go_at_call 66; refine (rwithout_any (hx.e.sl.ext hEw2d) hcap hkm (by omega)).mono ?_; rintro e w4 ⟨⟨A4, m4, c4, rfl, ho4⟩, hE4⟩; have hE04 := hE02d.trans hE4; have hEw4 := hEw2d.trans hE4)
        | fail))
    | fail
    all_goals
      have HR : Hid (RemR x.p id (x.withE (x.es.take k ++ x.es.drop (k + 1)) ⟨A4, m4, c4⟩).p 0) := .inr (.inr ⟨HV.out, k, HZ.out, HKL.out, rfl, by rw [withE_p, List.map_append, List.map_take, List.map_drop]; rfl⟩)
      have hm4 : m4 ≤ 1000 := by
        have h1 := ho4.len
        have h2 := hx.e.sl.len
        rw [List.length_append, List.length_take, List.length_drop] at h1
        omega
      have hne : ob A4 = none ∨ ob A4 ≠ some (g + 1) := by
        cases hA : ob A4 with
        | none => exact .inl rfl
        | some j => exact .inr (fun e => by injection e with e; have h1 := ho4.ge j hA; have h2 : w2.drew.heap.size = w2.heap.size := rfl; omega)
      go_wp2
      refine bodyPost_ret (results_cell_row_tmp' rfl _ _ (g + 1) 28 #[.string x.tag, .slice x.c.A x.c.m x.c.c, .slice x.d.A x.d.m x.d.c, .slice A4 m4 c4] (0, 0) _ rfl ((((HBR.out.set_ 0 _).set_ 1 _).set_ 2 _).set_ 3 _) Tryd.underlying28 rfl info_cat4) rfl ?_
      have hmem : ∀ z ∈ x.es.take k ++ x.es.drop (k + 1), z ∈ x.es := fun z hz => by
        rcases List.mem_append.1 hz with h9 | h9
        · exact List.mem_of_mem_take h9
        · exact List.mem_of_mem_drop h9
      refine ⟨⟨x.withE (x.es.take k ++ x.es.drop (k + 1)) ⟨A4, m4, c4⟩, 0, rfl, HR.out, ?_, hmem⟩, ?_⟩
      · refine CatW.withE (base := w2.drew.heap.size) (hx.ext ?_) ?_ (by omega) (fun z hz => EntW.ext (hx.e.good z (hmem z hz)) ?_)
        · iterate 4 refine Ext.set_ ?_ (by show w.heap.size ≤ g + 1; rw [HG.out]; omega) _
          exact hEw4.trans hE5
        · iterate 4 refine OsC.kept ?_ (grown_set _ ⟨g + 1, _, none⟩ _) hne
          exact ho4.ext hE5
        · iterate 4 refine Ext.set_ ?_ (by show w.heap.size ≤ g + 1; rw [HG.out]; omega) _
          exact hEw4.trans hE5
      · iterate 4 refine Ext.set_ ?_ (by show w.heap.size ≤ g + 1; rw [HG.out]; omega) _
        exact hEw4.trans hE5
end

end Go.Proofs.YtikbjaopcminaaaDoor

/- The reference's Move. -/
namespace Go.Proofs.YtikbjaopcminaaaDoor
open Go.RowKit
set_option maxRecDepth 100000
attribute [local go_sem] ext_refl_t ext_alloc_t ext_drew_t ext_drewN_t ext_alloc2_t ext_alloc3_t ext_alloc4_t ext_alloc5_t ext_alloc6_t ext_alloc7_t ext_alloc8_t ext_alloc1d_t ext_alloc2d_t ext_alloc3d_t ext_alloc4d_t
section
variable {w : World}
set_option maxHeartbeats 12800000 in
theorem rmove_any {x : Cat} (hx : CatW w x) (id : ByteArray) (at_ : Int) (hat1 : -9223372036854775808 ≤ at_) (hat2 : at_ ≤ 9223372036854775807) :
    Calls Tryd.prog 28 #[catV x, .string id, .int .i64 at_] w fun e w' => (∃ (y : Cat) (code : Int), e = .returned (.tuple #[catV y, .int .i64 code]) ∧ MovR x.p id at_ y.p code ∧ CatW w' y ∧ ∀ z ∈ y.es, z ∈ x.es) ∧ Ext w w' := by
  obtain ⟨W0, hW0⟩ : ∃ W0, W0 = (w.alloc (Obj.cells #[.string x.tag, .slice x.c.A x.c.m x.c.c, .slice x.d.A x.d.m x.d.c, .slice x.e.A x.e.m x.e.c] 28)).alloc (Obj.cells #[.string ⟨#[]⟩, .slice none 0 0, .slice none 0 0, .slice none 0 0] 28) := ⟨_, rfl⟩
  have hb0 : Blk W0 w.heap.size 28 #[.string x.tag, .slice x.c.A x.c.m x.c.c, .slice x.d.A x.d.m x.d.c, .slice x.e.A x.e.m x.e.c] := by
    rw [hW0]; exact (Blk.new w _ _).alloc _
  have hb1 : Blk W0 (w.heap.size + 1) 28 #[.string ⟨#[]⟩, .slice none 0 0, .slice none 0 0, .slice none 0 0] := by
    rw [hW0]; exact Blk.new1 w _ _ _
  have hEW0 : Ext w W0 := by rw [hW0]; exact ((Ext.refl w).alloc _).alloc _
  have hsz0 : W0.heap.size = w.heap.size + 2 := by rw [hW0]; simp
  have HIDV : Hid (∀ y : Cat, catV y = .agg #[.string y.tag, .slice y.c.A y.c.m y.c.c, .slice y.d.A y.d.m y.d.c, .slice y.e.A y.e.m y.e.c]) := fun _ => rfl
  have hrem := rremove_any (hx.ext hEW0) id
  rw [HIDV.out x] at hrem ⊢
  obtain ⟨g, hg⟩ : ∃ g, g = w.heap.size := ⟨_, rfl⟩
  have HG := Lib.hid hg
  have HSZ := Lib.hid hsz0
  have HG1 : Hid (g + 1 < W0.heap.size) := by show _ < _; omega
  go_enter Tryd.func28, Tryd.ntmps28
  go_wp2_with (first
    | (go_at_call 26; refine Hid.out ?_))
  rw [← hW0, ← hg]
  rw [← hg] at hb0 hb1
  refine Hid.mk_ (hrem.mono ?_)
  rintro e w1 ⟨⟨y, code, rfl, hRR, hyW, hyx⟩, hE1⟩
  rw [HIDV.out y]
  have hEw1 := hEW0.trans hE1
  have hEal : Ext w1 (w1.alloc (Obj.cells #[.string y.tag, .slice y.c.A y.c.m y.c.c, .slice y.d.A y.d.m y.d.c, .slice y.e.A y.e.m y.e.c] 28)) := (Ext.refl _).alloc _
  have hbO := Blk.new w1 28 #[.string y.tag, .slice y.c.A y.c.m y.c.c, .slice y.d.A y.d.m y.d.c, .slice y.e.A y.e.m y.e.c]
  have X0 := laters (show _ = some (.string x.tag) from hb0.cell 0)
  have X1 := laters (show _ = some (.slice x.c.A x.c.m x.c.c) from hb0.cell 1)
  have X2 := laters (show _ = some (.slice x.d.A x.d.m x.d.c) from hb0.cell 2)
  have X3 := laters (show _ = some (.slice x.e.A x.e.m x.e.c) from hb0.cell 3)
  have HRR := Lib.hid hRR
  clear hW0 hg hsz0 hrem
  have hcode : (code = 1 ∨ code = 8) ∧ y.p = cp0 ∨ code = 0 := by
    rcases hRR with ⟨_, h, h2⟩ | ⟨_, _, h, h2⟩ | ⟨_, _, _, _, h, _⟩
    · exact .inl ⟨.inl h, h2⟩
    · exact .inl ⟨.inr h, h2⟩
    · exact .inr h
  clear hRR
  rcases hcode with ⟨rfl | rfl, hy0⟩ | rfl
  · have HM : Hid (MovR x.p id at_ cp0 1) := ⟨y.p, 1, HRR.out, .inl ⟨by omega, hy0.symm, rfl⟩⟩
    clear hy0
    have hr1 := hb1.below (hE1.trans hEal) hb1.lt
    have s0 := hr1.cell 0
    have s1 := hr1.cell 1
    have s2 := hr1.cell 2
    have s3 := hr1.cell 3
    have t0 := hr1.frozen 0
    have t1 := hr1.frozen 1
    have t2 := hr1.frozen 2
    have t3 := hr1.frozen 3
    have HBR : Hid (Blk (w1.alloc (Obj.cells #[.string y.tag, .slice y.c.A y.c.m y.c.c, .slice y.d.A y.d.m y.d.c, .slice y.e.A y.e.m y.e.c] 28)) (g + 1) 28 _) := hr1
    clear hr1
    go_wp2
    refine bodyPost_ret (results_cell_row_tmp' rfl _ _ (g + 1) 28 #[.string ⟨#[]⟩, .slice none 0 0, .slice none 0 0, .slice none 0 0] (0, 0) _ rfl ((((HBR.out.set_ 0 _).set_ 1 _).set_ 2 _).set_ 3 _) Tryd.underlying28 rfl info_cat4) rfl ?_
    refine ⟨⟨cat0, _, rfl, HM.out, cat0_W _, fun z h => (by cases h)⟩, ?_⟩
    iterate 4 refine Ext.set_ ?_ (by show w.heap.size ≤ g + 1; rw [HG.out]; omega) _
    exact (hEw1.trans hEal)
  · have HM : Hid (MovR x.p id at_ cp0 8) := ⟨y.p, 8, HRR.out, .inl ⟨by omega, hy0.symm, rfl⟩⟩
    clear hy0
    have hr1 := hb1.below (hE1.trans hEal) hb1.lt
    have s0 := hr1.cell 0
    have s1 := hr1.cell 1
    have s2 := hr1.cell 2
    have s3 := hr1.cell 3
    have t0 := hr1.frozen 0
    have t1 := hr1.frozen 1
    have t2 := hr1.frozen 2
    have t3 := hr1.frozen 3
    have HBR : Hid (Blk (w1.alloc (Obj.cells #[.string y.tag, .slice y.c.A y.c.m y.c.c, .slice y.d.A y.d.m y.d.c, .slice y.e.A y.e.m y.e.c] 28)) (g + 1) 28 _) := hr1
    clear hr1
    go_wp2
    refine bodyPost_ret (results_cell_row_tmp' rfl _ _ (g + 1) 28 #[.string ⟨#[]⟩, .slice none 0 0, .slice none 0 0, .slice none 0 0] (0, 0) _ rfl ((((HBR.out.set_ 0 _).set_ 1 _).set_ 2 _).set_ 3 _) Tryd.underlying28 rfl info_cat4) rfl ?_
    refine ⟨⟨cat0, _, rfl, HM.out, cat0_W _, fun z h => (by cases h)⟩, ?_⟩
    iterate 4 refine Ext.set_ ?_ (by show w.heap.size ≤ g + 1; rw [HG.out]; omega) _
    exact (hEw1.trans hEal)
  · skip
    have hpl : x.p.es.length = x.es.length := List.length_map _
    have hxm : x.e.m = x.es.length := hx.e.sl.len
    have HXM : Hid (x.e.m = x.p.es.length) := by show _ = _; rw [hxm, hpl]
    clear hpl hxm
    by_cases c1 : at_ < 0
    · have HM : Hid (MovR x.p id at_ cp0 2) := ⟨y.p, 0, HRR.out, .inr (.inl ⟨rfl, .inl c1, rfl, rfl⟩)⟩
      have hr1 := hb1.below (hE1.trans hEal) hb1.lt
      have s0 := hr1.cell 0
      have s1 := hr1.cell 1
      have s2 := hr1.cell 2
      have s3 := hr1.cell 3
      have t0 := hr1.frozen 0
      have t1 := hr1.frozen 1
      have t2 := hr1.frozen 2
      have t3 := hr1.frozen 3
      have HBR : Hid (Blk (w1.alloc (Obj.cells #[.string y.tag, .slice y.c.A y.c.m y.c.c, .slice y.d.A y.d.m y.d.c, .slice y.e.A y.e.m y.e.c] 28)) (g + 1) 28 _) := hr1
      clear hr1
      go_wp2
      refine bodyPost_ret (results_cell_row_tmp' rfl _ _ (g + 1) 28 #[.string ⟨#[]⟩, .slice none 0 0, .slice none 0 0, .slice none 0 0] (0, 0) _ rfl ((((HBR.out.set_ 0 _).set_ 1 _).set_ 2 _).set_ 3 _) Tryd.underlying28 rfl info_cat4) rfl ?_
      refine ⟨⟨cat0, _, rfl, HM.out, cat0_W _, fun z h => (by cases h)⟩, ?_⟩
      iterate 4 refine Ext.set_ ?_ (by show w.heap.size ≤ g + 1; rw [HG.out]; omega) _
      exact (hEw1.trans hEal)
    have c1' : (0 : Int) ≤ at_ := by omega
    obtain ⟨a, rfl⟩ : ∃ a : Nat, at_ = a := ⟨at_.toNat, by omega⟩
    by_cases c2 : x.e.m ≤ a
    · have c2i : (x.e.m : Int) ≤ (a : Int) := by omega
      have HM : Hid (MovR x.p id (a : Int) cp0 2) := ⟨y.p, 0, HRR.out, .inr (.inl ⟨rfl, .inr (by rw [← HXM.out]; exact c2i), rfl, rfl⟩)⟩
      have hr1 := hb1.below (hE1.trans hEal) hb1.lt
      have s0 := hr1.cell 0
      have s1 := hr1.cell 1
      have s2 := hr1.cell 2
      have s3 := hr1.cell 3
      have t0 := hr1.frozen 0
      have t1 := hr1.frozen 1
      have t2 := hr1.frozen 2
      have t3 := hr1.frozen 3
      have HBR : Hid (Blk (w1.alloc (Obj.cells #[.string y.tag, .slice y.c.A y.c.m y.c.c, .slice y.d.A y.d.m y.d.c, .slice y.e.A y.e.m y.e.c] 28)) (g + 1) 28 _) := hr1
      clear hr1
      go_wp2
      refine bodyPost_ret (results_cell_row_tmp' rfl _ _ (g + 1) 28 #[.string ⟨#[]⟩, .slice none 0 0, .slice none 0 0, .slice none 0 0] (0, 0) _ rfl ((((HBR.out.set_ 0 _).set_ 1 _).set_ 2 _).set_ 3 _) Tryd.underlying28 rfl info_cat4) rfl ?_
      refine ⟨⟨cat0, _, rfl, HM.out, cat0_W _, fun z h => (by cases h)⟩, ?_⟩
      iterate 4 refine Ext.set_ ?_ (by show w.heap.size ≤ g + 1; rw [HG.out]; omega) _
      exact (hEw1.trans hEal)
    have c2i : ¬ (x.e.m : Int) ≤ (a : Int) := by omega
    have hRR2 : ∃ k : Nat, validC x.p = true ∧ FindZ x.p.es id k ∧ k < x.p.es.length ∧ y.p = ⟨x.p.tag, x.p.com, x.p.fd, x.p.es.take k ++ x.p.es.drop (k + 1)⟩ := by
      rcases HRR.out with ⟨_, h, _⟩ | ⟨_, _, h, _⟩ | ⟨h1, k, h2, h3, _, h4⟩
      · omega
      · omega
      · exact ⟨k, h1, h2, h3, h4⟩
    obtain ⟨k, hvx, hfk, hkl, hyp⟩ := hRR2
    have HVX := Lib.hid hvx; have HFK := Lib.hid hfk; have HKL := Lib.hid hkl; have HYP := Lib.hid hyp
    clear hvx hfk hkl hyp
    have hEw2 := hEw1.trans hEal
    have hE02 := hE1.trans hEal
    have hfd := refFind_any (hx.ext hEw2) id
    rw [HIDV.out x] at hfd
    go_wp2_with (first
      | (go_at_call 35; refine Hid.out ?_))
    refine Hid.mk_ ((hfd).mono ?_)
    rintro e w3 ⟨⟨z, hz, rfl⟩, hE3⟩
    have hzk : z = (k : Int) := hz.uniq HFK.out
    subst hzk
    have HFV : Hid (FindV (k : Int) = .tuple #[.int .i64 k, .bool true]) := by show FindV _ = _; unfold FindV; rw [if_pos (by omega), decide_eq_true (by omega)]
    rw [HFV.out]
    clear hfd hz
    have hE03 := hE02.trans hE3
    have hEw3 := hEw2.trans hE3
    obtain ⟨gO, hgO⟩ : ∃ gO, gO = w1.heap.size := ⟨_, rfl⟩
    have HGO := Lib.hid hgO
    rw [← hgO] at hbO ⊢
    clear hgO
    have hbO3 := hbO.below hE3 hbO.lt
    have hlenx := HXM.out
    have hklt : k < x.es.length := by have h9 := HKL.out; rwa [show x.p.es.length = x.es.length from List.length_map _] at h9
    have hkm : k < x.e.m := by rw [HXM.out]; exact HKL.out
    have hx1000 : x.e.m ≤ 1000 := by rw [HXM.out]; exact validC_len HVX.out
    have hyl : y.e.m = x.e.m - 1 := by
      have h9 := congrArg (fun c : Cp => c.es.length) HYP.out
      have h8 : y.p.es.length = y.es.length := List.length_map _
      have h7 := HKL.out
      simp only [List.length_append, List.length_take, List.length_drop] at h9
      rw [h8] at h9
      rw [hyW.e.sl.len, HXM.out]
      omega
    have HYL := Lib.hid hyl
    obtain ⟨b, off, eA, hbl, hcs⟩ := hx.e.sl.at_ hkm (by omega)
    obtain ⟨v, hvk⟩ : ∃ v, v = x.es[k] := ⟨_, rfl⟩
    have hvW := hx.e.good _ (List.getElem_mem hklt)
    rw [← hvk] at hvW
    have z0 := hcs k hklt 0 (by omega)
    have z1 := hcs k hklt 1 (by omega)
    have z2 := hcs k hklt 2 (by omega)
    have z3 := hcs k hklt 3 (by omega)
    have z4 := hcs k hklt 4 (by omega)
    have z5 := hcs k hklt 5 (by omega)
    have z6 := hcs k hklt 6 (by omega)
    simp only [← hvk, entC, List.getElem_cons_zero, List.getElem_cons_succ, Nat.add_zero, ← Nat.add_assoc] at z0 z1 z2 z3 z4 z5 z6
    have HVK : Hid (∀ h, v = x.es[k]'h) := fun _ => hvk
    have hEd3 : Ext w3 w3.drew := (Ext.refl _).drew
    have Z0 := laters (later hEw3 z0)
    have Z1 := laters (later hEw3 z1)
    have Z2 := laters (later hEw3 z2)
    have Z3 := laters (later hEw3 z3)
    have Z4 := laters (later hEw3 z4)
    have Z5 := laters (later hEw3 z5)
    have Z6 := laters (later hEw3 z6)
    have Y3 := laters (show w3.cell? ⟨gO, 3, none⟩ = some (.slice y.e.A y.e.m y.e.c) from hbO3.cell 3)
    have U0 := laters (X0 _ hE03)
    have U1 := laters (X1 _ hE03)
    have U2 := laters (X2 _ hE03)
    have U3 := laters (X3 _ hE03)
    rw [eA] at U3
    have hkmi : (k : Int) < (x.e.m : Int) := by omega
    have hEwd := hEw3.drew
    have HAM : Hid (a ≤ y.e.m) := by show _ ≤ _; omega
    have HBIG : Hid (y.e.m ≤ 4000) := by show _ ≤ _; omega
    have hle1 : g + 1 < w3.heap.size := Nat.lt_of_lt_of_le hb1.lt hE03.size_le
    have hr3 := hb1.below hE03 hb1.lt
    have HINS : Hid (∀ W : World, Ext w3 W → Calls Tryd.prog 69 #[.slice y.e.A y.e.m y.e.c, .agg #[.string v.p.id, .string v.p.src, .string v.p.tgt, .slice v.c.A v.c.m v.c.c, .slice v.f.A v.f.m v.f.c, .int .i64 v.p.st, .slice v.d.A v.d.m v.d.c], .int .i64 a] W fun e w' => (∃ A m c, e = .returned (.slice A m c) ∧ OsC entC 30 7 w' W.heap.size A m c (y.es.take a ++ [v] ++ y.es.drop a)) ∧ Ext W w') :=
      fun W hE => rinserted_any (hyW.e.sl.ext ((hEal.trans hE3).trans hE)) hyW.e.cap v HAM.out HBIG.out
    have HWI : Hid (∀ (W : World) (A : Option Addr) (m c : Nat), Calls Tryd.prog 65 #[.agg #[.string x.tag, .slice x.c.A x.c.m x.c.c, .slice x.d.A x.d.m x.d.c, .slice (some ⟨b, off, none⟩) x.e.m x.e.c], .slice A m c] W fun e w' => e = .returned (.agg #[.string x.tag, .slice x.c.A x.c.m x.c.c, .slice x.d.A x.d.m x.d.c, .slice A m c]) ∧ Ext W w') := fun W A m c => by
      have h9 := rwith_any (w := W) x A m c []
      rw [HIDV.out x, eA] at h9
      exact h9
    clear hcs hvk z0 z1 z2 z3 z4 z5 z6 hlenx hyl hklt hb0 hb1 X0 X1 X2 X3 eA
    go_wp2
    first
    | (go_region_law (first
        | (go_simp; go_at_call 65; refine (HWI.out _ A4 m4 c4).mono ?_; rintro e w5 ⟨rfl, hE5⟩; have hE35 := hE34.trans hE5; have hr1 := hr3.below hE35 hr3.lt; have s0 := hr1.cell 0; have s1 := hr1.cell 1; have s2 := hr1.cell 2; have s3 := hr1.cell 3; have t0 := hr1.frozen 0; have t1 := hr1.frozen 1; have t2 := hr1.frozen 2; have t3 := hr1.frozen 3; have HBR : Hid (Blk w5 (g + 1) 28 _) := hr1; clear hr1)
        | (go_simp; go_at_call 69; refine (HINS.out _ hEd3).mono ?_; rintro e w4 ⟨⟨A4, m4, c4, rfl, ho4⟩, hE4⟩; have hE34 := hEd3.trans hE4; have hEw4 := hEwd.trans hE4)
        | fail))
    | fail
    all_goals
      have hmem : ∀ z ∈ y.es.take a ++ [v] ++ y.es.drop a, z ∈ x.es := fun z hz => by
        rcases List.mem_append.1 hz with h9 | h9
        · rcases List.mem_append.1 h9 with h8 | h8
          · exact hyx z (List.mem_of_mem_take h8)
          · rw [List.mem_singleton] at h8
            rw [h8, HVK.out (by have h7 := HKL.out; rwa [show x.p.es.length = x.es.length from List.length_map _] at h7)]
            exact List.getElem_mem _
        · exact hyx z (List.mem_of_mem_drop h9)
      have HR : Hid (MovR x.p id (a : Int) (x.withE (y.es.take a ++ [v] ++ y.es.drop a) ⟨A4, m4, c4⟩).p 0) := by
        have h1 := congrArg (fun c : Cp => c.es) HYP.out
        have h2 := congrArg (fun c : Cp => c.tag) HYP.out
        have h3 := congrArg (fun c : Cp => c.com) HYP.out
        have h4 := congrArg (fun c : Cp => c.fd) HYP.out
        have hkl : k < x.es.length := by have h7 := HKL.out; rwa [show x.p.es.length = x.es.length from List.length_map _] at h7
        refine ⟨y.p, 0, HRR.out, .inr (.inr ⟨rfl, a, k, rfl, by rw [← HXM.out]; omega, HFK.out, HKL.out, rfl, ?_⟩)⟩
        have h5 : x.p.es[k]'HKL.out = v.p := by rw [HVK.out hkl]; exact List.getElem_map ..
        rw [withE_p, h5, List.map_append, List.map_append, List.map_take, List.map_drop, h2, h3, h4]
        rfl
      have hm4 : m4 ≤ 1001 := by
        have h1 := ho4.len
        have h2 := hyW.e.sl.len
        have h3 := HYL.out
        rw [List.length_append, List.length_append, List.length_take, List.length_drop] at h1
        simp only [List.length_cons, List.length_nil] at h1
        omega
      have hne : ob A4 = none ∨ ob A4 ≠ some (g + 1) := by
        cases hA : ob A4 with
        | none => exact .inl rfl
        | some j => exact .inr (fun e => by injection e with e; have h1 := ho4.ge j hA; have h2 : w3.drew.heap.size = w3.heap.size := rfl; omega)
      go_wp2
      refine bodyPost_ret (results_cell_row_tmp' rfl _ _ (g + 1) 28 #[.string x.tag, .slice x.c.A x.c.m x.c.c, .slice x.d.A x.d.m x.d.c, .slice A4 m4 c4] (0, 0) _ rfl ((((HBR.out.set_ 0 _).set_ 1 _).set_ 2 _).set_ 3 _) Tryd.underlying28 rfl info_cat4) rfl ?_
      refine ⟨⟨x.withE (y.es.take a ++ [v] ++ y.es.drop a) ⟨A4, m4, c4⟩, 0, rfl, HR.out, ?_, hmem⟩, ?_⟩
      · refine CatW.withE (base := w3.drew.heap.size) (hx.ext ?_) ?_ (by omega) (fun z hz => EntW.ext (hx.e.good z (hmem z hz)) ?_)
        · iterate 4 refine Ext.set_ ?_ (by show w.heap.size ≤ g + 1; rw [HG.out]; omega) _
          exact hEw4.trans hE5
        · iterate 4 refine OsC.kept ?_ (grown_set _ ⟨g + 1, _, none⟩ _) hne
          exact ho4.ext hE5
        · iterate 4 refine Ext.set_ ?_ (by show w.heap.size ≤ g + 1; rw [HG.out]; omega) _
          exact hEw4.trans hE5
      · iterate 4 refine Ext.set_ ?_ (by show w.heap.size ≤ g + 1; rw [HG.out]; omega) _
        exact hEw4.trans hE5
end

end Go.Proofs.YtikbjaopcminaaaDoor
