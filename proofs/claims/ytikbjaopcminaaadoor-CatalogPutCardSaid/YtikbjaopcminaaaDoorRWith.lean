/- The reference's with, without. -/
import Derived.Test.YtikbjaopcminaaaDoorREq
namespace Go.Proofs.YtikbjaopcminaaaDoor
open Go.RowKit
set_option maxRecDepth 100000
attribute [local go_sem] ext_refl_t ext_alloc_t ext_drew_t ext_drewN_t ext_alloc2_t ext_alloc3_t ext_alloc4_t ext_alloc5_t ext_alloc6_t ext_alloc7_t ext_alloc8_t ext_alloc1d_t ext_alloc2d_t ext_alloc3d_t ext_alloc4d_t
theorem Blk.new1 (w : World) (o : Obj) (t : TypeId) (cs : Array Value) : Blk ((w.alloc o).alloc (.cells cs t)) (w.heap.size + 1) t cs := by
  have h := Blk.new (w.alloc o) t cs
  simpa using h
section
variable {w : World}
set_option maxHeartbeats 3200000 in
theorem rwith_any (x : Cat) (A : Option Addr) (m c : Nat) (es : List Ent) :
    Calls Tryd.prog 65 #[catV x, .slice A m c] w fun e w' => e = .returned (catV (x.withE es ⟨A, m, c⟩)) ∧ Ext w w' := by
  obtain ⟨tag, com, fd, es0, hc, hd, he⟩ := x
  have HCA : Hid (catV ⟨tag, com, fd, es0, hc, hd, he⟩ = .agg #[.string tag, .slice hc.A hc.m hc.c, .slice hd.A hd.m hd.c, .slice he.A he.m he.c]) := rfl
  rw [HCA.out]
  go_enter Tryd.func65, Tryd.ntmps65
  go_wp2
  refine bodyPost_ret (results_cell_row rfl _ _ (w.heap.size + 1) 28 #[.string tag, .slice hc.A hc.m hc.c, .slice hd.A hd.m hd.c, .slice A m c] (0, 0) _ rfl (Blk.new1 w _ _ _) Tryd.underlying28 rfl info_cat4) rfl ?_
  exact ⟨rfl, ((Ext.refl w).alloc _).alloc _⟩

set_option maxHeartbeats 3200000 in
theorem rwithout_any {A : Option Addr} {m c : Nat} {l : List Ent} (hs : SlC entC 7 w A m l) (hcap : m ≤ c) {k : Nat} (hk : k < m) (hm : m ≤ 4000) :
    Calls Tryd.prog 66 #[.slice A m c, .int .i64 k] w fun e w' => (∃ A m c, e = .returned (.slice A m c) ∧ OsC entC 30 7 w' w.heap.size A m c (l.take k ++ l.drop (k + 1))) ∧ Ext w w' := by
  have hlen := Lib.hid hs.len
  have hsl := hs.take_ (i := k) (by omega)
  have hsr := hs.cut (i := k + 1) (by omega) hcap
  obtain ⟨hci1, hci2, _⟩ := (cut_runC einfo_ent (A := A) (m := m) (c := c))
  have q3 : ∀ W, (Instr.sliceAt 26 (.slice A m c) none (some (.int .i64 (k : Int))) none).run Tryd.prog W = .ok (.slice A k c) W := fun W => (hci2 W .i64 k (by omega)).1
  have q4 : ∀ W, (Instr.slice 26 (.slice A m c) none (some (.int .i64 (k : Int))) none).run Tryd.prog W = .ok (.slice A k c) W := fun W => (hci2 W .i64 k (by omega)).2
  have q1 : ∀ W, (Instr.sliceAt 26 (.slice A m c) (some (.int .i64 ((k : Int) + 1))) none none).run Tryd.prog W = .ok (.slice (cutA A c 7 (k + 1)) (m - (k + 1)) (c - (k + 1))) W := fun W => by have := (hci1 W .i64 (k + 1) (by omega) hcap).1; simpa using this
  have q2 : ∀ W, (Instr.slice 26 (.slice A m c) (some (.int .i64 ((k : Int) + 1))) none none).run Tryd.prog W = .ok (.slice (cutA A c 7 (k + 1)) (m - (k + 1)) (c - (k + 1))) W := fun W => by have := (hci1 W .i64 (k + 1) (by omega) hcap).2; simpa using this
  have i5 : IntKind.i64.wrap ((k : Int) + 1) = (k : Int) + 1 := IntWalk.i64_in _ (by omega)
  have ho0 : OsC entC 30 7 (w.alloc (.cells #[] 30)).drew w.heap.size (some ⟨w.heap.size, 0, none⟩) 0 0 [] := (OsC.new0 (cs := entC) (e := 30) (k := 7) w w.heap.size (Nat.le_refl _) entC_len entC_cell).ext (Ext.refl _).drew
  have hEa : Ext w (w.alloc (.cells #[] 30)).drew := ((Ext.refl w).alloc _).drew
  clear hci1 hci2
  go_enter Tryd.func66, Tryd.ntmps66
  go_wp2
  first
  | (go_region_law (first
      | (refine step_appC einfo_ent rfl _ _ rfl ho2 rfl (hsr.ext hE2) rfl (by have := ho2.len; simp at this; omega) hE2.size_le ?_; intro A3 m3 c3 w3 ho3 hg3 hat3)
      | (refine step_appC einfo_ent rfl _ _ rfl ho0 rfl (hsl.ext hEa) rfl (by omega) hEa.size_le ?_; intro A2 m2 c2 w2 ho2 hg2 hat2; have hE2 := hEa.grown hg2 (fun j hj => by simp [ob] at hj; omega))
      | fail))
  | fail
  all_goals
    have hE3 := hE2.grown hg3 ho2.ge
    go_wp2
    go_ret
    exact ⟨⟨A3, m3, c3, rfl, by simpa using ho3⟩, hE3⟩
set_option maxHeartbeats 6400000 in
theorem rinserted_any {A : Option Addr} {m c : Nat} {l : List Ent} (hs : SlC entC 7 w A m l) (hcap : m ≤ c) (x : Ent) {k : Nat} (hk : k ≤ m) (hm : m ≤ 4000) :
    Calls Tryd.prog 69 #[.slice A m c, entV x, .int .i64 k] w fun e w' => (∃ A m c, e = .returned (.slice A m c) ∧ OsC entC 30 7 w' w.heap.size A m c (l.take k ++ [x] ++ l.drop k)) ∧ Ext w w' := by
  obtain ⟨⟨bid, bsrc, btgt, bcom, bfl, bst, bfd⟩, bhc, bhf, bhd⟩ := x
  have HCB : Hid (entV ⟨⟨bid, bsrc, btgt, bcom, bfl, bst, bfd⟩, bhc, bhf, bhd⟩ = .agg #[.string bid, .string bsrc, .string btgt, .slice bhc.A bhc.m bhc.c, .slice bhf.A bhf.m bhf.c, .int .i64 bst, .slice bhd.A bhd.m bhd.c]) := rfl
  have HCL : Hid ([(⟨⟨bid, bsrc, btgt, bcom, bfl, bst, bfd⟩, bhc, bhf, bhd⟩ : Ent)].flatMap entC = [.string bid, .string bsrc, .string btgt, .slice bhc.A bhc.m bhc.c, .slice bhf.A bhf.m bhf.c, .int .i64 bst, .slice bhd.A bhd.m bhd.c]) := rfl
  rw [HCB.out]
  obtain ⟨x, hxx⟩ : ∃ x, x = (⟨⟨bid, bsrc, btgt, bcom, bfl, bst, bfd⟩, bhc, bhf, bhd⟩ : Ent) := ⟨_, rfl⟩
  rw [← hxx] at HCL ⊢
  clear HCB hxx
  have hlen := Lib.hid hs.len
  have hsl := hs.take_ (i := k) (by omega)
  have hsr := hs.cut (i := k) (by omega) hcap
  obtain ⟨hci1, hci2, _⟩ := (cut_runC einfo_ent (A := A) (m := m) (c := c))
  have q3 : ∀ W, (Instr.sliceAt 26 (.slice A m c) none (some (.int .i64 (k : Int))) none).run Tryd.prog W = .ok (.slice A k c) W := fun W => (hci2 W .i64 k (by omega)).1
  have q4 : ∀ W, (Instr.slice 26 (.slice A m c) none (some (.int .i64 (k : Int))) none).run Tryd.prog W = .ok (.slice A k c) W := fun W => (hci2 W .i64 k (by omega)).2
  have q1 : ∀ W, (Instr.sliceAt 26 (.slice A m c) (some (.int .i64 (k : Int))) none none).run Tryd.prog W = .ok (.slice (cutA A c 7 k) (m - k) (c - k)) W := fun W => by have := (hci1 W .i64 k (by omega) hcap).1; simpa using this
  have q2 : ∀ W, (Instr.slice 26 (.slice A m c) (some (.int .i64 (k : Int))) none none).run Tryd.prog W = .ok (.slice (cutA A c 7 k) (m - k) (c - k)) W := fun W => by have := (hci1 W .i64 k (by omega) hcap).2; simpa using this
  clear hci1 hci2
  have i6 : (k : Int) ≤ (m : Int) := by omega
  obtain ⟨X, hX⟩ : ∃ X, X = Obj.cells #[.string bid, .string bsrc, .string btgt, .slice bhc.A bhc.m bhc.c, .slice bhf.A bhf.m bhf.c, .int .i64 bst, .slice bhd.A bhd.m bhd.c] 30 := ⟨_, rfl⟩
  obtain ⟨w0, hw0⟩ : ∃ w0, w0 = w.alloc X := ⟨_, rfl⟩
  have hb0 : Blk w0 w.heap.size 30 #[.string bid, .string bsrc, .string btgt, .slice bhc.A bhc.m bhc.c, .slice bhf.A bhf.m bhf.c, .int .i64 bst, .slice bhd.A bhd.m bhd.c] := by rw [hw0, hX]; exact Blk.new w _ _
  obtain ⟨g, hg⟩ : ∃ g, g = w.heap.size := ⟨_, rfl⟩
  rw [← hg] at hb0
  have Y0 := laters (show w0.cell? ⟨g, 0, none⟩ = some (.string bid) from hb0.cell 0)
  have Y1 := laters (show w0.cell? ⟨g, 1, none⟩ = some (.string bsrc) from hb0.cell 1)
  have Y2 := laters (show w0.cell? ⟨g, 2, none⟩ = some (.string btgt) from hb0.cell 2)
  have Y3 := laters (show w0.cell? ⟨g, 3, none⟩ = some (.slice bhc.A bhc.m bhc.c) from hb0.cell 3)
  have Y4 := laters (show w0.cell? ⟨g, 4, none⟩ = some (.slice bhf.A bhf.m bhf.c) from hb0.cell 4)
  have Y5 := laters (show w0.cell? ⟨g, 5, none⟩ = some (.int .i64 bst) from hb0.cell 5)
  have Y6 := laters (show w0.cell? ⟨g, 6, none⟩ = some (.slice bhd.A bhd.m bhd.c) from hb0.cell 6)
  have hE0 : Ext w w0 := by rw [hw0]; exact (Ext.refl w).alloc _
  have hsz : w.heap.size ≤ w0.heap.size := hE0.size_le
  have hoA : OsC entC 30 7 (w0.alloc (.cells #[] 30)).drew w0.heap.size (some ⟨w0.heap.size, 0, none⟩) 0 0 [] := (OsC.new0 (cs := entC) (e := 30) (k := 7) w0 w0.heap.size (Nat.le_refl _) entC_len entC_cell).ext (Ext.refl _).drew
  have hnA : ∀ W : World, SlC entC 7 (W.alloc (Obj.cells #[.string bid, .string bsrc, .string btgt, .slice bhc.A bhc.m bhc.c, .slice bhf.A bhf.m bhf.c, .int .i64 bst, .slice bhd.A bhd.m bhd.c] 30)) (some ⟨W.heap.size, 0, none⟩) 1 [x] := fun W => SlC.new_ (cs := entC) W [x] entC_len (by simp) _ (by rw [HCL.out]) (0, 0) 1 rfl 30
  have hoB : OsC entC 30 7 ((w0.alloc (.cells #[] 30)).alloc (Obj.cells #[.string bid, .string bsrc, .string btgt, .slice bhc.A bhc.m bhc.c, .slice bhf.A bhf.m bhf.c, .int .i64 bst, .slice bhd.A bhd.m bhd.c] 30)).drew w0.heap.size (some ⟨w0.heap.size, 0, none⟩) 0 0 [] := (OsC.new0 (cs := entC) (e := 30) (k := 7) w0 w0.heap.size (Nat.le_refl _) entC_len entC_cell).ext ((Ext.refl _).alloc _).drew
  have hoC : OsC entC 30 7 ((w0.alloc (Obj.cells #[.string bid, .string bsrc, .string btgt, .slice bhc.A bhc.m bhc.c, .slice bhf.A bhf.m bhf.c, .int .i64 bst, .slice bhd.A bhd.m bhd.c] 30)).alloc (.cells #[] 30)).drew w0.heap.size (some ⟨w0.heap.size + 1, 0, none⟩) 0 0 [] := by
    have h9 := (OsC.new0 (cs := entC) (e := 30) (k := 7) (w0.alloc (Obj.cells #[.string bid, .string bsrc, .string btgt, .slice bhc.A bhc.m bhc.c, .slice bhf.A bhf.m bhf.c, .int .i64 bst, .slice bhd.A bhd.m bhd.c] 30)) w0.heap.size (by simp) entC_len entC_cell).ext (Ext.refl _).drew
    simpa using h9
  have hnB : SlC entC 7 ((w0.alloc (.cells #[] 30)).alloc (Obj.cells #[.string bid, .string bsrc, .string btgt, .slice bhc.A bhc.m bhc.c, .slice bhf.A bhf.m bhf.c, .int .i64 bst, .slice bhd.A bhd.m bhd.c] 30)).drew (some ⟨w0.heap.size + 1, 0, none⟩) 1 [x] := by
    have h9 := (hnA (w0.alloc (.cells #[] 30))).ext (Ext.refl _).drew
    simpa using h9
  have hnC : SlC entC 7 ((w0.alloc (Obj.cells #[.string bid, .string bsrc, .string btgt, .slice bhc.A bhc.m bhc.c, .slice bhf.A bhf.m bhf.c, .int .i64 bst, .slice bhd.A bhd.m bhd.c] 30)).alloc (.cells #[] 30)).drew (some ⟨w0.heap.size, 0, none⟩) 1 [x] := (hnA w0).ext ((Ext.refl _).alloc _).drew
  go_enter Tryd.func69, Tryd.ntmps69
  go_wp2
  rw [← hX, ← hw0, ← hg]
  clear hw0 hg hX
  first
  | (go_region_law (first
      | (refine step_appC einfo_ent rfl _ _ rfl ho3 rfl (hsr.ext (hE0.trans hE03)) rfl (by have := ho3.len; simp at this; omega) hE03.size_le ?_; intro A4 m4 c4 w4 ho4 hg4 hat4)
      | (refine step_appC einfo_ent rfl _ _ rfl ho2 rfl hn2 rfl (by have := ho2.len; simp at this; omega) hE02.size_le ?_; intro A3 m3 c3 w3 ho3 hg3 hat3; have hE03 := hE02.grown hg3 ho2.ge)
      | (refine step_appC einfo_ent rfl _ _ rfl (ho2.ext ((Ext.refl w2).alloc _)) rfl (hnA w2) rfl (by have := ho2.len; simp at this; omega) (hE02.alloc _).size_le ?_; intro A3 m3 c3 w3 ho3 hg3 hat3; have hE03 := (hE02.alloc _).grown hg3 ho2.ge)
      | (refine step_appC einfo_ent rfl _ _ rfl hoA rfl (hsl.ext (hE0.trans ((Ext.refl w0).alloc _).drew)) rfl (by omega) (by simp <;> omega) ?_; intro A2 m2 c2 w2 ho2 hg2 hat2; have hE02 : Ext w0 w2 := ((Ext.refl w0).alloc _).drew.grown hg2 (fun j hj => by simp [ob] at hj; omega))
      | (refine step_appC einfo_ent rfl _ _ rfl hoB rfl (hsl.ext (hE0.trans (((Ext.refl w0).alloc _).alloc _).drew)) rfl (by omega) (by simp <;> omega) ?_; intro A2 m2 c2 w2 ho2 hg2 hat2; have hE02 : Ext w0 w2 := (((Ext.refl w0).alloc _).alloc _).drew.grown hg2 (fun j hj => by simp [ob] at hj; omega); have hn2 := hnB.kept hg2 (.inr (by simp [ob])))
      | (refine step_appC einfo_ent rfl _ _ rfl hoC rfl (hsl.ext (hE0.trans (((Ext.refl w0).alloc _).alloc _).drew)) rfl (by omega) (by simp <;> omega) ?_; intro A2 m2 c2 w2 ho2 hg2 hat2; have hE02 : Ext w0 w2 := (((Ext.refl w0).alloc _).alloc _).drew.grown hg2 (fun j hj => by simp [ob] at hj; omega); have hn2 := hnC.kept hg2 (.inr (by simp [ob])))
      | fail))
  | fail
  all_goals
    have hE04 := hE03.grown hg4 ho3.ge
    go_wp2
    go_ret
    exact ⟨⟨A4, m4, c4, rfl, by simpa using ho4.mono hsz⟩, hE0.trans hE04⟩
end

end Go.Proofs.YtikbjaopcminaaaDoor
