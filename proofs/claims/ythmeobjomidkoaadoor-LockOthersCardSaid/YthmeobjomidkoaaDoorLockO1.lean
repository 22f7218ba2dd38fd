/- LockOthers: too many steps, or no call of Acquire or Release. -/
import Derived.Test.YthmeobjomidkoaaDoorLockPl
import Derived.Test.YthmeobjomidkoaaDoorLockAwake
import Derived.Test.YthmeobjomidkoaaDoorLockCard
import Derived.Deep.RegionLaw
import Derived.ProofKit
import Derived.OpenShut
import Derived.ShutString
import Derived.ChangeOld
import Derived.SizedLaws
namespace Go.Proofs.YthmeobjomidkoaaDoor
open Go.ChangeShapes Go.WideShapes Go.ChangeAt Go.RowKit Go.Maps
set_option maxRecDepth 100000

theorem yielded_undef : Go.yielded.match_1 (fun _ => Option Bool) (some undef) (fun b => some b) (fun _ => none) = none := rfl
section
attribute [local go_sem] yielded_undef
variable {w : World} {A : Option Addr} {m : Nat} {l : List LStep}
set_option maxHeartbeats 3200000 in
theorem others_few (c : Nat) (s : LStep) (at_ : Int) (hs : SlC lsC 6 w A m l) (hgood : ∀ s ∈ l, GoodS s) (hx : GoodS s) (hmc : m * 72 ≤ 140737488351232) (hT : Tabs w)
    (fw : Bool) (hfw : fw = false) (hfew0 : fewL ([] ++ l ++ [s]) = fw) :
    Calls Tryd.prog 5 #[.slice A m c, lsV s, .int .i64 at_] w fun e w' => e = .returned (.bool true) ∧ Ext w w' := by
  obtain ⟨op, ⟨na, id, wh, ti⟩, no⟩ := s
  go_enter Tryd.func5, Tryd.ntmps5
  unfold lsV
  have hEa : Ext w (w.alloc (Obj.cells #[.int .i64 op, .string na, .string id, .string wh, .int .i64 ti, .int .i64 no] 29)) := (Ext.refl w).alloc _
  have hx1 := Blk.new w 29 #[.int .i64 op, .string na, .string id, .string wh, .int .i64 ti, .int .i64 no]
  go_wp2_with (first
    | (go_at_call 9; refine Hid.out ?_))
  refine Hid.mk_ ((awake_lk _ (hT.ext hEa)).mono ?_)
  rintro e w1 ⟨rfl, hE1⟩
  have hx3 := hx1.below hE1 hx1.lt
  have hE01 := hEa.trans hE1
  clear hx1 hEa
  go_wp2
  obtain ⟨gx, hgx⟩ : ∃ gx, gx = w.heap.size := ⟨_, rfl⟩
  rw [← hgx] at hx3 ⊢
  have HGX := Lib.hid hgx
  have x0 : w1.cell? ⟨gx, 0, none⟩ = some (.int .i64 op) := hx3.cell 0
  have x1 : w1.cell? ⟨gx, 1, none⟩ = some (.string na) := hx3.cell 1
  have x2 : w1.cell? ⟨gx, 2, none⟩ = some (.string id) := hx3.cell 2
  have x3 : w1.cell? ⟨gx, 3, none⟩ = some (.string wh) := hx3.cell 3
  have x4 : w1.cell? ⟨gx, 4, none⟩ = some (.int .i64 ti) := hx3.cell 4
  have x5 : w1.cell? ⟨gx, 5, none⟩ = some (.int .i64 no) := hx3.cell 5
  have X1 := Lib.hid (fun (w' : World) (hE : Ext w1 w') => (⟨later hE x0, later hE x1, later hE x2, later hE x3, later hE x4, later hE x5⟩ : w'.cell? ⟨gx, 0, none⟩ = some (.int .i64 op) ∧ w'.cell? ⟨gx, 1, none⟩ = some (.string na) ∧ w'.cell? ⟨gx, 2, none⟩ = some (.string id) ∧ w'.cell? ⟨gx, 3, none⟩ = some (.string wh) ∧ w'.cell? ⟨gx, 4, none⟩ = some (.int .i64 ti) ∧ w'.cell? ⟨gx, 5, none⟩ = some (.int .i64 no)))
  have hs1 := hs.ext hE01
  obtain ⟨st, hst⟩ : ∃ st : LStep, st = (op, ⟨na, id, wh, ti⟩, no) := ⟨_, rfl⟩
  have hEA : Ext w1 (w1.alloc (Obj.cells #[] 29)).drew := ((Ext.refl _).alloc _).drew
  have hEB : Ext w1 ((w1.alloc (Obj.cells #[] 29)).alloc (Obj.cells #[.int .i64 op, .string na, .string id, .string wh, .int .i64 ti, .int .i64 no] 29)).drew := (((Ext.refl _).alloc _).alloc _).drew
  have hEC : Ext w1 ((w1.alloc (Obj.cells #[.int .i64 op, .string na, .string id, .string wh, .int .i64 ti, .int .i64 no] 29)).alloc (Obj.cells #[] 29)).drew := (((Ext.refl _).alloc _).alloc _).drew
  have hoA : OsC lsC 29 6 (w1.alloc (Obj.cells #[] 29)).drew w1.heap.size (some ⟨w1.heap.size, 0, none⟩) 0 0 [] := by
    exact (OsC.new0 w1 w1.heap.size (Nat.le_refl _) lsC_len lsC_one).ext (Ext.refl _).drew
  have hoB : OsC lsC 29 6 ((w1.alloc (Obj.cells #[] 29)).alloc (Obj.cells #[.int .i64 op, .string na, .string id, .string wh, .int .i64 ti, .int .i64 no] 29)).drew w1.heap.size (some ⟨w1.heap.size, 0, none⟩) 0 0 [] := by
    exact (OsC.new0 w1 w1.heap.size (Nat.le_refl _) lsC_len lsC_one).ext ((Ext.refl _).alloc _).drew
  have hoC : OsC lsC 29 6 ((w1.alloc (Obj.cells #[.int .i64 op, .string na, .string id, .string wh, .int .i64 ti, .int .i64 no] 29)).alloc (Obj.cells #[] 29)).drew w1.heap.size (some ⟨w1.heap.size + 1, 0, none⟩) 0 0 [] := by
    have h1 := (OsC.new0 (e := 29) (w1.alloc (Obj.cells #[.int .i64 op, .string na, .string id, .string wh, .int .i64 ti, .int .i64 no] 29)) w1.heap.size (by simp) lsC_len lsC_one).ext (Ext.refl _).drew
    simpa using h1
  have hrB : SlC lsC 6 ((w1.alloc (Obj.cells #[] 29)).alloc (Obj.cells #[.int .i64 op, .string na, .string id, .string wh, .int .i64 ti, .int .i64 no] 29)).drew (some ⟨w1.heap.size + 1, 0, none⟩) 1 [st] := by
    rw [hst]
    have h1 := (SlC.new_ (cs := lsC) (w1.alloc (Obj.cells #[] 29)) [(op, ⟨na, id, wh, ti⟩, no)] lsC_len (by simp) _ rfl (0, 0) 1 rfl 29).ext (Ext.refl _).drew
    simpa [lsC] using h1
  have hrC : SlC lsC 6 ((w1.alloc (Obj.cells #[.int .i64 op, .string na, .string id, .string wh, .int .i64 ti, .int .i64 no] 29)).alloc (Obj.cells #[] 29)).drew (some ⟨w1.heap.size, 0, none⟩) 1 [st] := by
    rw [hst]
    exact (SlC.new_ (cs := lsC) w1 [(op, ⟨na, id, wh, ti⟩, no)] lsC_len (by simp) _ rfl (0, 0) 1 rfl 29).ext ((Ext.refl _).alloc _).drew
  have hgood2 : ∀ s ∈ [] ++ l ++ [st], GoodS s := by
    intro s hm
    simp only [List.nil_append, List.mem_append, List.mem_singleton] at hm
    rcases hm with hm | hm
    · exact hgood s hm
    · rw [hm, hst]; exact hx
  clear hgx
  have HRA := Lib.hid (fun (w3 : World) => (show SlC lsC 6 (w3.alloc (Obj.cells #[.int .i64 op, .string na, .string id, .string wh, .int .i64 ti, .int .i64 no] 29)) (some ⟨w3.heap.size, 0, none⟩) 1 [st] by
    rw [hst]
    exact SlC.new_ (cs := lsC) w3 [(op, ⟨na, id, wh, ti⟩, no)] lsC_len (by simp) _ rfl (0, 0) 1 rfl 29))
  have hfew : fewL ([] ++ l ++ [st]) = fw := by rw [hst]; exact hfew0
  have HF := Lib.hid hfew
  clear hfew hfew0
  have v0 : ∀ o, (w1.alloc o).cell? ⟨gx, 0, none⟩ = some (.int .i64 op) := fun o => (X1.out _ ((Ext.refl w1).alloc o)).1
  have v1 : ∀ o, (w1.alloc o).cell? ⟨gx, 1, none⟩ = some (.string na) := fun o => (X1.out _ ((Ext.refl w1).alloc o)).2.1
  have v2 : ∀ o, (w1.alloc o).cell? ⟨gx, 2, none⟩ = some (.string id) := fun o => (X1.out _ ((Ext.refl w1).alloc o)).2.2.1
  have v3 : ∀ o, (w1.alloc o).cell? ⟨gx, 3, none⟩ = some (.string wh) := fun o => (X1.out _ ((Ext.refl w1).alloc o)).2.2.2.1
  have v4 : ∀ o, (w1.alloc o).cell? ⟨gx, 4, none⟩ = some (.int .i64 ti) := fun o => (X1.out _ ((Ext.refl w1).alloc o)).2.2.2.2.1
  have v5 : ∀ o, (w1.alloc o).cell? ⟨gx, 5, none⟩ = some (.int .i64 no) := fun o => (X1.out _ ((Ext.refl w1).alloc o)).2.2.2.2.2
  subst hfw
  first
  | (go_region_law (first
      | (go_simp; go_at_call 10; refine (few_lk c5 ho5.sl hgood2).mono ?_; rintro e w6 ⟨rfl, hE6⟩; rw [HF.out]; have hE16 := hE5.trans hE6; obtain ⟨q0, q1, q2, q3, q4, q5⟩ := X1.out _ hE16)
      | (refine step_appC einfo_step rfl _ _ rfl hoA rfl (hs1.ext hEA) rfl (by omega) hEA.size_le ?_; intro A3 m3 c3 w3 ho3 hg3 hat3; have hE3 : Ext w1 w3 := hEA.grown hg3 hoA.ge; obtain ⟨y0, y1, y2, y3, y4, y5⟩ := X1.out _ hE3)
      | (refine step_appC einfo_step rfl _ _ rfl hoB rfl (hs1.ext hEB) rfl (by omega) hEB.size_le ?_; intro A3 m3 c3 w3 ho3 hg3 hat3; have hE3 : Ext w1 w3 := hEB.grown hg3 hoB.ge; have hr3 := hrB.kept hg3 (.inr (by simp [ob])); obtain ⟨y0, y1, y2, y3, y4, y5⟩ := X1.out _ hE3)
      | (refine step_appC einfo_step rfl _ _ rfl hoC rfl (hs1.ext hEC) rfl (by omega) hEC.size_le ?_; intro A3 m3 c3 w3 ho3 hg3 hat3; have hE3 : Ext w1 w3 := hEC.grown hg3 hoC.ge; have hr3 := hrC.kept hg3 (.inr (by simp [ob])); obtain ⟨y0, y1, y2, y3, y4, y5⟩ := X1.out _ hE3)
      | (refine step_appC einfo_step rfl _ _ rfl ho3 rfl hr3 rfl (by have h1 := ho3.len; have h2 := hs.len; simp only [List.nil_append] at h1; omega) hE3.size_le ?_; intro A5 m5 c5 w5 ho5 hg5 hat5; have hE5 : Ext w1 w5 := hE3.grown hg5 ho3.ge; obtain ⟨z0, z1, z2, z3, z4, z5⟩ := X1.out _ hE5)
      | (refine step_appC einfo_step rfl _ _ rfl (ho3.ext ((Ext.refl w3).alloc _)) rfl (HRA.out w3) rfl (by have h1 := ho3.len; have h2 := hs.len; simp only [List.nil_append] at h1; omega) (Nat.le_trans hE3.size_le (by simp)) ?_; intro A5 m5 c5 w5 ho5 hg5 hat5; have hE5 : Ext w1 w5 := (hE3.alloc _).grown hg5 ho3.ge; obtain ⟨z0, z1, z2, z3, z4, z5⟩ := X1.out _ hE5)
      | fail))
  | fail
  all_goals
    go_wp2
    go_ret
    exact ⟨rfl, hE01.trans hE16⟩
set_option maxHeartbeats 3200000 in
theorem others_op (c : Nat) (s : LStep) (at_ : Int) (hs : SlC lsC 6 w A m l) (hgood : ∀ s ∈ l, GoodS s) (hx : GoodS s) (hmc : m * 72 ≤ 140737488351232) (hT : Tabs w)
    (fw : Bool) (hfw : fw = true) (hfew0 : fewL ([] ++ l ++ [s]) = fw) (hop : s.1 ≠ 0 ∧ s.1 ≠ 1) :
    Calls Tryd.prog 5 #[.slice A m c, lsV s, .int .i64 at_] w fun e w' => e = .returned (.bool true) ∧ Ext w w' := by
  obtain ⟨op, ⟨na, id, wh, ti⟩, no⟩ := s
  go_enter Tryd.func5, Tryd.ntmps5
  unfold lsV
  have hEa : Ext w (w.alloc (Obj.cells #[.int .i64 op, .string na, .string id, .string wh, .int .i64 ti, .int .i64 no] 29)) := (Ext.refl w).alloc _
  have hx1 := Blk.new w 29 #[.int .i64 op, .string na, .string id, .string wh, .int .i64 ti, .int .i64 no]
  go_wp2_with (first
    | (go_at_call 9; refine Hid.out ?_))
  refine Hid.mk_ ((awake_lk _ (hT.ext hEa)).mono ?_)
  rintro e w1 ⟨rfl, hE1⟩
  have hx3 := hx1.below hE1 hx1.lt
  have hE01 := hEa.trans hE1
  clear hx1 hEa
  go_wp2
  obtain ⟨gx, hgx⟩ : ∃ gx, gx = w.heap.size := ⟨_, rfl⟩
  rw [← hgx] at hx3 ⊢
  have HGX := Lib.hid hgx
  have x0 : w1.cell? ⟨gx, 0, none⟩ = some (.int .i64 op) := hx3.cell 0
  have x1 : w1.cell? ⟨gx, 1, none⟩ = some (.string na) := hx3.cell 1
  have x2 : w1.cell? ⟨gx, 2, none⟩ = some (.string id) := hx3.cell 2
  have x3 : w1.cell? ⟨gx, 3, none⟩ = some (.string wh) := hx3.cell 3
  have x4 : w1.cell? ⟨gx, 4, none⟩ = some (.int .i64 ti) := hx3.cell 4
  have x5 : w1.cell? ⟨gx, 5, none⟩ = some (.int .i64 no) := hx3.cell 5
  have X1 := Lib.hid (fun (w' : World) (hE : Ext w1 w') => (⟨later hE x0, later hE x1, later hE x2, later hE x3, later hE x4, later hE x5⟩ : w'.cell? ⟨gx, 0, none⟩ = some (.int .i64 op) ∧ w'.cell? ⟨gx, 1, none⟩ = some (.string na) ∧ w'.cell? ⟨gx, 2, none⟩ = some (.string id) ∧ w'.cell? ⟨gx, 3, none⟩ = some (.string wh) ∧ w'.cell? ⟨gx, 4, none⟩ = some (.int .i64 ti) ∧ w'.cell? ⟨gx, 5, none⟩ = some (.int .i64 no)))
  have hs1 := hs.ext hE01
  obtain ⟨st, hst⟩ : ∃ st : LStep, st = (op, ⟨na, id, wh, ti⟩, no) := ⟨_, rfl⟩
  have hEA : Ext w1 (w1.alloc (Obj.cells #[] 29)).drew := ((Ext.refl _).alloc _).drew
  have hEB : Ext w1 ((w1.alloc (Obj.cells #[] 29)).alloc (Obj.cells #[.int .i64 op, .string na, .string id, .string wh, .int .i64 ti, .int .i64 no] 29)).drew := (((Ext.refl _).alloc _).alloc _).drew
  have hEC : Ext w1 ((w1.alloc (Obj.cells #[.int .i64 op, .string na, .string id, .string wh, .int .i64 ti, .int .i64 no] 29)).alloc (Obj.cells #[] 29)).drew := (((Ext.refl _).alloc _).alloc _).drew
  have hoA : OsC lsC 29 6 (w1.alloc (Obj.cells #[] 29)).drew w1.heap.size (some ⟨w1.heap.size, 0, none⟩) 0 0 [] := by
    exact (OsC.new0 w1 w1.heap.size (Nat.le_refl _) lsC_len lsC_one).ext (Ext.refl _).drew
  have hoB : OsC lsC 29 6 ((w1.alloc (Obj.cells #[] 29)).alloc (Obj.cells #[.int .i64 op, .string na, .string id, .string wh, .int .i64 ti, .int .i64 no] 29)).drew w1.heap.size (some ⟨w1.heap.size, 0, none⟩) 0 0 [] := by
    exact (OsC.new0 w1 w1.heap.size (Nat.le_refl _) lsC_len lsC_one).ext ((Ext.refl _).alloc _).drew
  have hoC : OsC lsC 29 6 ((w1.alloc (Obj.cells #[.int .i64 op, .string na, .string id, .string wh, .int .i64 ti, .int .i64 no] 29)).alloc (Obj.cells #[] 29)).drew w1.heap.size (some ⟨w1.heap.size + 1, 0, none⟩) 0 0 [] := by
    have h1 := (OsC.new0 (e := 29) (w1.alloc (Obj.cells #[.int .i64 op, .string na, .string id, .string wh, .int .i64 ti, .int .i64 no] 29)) w1.heap.size (by simp) lsC_len lsC_one).ext (Ext.refl _).drew
    simpa using h1
  have hrB : SlC lsC 6 ((w1.alloc (Obj.cells #[] 29)).alloc (Obj.cells #[.int .i64 op, .string na, .string id, .string wh, .int .i64 ti, .int .i64 no] 29)).drew (some ⟨w1.heap.size + 1, 0, none⟩) 1 [st] := by
    rw [hst]
    have h1 := (SlC.new_ (cs := lsC) (w1.alloc (Obj.cells #[] 29)) [(op, ⟨na, id, wh, ti⟩, no)] lsC_len (by simp) _ rfl (0, 0) 1 rfl 29).ext (Ext.refl _).drew
    simpa [lsC] using h1
  have hrC : SlC lsC 6 ((w1.alloc (Obj.cells #[.int .i64 op, .string na, .string id, .string wh, .int .i64 ti, .int .i64 no] 29)).alloc (Obj.cells #[] 29)).drew (some ⟨w1.heap.size, 0, none⟩) 1 [st] := by
    rw [hst]
    exact (SlC.new_ (cs := lsC) w1 [(op, ⟨na, id, wh, ti⟩, no)] lsC_len (by simp) _ rfl (0, 0) 1 rfl 29).ext ((Ext.refl _).alloc _).drew
  have hgood2 : ∀ s ∈ [] ++ l ++ [st], GoodS s := by
    intro s hm
    simp only [List.nil_append, List.mem_append, List.mem_singleton] at hm
    rcases hm with hm | hm
    · exact hgood s hm
    · rw [hm, hst]; exact hx
  clear hgx
  have HRA := Lib.hid (fun (w3 : World) => (show SlC lsC 6 (w3.alloc (Obj.cells #[.int .i64 op, .string na, .string id, .string wh, .int .i64 ti, .int .i64 no] 29)) (some ⟨w3.heap.size, 0, none⟩) 1 [st] by
    rw [hst]
    exact SlC.new_ (cs := lsC) w3 [(op, ⟨na, id, wh, ti⟩, no)] lsC_len (by simp) _ rfl (0, 0) 1 rfl 29))
  have hfew : fewL ([] ++ l ++ [st]) = fw := by rw [hst]; exact hfew0
  have HF := Lib.hid hfew
  clear hfew hfew0
  have v0 : ∀ o, (w1.alloc o).cell? ⟨gx, 0, none⟩ = some (.int .i64 op) := fun o => (X1.out _ ((Ext.refl w1).alloc o)).1
  have v1 : ∀ o, (w1.alloc o).cell? ⟨gx, 1, none⟩ = some (.string na) := fun o => (X1.out _ ((Ext.refl w1).alloc o)).2.1
  have v2 : ∀ o, (w1.alloc o).cell? ⟨gx, 2, none⟩ = some (.string id) := fun o => (X1.out _ ((Ext.refl w1).alloc o)).2.2.1
  have v3 : ∀ o, (w1.alloc o).cell? ⟨gx, 3, none⟩ = some (.string wh) := fun o => (X1.out _ ((Ext.refl w1).alloc o)).2.2.2.1
  have v4 : ∀ o, (w1.alloc o).cell? ⟨gx, 4, none⟩ = some (.int .i64 ti) := fun o => (X1.out _ ((Ext.refl w1).alloc o)).2.2.2.2.1
  have v5 : ∀ o, (w1.alloc o).cell? ⟨gx, 5, none⟩ = some (.int .i64 no) := fun o => (X1.out _ ((Ext.refl w1).alloc o)).2.2.2.2.2
  subst hfw
  have o1 : (op != 0) = true := bne_iff_ne.2 hop.1
  have o2 : (op != 1) = true := bne_iff_ne.2 hop.2
  clear hop
  first
  | (go_region_law (first
      | (go_simp; go_at_call 10; refine (few_lk c5 ho5.sl hgood2).mono ?_; rintro e w6 ⟨rfl, hE6⟩; rw [HF.out]; have hE16 := hE5.trans hE6; obtain ⟨q0, q1, q2, q3, q4, q5⟩ := X1.out _ hE16)
      | (refine step_appC einfo_step rfl _ _ rfl hoA rfl (hs1.ext hEA) rfl (by omega) hEA.size_le ?_; intro A3 m3 c3 w3 ho3 hg3 hat3; have hE3 : Ext w1 w3 := hEA.grown hg3 hoA.ge; obtain ⟨y0, y1, y2, y3, y4, y5⟩ := X1.out _ hE3)
      | (refine step_appC einfo_step rfl _ _ rfl hoB rfl (hs1.ext hEB) rfl (by omega) hEB.size_le ?_; intro A3 m3 c3 w3 ho3 hg3 hat3; have hE3 : Ext w1 w3 := hEB.grown hg3 hoB.ge; have hr3 := hrB.kept hg3 (.inr (by simp [ob])); obtain ⟨y0, y1, y2, y3, y4, y5⟩ := X1.out _ hE3)
      | (refine step_appC einfo_step rfl _ _ rfl hoC rfl (hs1.ext hEC) rfl (by omega) hEC.size_le ?_; intro A3 m3 c3 w3 ho3 hg3 hat3; have hE3 : Ext w1 w3 := hEC.grown hg3 hoC.ge; have hr3 := hrC.kept hg3 (.inr (by simp [ob])); obtain ⟨y0, y1, y2, y3, y4, y5⟩ := X1.out _ hE3)
      | (refine step_appC einfo_step rfl _ _ rfl ho3 rfl hr3 rfl (by have h1 := ho3.len; have h2 := hs.len; simp only [List.nil_append] at h1; omega) hE3.size_le ?_; intro A5 m5 c5 w5 ho5 hg5 hat5; have hE5 : Ext w1 w5 := hE3.grown hg5 ho3.ge; obtain ⟨z0, z1, z2, z3, z4, z5⟩ := X1.out _ hE5)
      | (refine step_appC einfo_step rfl _ _ rfl (ho3.ext ((Ext.refl w3).alloc _)) rfl (HRA.out w3) rfl (by have h1 := ho3.len; have h2 := hs.len; simp only [List.nil_append] at h1; omega) (Nat.le_trans hE3.size_le (by simp)) ?_; intro A5 m5 c5 w5 ho5 hg5 hat5; have hE5 : Ext w1 w5 := (hE3.alloc _).grown hg5 ho3.ge; obtain ⟨z0, z1, z2, z3, z4, z5⟩ := X1.out _ hE5)
      | fail))
  | fail
  all_goals
    go_wp2
    go_ret
    exact ⟨rfl, hE01.trans hE16⟩
end

end Go.Proofs.YthmeobjomidkoaaDoor
