/- LockOthers: the walk. -/
import Derived.Test.YthmeobjomidkoaaDoorLockO1
import Derived.ProofKit
import Derived.OpenShut
import Derived.ShutString
import Derived.ChangeOld
import Derived.SizedLaws
namespace Go.Proofs.YthmeobjomidkoaaDoor
open Go.ChangeShapes Go.WideShapes Go.ChangeAt Go.RowKit Go.Maps
set_option maxRecDepth 100000

theorem ne_key {a b c d : ByteArray} (h : ¬ (a = c ∧ b = d)) : (a.toList == c.toList) = false ∨ (a = c ∧ (b.toList == d.toList) = false) := by
  by_cases h1 : a = c
  · exact .inr ⟨h1, beq_eq_false_iff_ne.2 fun e => h ⟨h1, toList_eq_iff.1 e⟩⟩
  · exact .inl (beq_eq_false_iff_ne.2 fun e => h1 (toList_eq_iff.1 e))
section
attribute [local go_sem] yielded_undef
variable {w : World} {A : Option Addr} {m : Nat} {l : List LStep}
set_option maxHeartbeats 6400000 in
theorem others_yes (c : Nat) (s : LStep) (at_ : Int) (hs : SlC lsC 6 w A m l) (hgood : ∀ s ∈ l, GoodS s) (hx : GoodS s) (hmc : m * 72 ≤ 140737488351232) (hT : Tabs w)
    (fw : Bool) (hfw : fw = true) (hfew0 : fewL ([] ++ l ++ [s]) = fw) (hop : s.1 = 0 ∨ s.1 = 1) :
    Calls Tryd.prog 5 #[.slice A m c, lsV s, .int .i64 at_] w fun e w' => e = .returned (.bool true) ∧ Ext w w' := by
  have hlen40 : l.length ≤ 40 := by
    have h1 := hfew0
    rw [hfw] at h1
    unfold fewL at h1
    simp only [Bool.and_eq_true, decide_eq_true_eq, List.nil_append, List.length_append, List.length_singleton] at h1
    omega
  obtain ⟨op, ⟨na, id, wh, ti⟩, no⟩ := s
  go_enter Tryd.func5, Tryd.ntmps5
  unfold lsV
  have hEa : Ext w (w.alloc (Obj.cells #[.int .i64 op, .string na, .string id, .string wh, .int .i64 ti, .int .i64 no] 29)) := (Ext.refl w).alloc _
  have hx1 := Blk.new w 29 #[.int .i64 op, .string na, .string id, .string wh, .int .i64 ti, .int .i64 no]
  go_wp2_with (first
    | (go_at_call 9; refine Hid.out ?_))
  refine Hid.mk_ ((awake_lk _ (hT.ext hEa)).mono ?_)
  rintro e w1 ⟨rfl, hE1⟩
  have hx3 := hx1.below hE1 hx1.lt
  have hE01 := hEa.trans hE1
  clear hx1 hEa
  go_wp2
  obtain ⟨gx, hgx⟩ : ∃ gx, gx = w.heap.size := ⟨_, rfl⟩
  rw [← hgx] at hx3 ⊢
  have HGX := Lib.hid hgx
  have x0 : w1.cell? ⟨gx, 0, none⟩ = some (.int .i64 op) := hx3.cell 0
  have x1 : w1.cell? ⟨gx, 1, none⟩ = some (.string na) := hx3.cell 1
  have x2 : w1.cell? ⟨gx, 2, none⟩ = some (.string id) := hx3.cell 2
  have x3 : w1.cell? ⟨gx, 3, none⟩ = some (.string wh) := hx3.cell 3
  have x4 : w1.cell? ⟨gx, 4, none⟩ = some (.int .i64 ti) := hx3.cell 4
  have x5 : w1.cell? ⟨gx, 5, none⟩ = some (.int .i64 no) := hx3.cell 5
  have X1 := Lib.hid (fun (w' : World) (hE : Ext w1 w') => (⟨later hE x0, later hE x1, later hE x2, later hE x3, later hE x4, later hE x5⟩ : w'.cell? ⟨gx, 0, none⟩ = some (.int .i64 op) ∧ w'.cell? ⟨gx, 1, none⟩ = some (.string na) ∧ w'.cell? ⟨gx, 2, none⟩ = some (.string id) ∧ w'.cell? ⟨gx, 3, none⟩ = some (.string wh) ∧ w'.cell? ⟨gx, 4, none⟩ = some (.int .i64 ti) ∧ w'.cell? ⟨gx, 5, none⟩ = some (.int .i64 no)))
  have hs1 := hs.ext hE01
  obtain ⟨st, hst⟩ : ∃ st : LStep, st = (op, ⟨na, id, wh, ti⟩, no) := ⟨_, rfl⟩
  have hEA : Ext w1 (w1.alloc (Obj.cells #[] 29)).drew := ((Ext.refl _).alloc _).drew
  have hEB : Ext w1 ((w1.alloc (Obj.cells #[] 29)).alloc (Obj.cells #[.int .i64 op, .string na, .string id, .string wh, .int .i64 ti, .int .i64 no] 29)).drew := (((Ext.refl _).alloc _).alloc _).drew
  have hEC : Ext w1 ((w1.alloc (Obj.cells #[.int .i64 op, .string na, .string id, .string wh, .int .i64 ti, .int .i64 no] 29)).alloc (Obj.cells #[] 29)).drew := (((Ext.refl _).alloc _).alloc _).drew
  have hoA : OsC lsC 29 6 (w1.alloc (Obj.cells #[] 29)).drew w1.heap.size (some ⟨w1.heap.size, 0, none⟩) 0 0 [] := by
    exact (OsC.new0 w1 w1.heap.size (Nat.le_refl _) lsC_len lsC_one).ext (Ext.refl _).drew
  have hoB : OsC lsC 29 6 ((w1.alloc (Obj.cells #[] 29)).alloc (Obj.cells #[.int .i64 op, .string na, .string id, .string wh, .int .i64 ti, .int .i64 no] 29)).drew w1.heap.size (some ⟨w1.heap.size, 0, none⟩) 0 0 [] := by
    exact (OsC.new0 w1 w1.heap.size (Nat.le_refl _) lsC_len lsC_one).ext ((Ext.refl _).alloc _).drew
  have hoC : OsC lsC 29 6 ((w1.alloc (Obj.cells #[.int .i64 op, .string na, .string id, .string wh, .int .i64 ti, .int .i64 no] 29)).alloc (Obj.cells #[] 29)).drew w1.heap.size (some ⟨w1.heap.size + 1, 0, none⟩) 0 0 [] := by
    have h1 := (OsC.new0 (e := 29) (w1.alloc (Obj.cells #[.int .i64 op, .string na, .string id, .string wh, .int .i64 ti, .int .i64 no] 29)) w1.heap.size (by simp) lsC_len lsC_one).ext (Ext.refl _).drew
    simpa using h1
  have hrB : SlC lsC 6 ((w1.alloc (Obj.cells #[] 29)).alloc (Obj.cells #[.int .i64 op, .string na, .string id, .string wh, .int .i64 ti, .int .i64 no] 29)).drew (some ⟨w1.heap.size + 1, 0, none⟩) 1 [st] := by
    rw [hst]
    have h1 := (SlC.new_ (cs := lsC) (w1.alloc (Obj.cells #[] 29)) [(op, ⟨na, id, wh, ti⟩, no)] lsC_len (by simp) _ rfl (0, 0) 1 rfl 29).ext (Ext.refl _).drew
    simpa [lsC] using h1
  have hrC : SlC lsC 6 ((w1.alloc (Obj.cells #[.int .i64 op, .string na, .string id, .string wh, .int .i64 ti, .int .i64 no] 29)).alloc (Obj.cells #[] 29)).drew (some ⟨w1.heap.size, 0, none⟩) 1 [st] := by
    rw [hst]
    exact (SlC.new_ (cs := lsC) w1 [(op, ⟨na, id, wh, ti⟩, no)] lsC_len (by simp) _ rfl (0, 0) 1 rfl 29).ext ((Ext.refl _).alloc _).drew
  have hgood2 : ∀ s ∈ [] ++ l ++ [st], GoodS s := by
    intro s hm
    simp only [List.nil_append, List.mem_append, List.mem_singleton] at hm
    rcases hm with hm | hm
    · exact hgood s hm
    · rw [hm, hst]; exact hx
  clear hgx
  have HRA := Lib.hid (fun (w3 : World) => (show SlC lsC 6 (w3.alloc (Obj.cells #[.int .i64 op, .string na, .string id, .string wh, .int .i64 ti, .int .i64 no] 29)) (some ⟨w3.heap.size, 0, none⟩) 1 [st] by
    rw [hst]
    exact SlC.new_ (cs := lsC) w3 [(op, ⟨na, id, wh, ti⟩, no)] lsC_len (by simp) _ rfl (0, 0) 1 rfl 29))
  have hfew : fewL ([] ++ l ++ [st]) = fw := by rw [hst]; exact hfew0
  have HF := Lib.hid hfew
  clear hfew hfew0
  have v0 : ∀ o, (w1.alloc o).cell? ⟨gx, 0, none⟩ = some (.int .i64 op) := fun o => (X1.out _ ((Ext.refl w1).alloc o)).1
  have v1 : ∀ o, (w1.alloc o).cell? ⟨gx, 1, none⟩ = some (.string na) := fun o => (X1.out _ ((Ext.refl w1).alloc o)).2.1
  have v2 : ∀ o, (w1.alloc o).cell? ⟨gx, 2, none⟩ = some (.string id) := fun o => (X1.out _ ((Ext.refl w1).alloc o)).2.2.1
  have v3 : ∀ o, (w1.alloc o).cell? ⟨gx, 3, none⟩ = some (.string wh) := fun o => (X1.out _ ((Ext.refl w1).alloc o)).2.2.2.1
  have v4 : ∀ o, (w1.alloc o).cell? ⟨gx, 4, none⟩ = some (.int .i64 ti) := fun o => (X1.out _ ((Ext.refl w1).alloc o)).2.2.2.2.1
  have v5 : ∀ o, (w1.alloc o).cell? ⟨gx, 5, none⟩ = some (.int .i64 no) := fun o => (X1.out _ ((Ext.refl w1).alloc o)).2.2.2.2.2
  subst hfw
  have hop' : op = 0 ∨ op = 1 := hop
  clear hop
  have HOP := Lib.hid hop'
  clear hop'
  go_cut [32] (fun s32 wx => s32 = .bool false ∧ Ext w1 wx)
  case first =>
    rcases HOP.out with h0 | h1
    · subst h0
      first
      | (go_region_law (first
          | (go_simp; go_at_call 10; refine (few_lk c5 ho5.sl hgood2).mono ?_; rintro e w6 ⟨rfl, hE6⟩; rw [HF.out]; have hE16 := hE5.trans hE6; obtain ⟨q0, q1, q2, q3, q4, q5⟩ := X1.out _ hE16)
          | (refine step_appC einfo_step rfl _ _ rfl hoA rfl (hs1.ext hEA) rfl (by omega) hEA.size_le ?_; intro A3 m3 c3 w3 ho3 hg3 hat3; have hE3 : Ext w1 w3 := hEA.grown hg3 hoA.ge; obtain ⟨y0, y1, y2, y3, y4, y5⟩ := X1.out _ hE3)
          | (refine step_appC einfo_step rfl _ _ rfl hoB rfl (hs1.ext hEB) rfl (by omega) hEB.size_le ?_; intro A3 m3 c3 w3 ho3 hg3 hat3; have hE3 : Ext w1 w3 := hEB.grown hg3 hoB.ge; have hr3 := hrB.kept hg3 (.inr (by simp [ob])); obtain ⟨y0, y1, y2, y3, y4, y5⟩ := X1.out _ hE3)
          | (refine step_appC einfo_step rfl _ _ rfl hoC rfl (hs1.ext hEC) rfl (by omega) hEC.size_le ?_; intro A3 m3 c3 w3 ho3 hg3 hat3; have hE3 : Ext w1 w3 := hEC.grown hg3 hoC.ge; have hr3 := hrC.kept hg3 (.inr (by simp [ob])); obtain ⟨y0, y1, y2, y3, y4, y5⟩ := X1.out _ hE3)
          | (refine step_appC einfo_step rfl _ _ rfl ho3 rfl hr3 rfl (by have h1 := ho3.len; have h2 := hs.len; simp only [List.nil_append] at h1; omega) hE3.size_le ?_; intro A5 m5 c5 w5 ho5 hg5 hat5; have hE5 : Ext w1 w5 := hE3.grown hg5 ho3.ge; obtain ⟨z0, z1, z2, z3, z4, z5⟩ := X1.out _ hE5)
          | (refine step_appC einfo_step rfl _ _ rfl (ho3.ext ((Ext.refl w3).alloc _)) rfl (HRA.out w3) rfl (by have h1 := ho3.len; have h2 := hs.len; simp only [List.nil_append] at h1; omega) (Nat.le_trans hE3.size_le (by simp)) ?_; intro A5 m5 c5 w5 ho5 hg5 hat5; have hE5 : Ext w1 w5 := (hE3.alloc _).grown hg5 ho3.ge; obtain ⟨z0, z1, z2, z3, z4, z5⟩ := X1.out _ hE5)
          | fail))
      | fail
      all_goals (go_wp2_with fail; go_meet; exact ⟨rfl, hE16⟩)
    · subst h1
      first
      | (go_region_law (first
          | (go_simp; go_at_call 10; refine (few_lk c5 ho5.sl hgood2).mono ?_; rintro e w6 ⟨rfl, hE6⟩; rw [HF.out]; have hE16 := hE5.trans hE6; obtain ⟨q0, q1, q2, q3, q4, q5⟩ := X1.out _ hE16)
          | (refine step_appC einfo_step rfl _ _ rfl hoA rfl (hs1.ext hEA) rfl (by omega) hEA.size_le ?_; intro A3 m3 c3 w3 ho3 hg3 hat3; have hE3 : Ext w1 w3 := hEA.grown hg3 hoA.ge; obtain ⟨y0, y1, y2, y3, y4, y5⟩ := X1.out _ hE3)
          | (refine step_appC einfo_step rfl _ _ rfl hoB rfl (hs1.ext hEB) rfl (by omega) hEB.size_le ?_; intro A3 m3 c3 w3 ho3 hg3 hat3; have hE3 : Ext w1 w3 := hEB.grown hg3 hoB.ge; have hr3 := hrB.kept hg3 (.inr (by simp [ob])); obtain ⟨y0, y1, y2, y3, y4, y5⟩ := X1.out _ hE3)
          | (refine step_appC einfo_step rfl _ _ rfl hoC rfl (hs1.ext hEC) rfl (by omega) hEC.size_le ?_; intro A3 m3 c3 w3 ho3 hg3 hat3; have hE3 : Ext w1 w3 := hEC.grown hg3 hoC.ge; have hr3 := hrC.kept hg3 (.inr (by simp [ob])); obtain ⟨y0, y1, y2, y3, y4, y5⟩ := X1.out _ hE3)
          | (refine step_appC einfo_step rfl _ _ rfl ho3 rfl hr3 rfl (by have h1 := ho3.len; have h2 := hs.len; simp only [List.nil_append] at h1; omega) hE3.size_le ?_; intro A5 m5 c5 w5 ho5 hg5 hat5; have hE5 : Ext w1 w5 := hE3.grown hg5 ho3.ge; obtain ⟨z0, z1, z2, z3, z4, z5⟩ := X1.out _ hE5)
          | (refine step_appC einfo_step rfl _ _ rfl (ho3.ext ((Ext.refl w3).alloc _)) rfl (HRA.out w3) rfl (by have h1 := ho3.len; have h2 := hs.len; simp only [List.nil_append] at h1; omega) (Nat.le_trans hE3.size_le (by simp)) ?_; intro A5 m5 c5 w5 ho5 hg5 hat5; have hE5 : Ext w1 w5 := (hE3.alloc _).grown hg5 ho3.ge; obtain ⟨z0, z1, z2, z3, z4, z5⟩ := X1.out _ hE5)
          | fail))
      | fail
      all_goals (go_wp2_with fail; go_meet; exact ⟨rfl, hE16⟩)
  case rest =>
    obtain ⟨rfl, hE1c⟩ := hcut
    clear hoA hoB hoC hrB hrC HRA hEA hEB hEC v0 v1 v2 v3 v4 v5
    go_wp2_with (first
      | (go_at_call 11; refine Hid.out ?_))
    refine Hid.mk_ ((new_any wc).mono ?_)
    rintro e w2 ⟨g, bm, rfl, hl2, hE2, hg, hb⟩
    have hE12 : Ext w1 w2 := hE1c.trans hE2
    have hbm1 : w1.heap.size ≤ bm := Nat.le_trans hE1c.size_le hb
    have HL := Lib.hid hs.len
    have HG := Lib.hid hgood
    have hm40 : m ≤ 40 := by rw [HL.out]; exact hlen40
    clear hgood hgood2 hE2 hE1c hlen40 HF
    go_wp2
    go_loopw [8] (fun i wr => ∃ (q n : Nat) (F : LF), q ≤ m ∧ i = .int .i64 q ∧ n ≤ q ∧ Lks wr g bm n F ∧ KeyOk F ∧ Ext w1 wr) (fun i _ => m - (intOf i).toNat)
    case atStart => exact ⟨0, 0, _, Nat.zero_le _, rfl, Nat.le_refl _, hl2, KeyOk.none_, hE12⟩
    case round =>
      obtain ⟨q, n, F, hq, rfl, hnq, hl, hK, hE⟩ := hrel
      by_cases hlt : q < m
      · obtain ⟨b, off, hA, hbl, hcs⟩ := (hs1.ext hE).at_ hlt (by omega)
        subst hA
        have hlt1 : q < l.length := by rw [← HL.out]; exact hlt
        have hgs := HG.out _ (List.getElem_mem hlt1)
        obtain ⟨s, hsq⟩ : ∃ s, s = l[q] := ⟨_, rfl⟩
        rw [← hsq] at hgs
        have y0 := hcs q hlt1 0 (by omega)
        have y1 := hcs q hlt1 1 (by omega)
        have y2 := hcs q hlt1 2 (by omega)
        have y3 := hcs q hlt1 3 (by omega)
        have y4 := hcs q hlt1 4 (by omega)
        have y5 := hcs q hlt1 5 (by omega)
        simp only [← hsq, lsC, List.getElem_cons_zero, List.getElem_cons_succ, ← Nat.add_assoc, Nat.add_zero] at y0 y1 y2 y3 y4 y5
        clear hcs hsq
        have hi1 : (q : Int) < (m : Int) := by omega
        go_wp2_with (first
          | (go_at_call 12; refine Hid.out ?_))
        refine Hid.mk_ ((do_any s hl (by unfold maxLen; omega) (hT.ext (hE01.trans hE)) hgs).mono ?_)
        rintro e wx ⟨F', n', hn', ⟨code, rfl, _⟩, hdo, hlx, hgx⟩
        have hEx : Ext w1 wx := hE.grown hgx (fun k hk => by injection hk with hk; omega)
        have HK := Lib.hid (hK.do_ hdo hgs)
        clear hdo
        go_wp2
        go_roundw
        case rel => exact ⟨q + 1, n', F', by omega, by go_num, by omega, hlx, HK.out, hEx⟩
        case measure => simp [intOf]; omega
      · obtain ⟨z0, z1, z2, z3, z4, z5⟩ := X1.out _ hE
        have hi1 : ¬ (q : Int) < (m : Int) := by omega
        clear HL HG hs1 x0 x1 x2 x3 x4 x5
        go_wp2_with (first
          | (go_at_call 16; refine Hid.out ?_))
        refine Hid.mk_ ((list_any at_ hl (by omega) hK).mono ?_)
        rintro e w5 ⟨⟨A1, m1, c1, L1, rfl, hs5, hL1, hm1, hf1⟩, hE5⟩
        have hl5 := hl.ext hE5
        have hE15 := hE.trans hE5
        have HL1 := Lib.hid hL1
        clear hL1
        obtain ⟨z0, z1, z2, z3, z4, z5⟩ := X1.out _ hE15
        go_wp2_with (first
          | (go_at_call 12; refine Hid.out ?_))
        refine Hid.mk_ ((do_any (op, ⟨na, id, wh, ti⟩, no) hl5 (by unfold maxLen; omega) (hT.ext (hE01.trans hE15)) hx).mono ?_)
        rintro e w6 ⟨F6, n6, hn6, ⟨code, rfl, _⟩, hdo, hl6, hg6⟩
        have hE16 : Ext w1 w6 := hE15.grown hg6 (fun k hk => by injection hk with hk; omega)
        have hne : ob A1 = none ∨ ob A1 ≠ some bm := .inr fun e => by have h1 := hf1 bm e; have h2 := hl.map.lt; omega
        have hs6 := hs5.kept hg6 hne
        have hK6 := hK.do_ hdo hx
        have HDO := Lib.hid (do_other hdo HOP.out)
        clear hdo
        go_wp2_with (first
          | (go_at_call 16; refine Hid.out ?_))
        refine Hid.mk_ ((list_any at_ hl6 (by omega) hK6).mono ?_)
        rintro e w7 ⟨⟨A2, m2, c2, L2, rfl, hs7, hL2, hm2, _⟩, hE7⟩
        have hE17 := hE16.trans hE7
        have hs17 := hs6.ext hE7
        have HEQ := Lib.hid (oth_same HL1.out hL2 HDO.out)
        have hl1 := hs17.len
        have hl2' := hs7.len
        have hm1n : m1 ≤ 41 := by omega
        have hm2n : m2 ≤ 41 := by omega
        obtain ⟨zz0, zz1, zz2, zz3, zz4, zz5⟩ := X1.out _ hE17
        clear hL2 hE5 hE15 hg6 hl6 hl5 hl hf1 hE16 hK6 hK hE7 hs6 hs5 z0 z1 z2 z3 z4 z5
        have HS1 := Lib.hid hs17
        have HS2 := Lib.hid hs7
        have HLN := Lib.hid (And.intro hl1 hl2')
        clear hs17 hs7 hl1 hl2'
        go_wp2
        go_loopw [11, 12] (fun i k wr => ∃ p q : Nat, p ≤ m1 ∧ q ≤ m2 ∧ i = .int .i64 p ∧ k = .int .i64 q ∧ Hid (oth na id (L1.drop p) = oth na id (L2.drop q)) ∧ Ext w7 wr) (fun i k _ => (m1 - (intOf i).toNat) + (m2 - (intOf k).toNat))
        case atStart => exact ⟨0, 0, Nat.zero_le _, Nat.zero_le _, rfl, rfl, Lib.hid (by simpa using HEQ.out), Ext.refl _⟩
        case round =>
          obtain ⟨p, q, hp, hq2, rfl, rfl, HO, hEr⟩ := hrel
          have hEr1 := hE17.trans hEr
          obtain ⟨z0, z1, z2, z3, z4, z5⟩ := X1.out _ hEr1
          clear z0 z3 z4 z5
          by_cases hp1 : p < m1
          · obtain ⟨b1, off1, hA1, _, hcs1⟩ := (HS1.out.ext hEr).at_ hp1 (by omega)
            subst hA1
            have hpl : p < L1.length := by rw [← HLN.out.1]; exact hp1
            have y0 := hcs1 p hpl 0 (by omega)
            have y1 := hcs1 p hpl 1 (by omega)
            have y2 := hcs1 p hpl 2 (by omega)
            have y3 := hcs1 p hpl 3 (by omega)
            have HSK := Lib.hid (oth_skip (na := na) (id := id) hpl)
            have HTK := Lib.hid (oth_take (na := na) (id := id) hpl)
            obtain ⟨x, hxe⟩ : ∃ x, x = L1[p] := ⟨_, rfl⟩
            rw [← hxe] at HSK HTK
            simp only [← hxe, lkC, List.getElem_cons_zero, List.getElem_cons_succ, ← Nat.add_assoc, Nat.add_zero] at y0 y1 y2 y3
            clear hxe hcs1
            have hi1 : (p : Int) < (m1 : Int) := by omega
            obtain ⟨xa, xb, xc, xt⟩ := x
            dsimp only at y0 y1 y2 y3 HSK HTK
            by_cases hk : xa = na ∧ xb = id
            · have HO2 := Lib.hid ((HSK.out hk).symm.trans HO.out)
              obtain ⟨hk1, hk2⟩ := hk
              subst hk1
              subst hk2
              go_wp2
              go_quiet (fail)
              all_goals go_wp2
              all_goals go_roundw
              case rel => exact ⟨p + 1, q, by omega, by omega, by go_num, rfl, HO2, hEr.drewN _⟩
              case measure => simp [intOf]; omega
            · have HT1 := Lib.hid (HTK.out hk)
              by_cases hq1 : q < m2
              · have hql : q < L2.length := by rw [← HLN.out.2]; exact hq1
                obtain ⟨b2, off2, hA2, _, hcs2⟩ := (HS2.out.ext hEr).at_ hq1 (by omega)
                subst hA2
                have u0 := hcs2 q hql 0 (by omega)
                have u1 := hcs2 q hql 1 (by omega)
                have u2 := hcs2 q hql 2 (by omega)
                have u3 := hcs2 q hql 3 (by omega)
                have HSK2 := Lib.hid (oth_skip (na := na) (id := id) hql)
                have HTK2 := Lib.hid (oth_take (na := na) (id := id) hql)
                obtain ⟨y, hye⟩ : ∃ y, y = L2[q] := ⟨_, rfl⟩
                rw [← hye] at HSK2 HTK2
                simp only [← hye, lkC, List.getElem_cons_zero, List.getElem_cons_succ, ← Nat.add_assoc, Nat.add_zero] at u0 u1 u2 u3
                clear hye hcs2
                have hi2 : (q : Int) < (m2 : Int) := by omega
                obtain ⟨ya, yb, yc, yt⟩ := y
                dsimp only at u0 u1 u2 u3 HSK2 HTK2
                have hsp : (xa.toList == na.toList) = false ∨ (xa = na ∧ (xb.toList == id.toList) = false) := ne_key hk
                clear hk
                by_cases hk2 : ya = na ∧ yb = id
                · have HO2 := Lib.hid (HO.out.trans (HSK2.out hk2))
                  obtain ⟨k1, k2⟩ := hk2
                  subst k1
                  subst k2
                  rcases hsp with h1 | ⟨h1, h2⟩
                  · go_wp2
                    go_quiet (fail)
                    all_goals go_wp2
                    go_quiet (fail)
                    all_goals go_wp2
                    all_goals go_roundw
                    case rel => exact ⟨p, q + 1, by omega, by omega, rfl, by go_num, HO2, hEr.drewN _⟩
                    case measure => simp [intOf]; omega
                  · subst h1
                    go_wp2
                    go_quiet (fail)
                    all_goals go_wp2
                    go_quiet (fail)
                    all_goals go_wp2
                    all_goals go_roundw
                    case rel => exact ⟨p, q + 1, by omega, by omega, rfl, by go_num, HO2, hEr.drewN _⟩
                    case measure => simp [intOf]; omega
                · have HT2 := Lib.hid (HTK2.out hk2)
                  clear hk2
                  have he := (HT1.out.symm.trans HO.out).trans HT2.out
                  injection he with he1 he2
                  injection he1 with e1 e2 e3 e4
                  subst e1
                  subst e2
                  subst e3
                  subst e4
                  have HO2 := Lib.hid he2
                  clear he2
                  rcases hsp with h1 | ⟨h1, h2⟩
                  · go_wp2
                    go_quiet (fail)
                    all_goals go_wp2
                    go_quiet (fail)
                    all_goals go_wp2
                    go_quiet (fail)
                    all_goals go_wp2
                    all_goals go_roundw
                    case rel => exact ⟨p + 1, q + 1, by omega, by omega, by go_num, by go_num, HO2, hEr.drewN _⟩
                    case measure => simp [intOf]; omega
                  · subst h1
                    go_wp2
                    go_quiet (fail)
                    all_goals go_wp2
                    go_quiet (fail)
                    all_goals go_wp2
                    go_quiet (fail)
                    all_goals go_wp2
                    all_goals go_roundw
                    case rel => exact ⟨p + 1, q + 1, by omega, by omega, by go_num, by go_num, HO2, hEr.drewN _⟩
                    case measure => simp [intOf]; omega
              · have h1 := HT1.out.symm.trans HO.out
                have h0 := oth_end (na := na) (id := id) (l := L2) (p := q) (by rw [← HLN.out.2]; omega)
                rw [h0] at h1
                cases h1
          · have hi1 : ¬ (p : Int) < (m1 : Int) := by omega
            have HE1 := Lib.hid (oth_end (na := na) (id := id) (l := L1) (p := p) (by rw [← HLN.out.1]; omega))
            by_cases hq1 : q < m2
            · have hql : q < L2.length := by rw [← HLN.out.2]; exact hq1
              obtain ⟨b2, off2, hA2, _, hcs2⟩ := (HS2.out.ext hEr).at_ hq1 (by omega)
              subst hA2
              have u0 := hcs2 q hql 0 (by omega)
              have u1 := hcs2 q hql 1 (by omega)
              have u2 := hcs2 q hql 2 (by omega)
              have u3 := hcs2 q hql 3 (by omega)
              have HSK2 := Lib.hid (oth_skip (na := na) (id := id) hql)
              have HTK2 := Lib.hid (oth_take (na := na) (id := id) hql)
              obtain ⟨y, hye⟩ : ∃ y, y = L2[q] := ⟨_, rfl⟩
              rw [← hye] at HSK2 HTK2
              simp only [← hye, lkC, List.getElem_cons_zero, List.getElem_cons_succ, ← Nat.add_assoc, Nat.add_zero] at u0 u1 u2 u3
              clear hye hcs2
              have hi2 : (q : Int) < (m2 : Int) := by omega
              obtain ⟨ya, yb, yc, yt⟩ := y
              dsimp only at u0 u1 u2 u3 HSK2 HTK2
              by_cases hk2 : ya = na ∧ yb = id
              · have HO2 := Lib.hid (HO.out.trans (HSK2.out hk2))
                obtain ⟨k1, k2⟩ := hk2
                subst k1
                subst k2
                go_wp2
                go_quiet (fail)
                all_goals go_wp2
                go_quiet (fail)
                all_goals go_wp2
                all_goals go_roundw
                case rel => exact ⟨p, q + 1, by omega, by omega, rfl, by go_num, HO2, hEr.drewN _⟩
                case measure => simp [intOf]; omega
              · have h1 := (HE1.out.symm.trans HO.out).trans (HTK2.out hk2)
                cases h1
            · have hi2 : ¬ (q : Int) < (m2 : Int) := by omega
              go_wp2
              go_ret
              exact ⟨rfl, hE01.trans hEr1⟩
end

end Go.Proofs.YthmeobjomidkoaaDoor
