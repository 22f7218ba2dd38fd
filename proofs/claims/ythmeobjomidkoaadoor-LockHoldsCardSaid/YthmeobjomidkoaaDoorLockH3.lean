/- As long as an editor holds a lock, no other editor can acquire or release it. -/
import Derived.Test.YthmeobjomidkoaaDoorLockDo
import Derived.Test.YthmeobjomidkoaaDoorLockAwake
import Derived.Test.YthmeobjomidkoaaDoorLockCard
import Derived.Test.YthmeobjomidkoaaDoorRead
import Derived.Deep.RegionLaw
import Derived.ProofKit
import Derived.OpenShut
import Derived.ShutString
import Derived.ChangeOld
import Derived.SizedLaws
namespace Go.Proofs.YthmeobjomidkoaaDoor
open Go.ChangeShapes Go.WideShapes Go.ChangeAt Go.RowKit Go.Maps
set_option maxRecDepth 100000



section
variable {w : World} {A : Option Addr} {m : Nat} {l : List LStep}
set_option maxHeartbeats 3200000 in
theorem holds_yes (c : Nat) (x : Lk) (t0 t1 : Int) (hs : SlC lsC 6 w A m l) (hgood : ∀ s ∈ l, GoodS s) (hx : GoodL x) (hmc : m * 72 ≤ 140737488351232) (hT : Tabs w)
    (hfew : fewL ([] ++ l ++ [(0, x, 0)]) = true) (hwo : ¬ x.who = ⟨#[111, 116, 104, 101, 114]⟩)
    (ht0 : -9223372036854775808 ≤ t0) (ht0' : t0 ≤ 9223372036854775807) (ht1 : -9223372036854775808 ≤ t1) (ht1' : t1 ≤ 9223372036854775807) :
    Calls Tryd.prog 3 #[.slice A m c, lkV x, .agg #[.int .i64 t0, .int .i64 t1]] w fun e w' => e = .returned (.bool true) ∧ Ext w w' := by
  have hfew0 := hfew
  clear hfew
  obtain ⟨na, id, wh, ti⟩ := x
  unfold lkV
  dsimp only
  go_enter Tryd.func3, Tryd.ntmps3
  have hEa : Ext w ((w.alloc (Obj.cells #[.string na, .string id, .string wh, .int .i64 ti] 24)).alloc (Obj.cells #[.int .i64 t0, .int .i64 t1] 25)) := ((Ext.refl w).alloc _).alloc _
  have hx1 := Blk.new w 24 #[.string na, .string id, .string wh, .int .i64 ti]
  have hx2 := hx1.alloc (Obj.cells #[.int .i64 t0, .int .i64 t1] 25)
  have hy2 := Blk.new (w.alloc (Obj.cells #[.string na, .string id, .string wh, .int .i64 ti] 24)) 25 #[.int .i64 t0, .int .i64 t1]
  go_wp2_with (first
    | (go_at_call 9; refine Hid.out ?_))
  refine Hid.mk_ ((awake_lk _ (hT.ext hEa)).mono ?_)
  rintro e w1 ⟨rfl, hE1⟩
  have hx3 := hx2.below hE1 hx2.lt
  have hy3 : Blk w1 (w.heap.size + 1) 25 #[.int .i64 t0, .int .i64 t1] := by simpa using hy2.below hE1 hy2.lt
  have hE01 := hEa.trans hE1
  clear hx1 hx2 hy2 hEa
  go_wp2
  obtain ⟨gx, hgx⟩ : ∃ gx, gx = w.heap.size := ⟨_, rfl⟩
  rw [← hgx] at hx3 hy3 ⊢
  have HGX := Lib.hid hgx
  have x0 : w1.cell? ⟨gx, 0, none⟩ = some (.string na) := hx3.cell 0
  have x1 : w1.cell? ⟨gx, 1, none⟩ = some (.string id) := hx3.cell 1
  have x2 : w1.cell? ⟨gx, 2, none⟩ = some (.string wh) := hx3.cell 2
  have x3 : w1.cell? ⟨gx, 3, none⟩ = some (.int .i64 ti) := hx3.cell 3
  have X1 := Lib.hid (fun (w' : World) (hE : Ext w1 w') => (⟨later hE x0, later hE x1, later hE x2, later hE x3⟩ : w'.cell? ⟨gx, 0, none⟩ = some (.string na) ∧ w'.cell? ⟨gx, 1, none⟩ = some (.string id) ∧ w'.cell? ⟨gx, 2, none⟩ = some (.string wh) ∧ w'.cell? ⟨gx, 3, none⟩ = some (.int .i64 ti)))
  have hs1 := hs.ext hE01
  obtain ⟨st, hst⟩ : ∃ st : LStep, st = (0, ⟨na, id, wh, ti⟩, 0) := ⟨_, rfl⟩
  have hEA : Ext w1 (w1.alloc (Obj.cells #[] 29)).drew := ((Ext.refl _).alloc _).drew
  have hEB : Ext w1 ((w1.alloc (Obj.cells #[] 29)).alloc (Obj.cells #[.int .i64 0, .string na, .string id, .string wh, .int .i64 ti, .int .i64 0] 29)).drew := (((Ext.refl _).alloc _).alloc _).drew
  have hEC : Ext w1 ((w1.alloc (Obj.cells #[.int .i64 0, .string na, .string id, .string wh, .int .i64 ti, .int .i64 0] 29)).alloc (Obj.cells #[] 29)).drew := (((Ext.refl _).alloc _).alloc _).drew
  have hoA : OsC lsC 29 6 (w1.alloc (Obj.cells #[] 29)).drew w1.heap.size (some ⟨w1.heap.size, 0, none⟩) 0 0 [] := by
    exact (OsC.new0 w1 w1.heap.size (Nat.le_refl _) lsC_len lsC_one).ext (Ext.refl _).drew
  have hoB : OsC lsC 29 6 ((w1.alloc (Obj.cells #[] 29)).alloc (Obj.cells #[.int .i64 0, .string na, .string id, .string wh, .int .i64 ti, .int .i64 0] 29)).drew w1.heap.size (some ⟨w1.heap.size, 0, none⟩) 0 0 [] := by
    exact (OsC.new0 w1 w1.heap.size (Nat.le_refl _) lsC_len lsC_one).ext ((Ext.refl _).alloc _).drew
  have hoC : OsC lsC 29 6 ((w1.alloc (Obj.cells #[.int .i64 0, .string na, .string id, .string wh, .int .i64 ti, .int .i64 0] 29)).alloc (Obj.cells #[] 29)).drew w1.heap.size (some ⟨w1.heap.size + 1, 0, none⟩) 0 0 [] := by
    have h1 := (OsC.new0 (e := 29) (w1.alloc (Obj.cells #[.int .i64 0, .string na, .string id, .string wh, .int .i64 ti, .int .i64 0] 29)) w1.heap.size (by simp) lsC_len lsC_one).ext (Ext.refl _).drew
    simpa using h1
  have hrB : SlC lsC 6 ((w1.alloc (Obj.cells #[] 29)).alloc (Obj.cells #[.int .i64 0, .string na, .string id, .string wh, .int .i64 ti, .int .i64 0] 29)).drew (some ⟨w1.heap.size + 1, 0, none⟩) 1 [st] := by
    rw [hst]
    have h1 := (SlC.new_ (cs := lsC) (w1.alloc (Obj.cells #[] 29)) [(0, ⟨na, id, wh, ti⟩, 0)] lsC_len (by simp) _ rfl (0, 0) 1 rfl 29).ext (Ext.refl _).drew
    simpa [lsC] using h1
  have hrC : SlC lsC 6 ((w1.alloc (Obj.cells #[.int .i64 0, .string na, .string id, .string wh, .int .i64 ti, .int .i64 0] 29)).alloc (Obj.cells #[] 29)).drew (some ⟨w1.heap.size, 0, none⟩) 1 [st] := by
    rw [hst]
    exact (SlC.new_ (cs := lsC) w1 [(0, ⟨na, id, wh, ti⟩, 0)] lsC_len (by simp) _ rfl (0, 0) 1 rfl 29).ext ((Ext.refl _).alloc _).drew
  have hgood2 : ∀ s ∈ [] ++ l ++ [st], GoodS s := by
    intro s hm
    simp only [List.nil_append, List.mem_append, List.mem_singleton] at hm
    rcases hm with hm | hm
    · exact hgood s hm
    · rw [hm, hst]; exact ⟨hx, by show (-9223372036854775808 : Int) ≤ 0; omega, by show (0 : Int) ≤ 9223372036854775807; omega⟩
  clear hgx
  have HRA := Lib.hid (fun (w3 : World) => (show SlC lsC 6 (w3.alloc (Obj.cells #[.int .i64 0, .string na, .string id, .string wh, .int .i64 ti, .int .i64 0] 29)) (some ⟨w3.heap.size, 0, none⟩) 1 [st] by
    rw [hst]
    exact SlC.new_ (cs := lsC) w3 [(0, ⟨na, id, wh, ti⟩, 0)] lsC_len (by simp) _ rfl (0, 0) 1 rfl 29))
  have hfew : fewL ([] ++ l ++ [st]) = true := by rw [hst]; exact hfew0
  have HF := Lib.hid hfew
  clear hfew hfew0
  have hwo2 : ¬ wh = ⟨#[111, 116, 104, 101, 114]⟩ := hwo
  clear hwo
  have HWO := Lib.hid hwo2
  have hto : (⟨#[111, 116, 104, 101, 114]⟩ : ByteArray).toList = [111, 116, 104, 101, 114] := by rw [ByteArray.toList_eq]
  have hwne' : (wh.toList == [111, 116, 104, 101, 114]) = false := beq_eq_false_iff_ne.2 (hto ▸ toList_ne hwo2)
  clear hto
  clear hwo2
  have v0 : ∀ o, (w1.alloc o).cell? ⟨gx, 0, none⟩ = some (.string na) := fun o => (X1.out _ ((Ext.refl w1).alloc o)).1
  have v1 : ∀ o, (w1.alloc o).cell? ⟨gx, 1, none⟩ = some (.string id) := fun o => (X1.out _ ((Ext.refl w1).alloc o)).2.1
  have v2 : ∀ o, (w1.alloc o).cell? ⟨gx, 2, none⟩ = some (.string wh) := fun o => (X1.out _ ((Ext.refl w1).alloc o)).2.2.1
  have v3 : ∀ o, (w1.alloc o).cell? ⟨gx, 3, none⟩ = some (.int .i64 ti) := fun o => (X1.out _ ((Ext.refl w1).alloc o)).2.2.2
  go_cut [29] (fun s29 wx => s29 = .bool false ∧ Ext w1 wx)
  case first =>
    first
    | (go_region_law (first
        | (go_simp; go_at_call 10; refine (few_lk c5 ho5.sl hgood2).mono ?_; rintro e w6 ⟨rfl, hE6⟩; rw [HF.out]; have hE16 := hE5.trans hE6; obtain ⟨q0, q1, q2, q3⟩ := X1.out _ hE16)
        | (refine step_appC einfo_step rfl _ _ rfl hoA rfl (hs1.ext hEA) rfl (by omega) hEA.size_le ?_; intro A3 m3 c3 w3 ho3 hg3 hat3; have hE3 : Ext w1 w3 := hEA.grown hg3 hoA.ge; obtain ⟨y0, y1, y2, y3⟩ := X1.out _ hE3)
        | (refine step_appC einfo_step rfl _ _ rfl hoB rfl (hs1.ext hEB) rfl (by omega) hEB.size_le ?_; intro A3 m3 c3 w3 ho3 hg3 hat3; have hE3 : Ext w1 w3 := hEB.grown hg3 hoB.ge; have hr3 := hrB.kept hg3 (.inr (by simp [ob])); obtain ⟨y0, y1, y2, y3⟩ := X1.out _ hE3)
        | (refine step_appC einfo_step rfl _ _ rfl hoC rfl (hs1.ext hEC) rfl (by omega) hEC.size_le ?_; intro A3 m3 c3 w3 ho3 hg3 hat3; have hE3 : Ext w1 w3 := hEC.grown hg3 hoC.ge; have hr3 := hrC.kept hg3 (.inr (by simp [ob])); obtain ⟨y0, y1, y2, y3⟩ := X1.out _ hE3)
        | (refine step_appC einfo_step rfl _ _ rfl ho3 rfl hr3 rfl (by have h1 := ho3.len; have h2 := hs.len; simp only [List.nil_append] at h1; omega) hE3.size_le ?_; intro A5 m5 c5 w5 ho5 hg5 hat5; have hE5 : Ext w1 w5 := hE3.grown hg5 ho3.ge; obtain ⟨z0, z1, z2, z3⟩ := X1.out _ hE5)
        | (refine step_appC einfo_step rfl _ _ rfl (ho3.ext ((Ext.refl w3).alloc _)) rfl (HRA.out w3) rfl (by have h1 := ho3.len; have h2 := hs.len; simp only [List.nil_append] at h1; omega) (Nat.le_trans hE3.size_le (by simp)) ?_; intro A5 m5 c5 w5 ho5 hg5 hat5; have hE5 : Ext w1 w5 := (hE3.alloc _).grown hg5 ho3.ge; obtain ⟨z0, z1, z2, z3⟩ := X1.out _ hE5)
        | fail))
    | fail
    all_goals (go_wp2_with fail; go_meet; exact ⟨rfl, hE16⟩)
  case rest =>
    obtain ⟨rfl, hE1c⟩ := hcut
    clear hoA hoB hoC hrB hrC HRA hEA hEB hEC v0 v1 v2 v3
    go_wp2_with (first
      | (go_at_call 11; refine Hid.out ?_))
    refine Hid.mk_ ((new_any wc).mono ?_)
    rintro e w2 ⟨g, bm, rfl, hl2, hE2, hg, hb⟩
    have hE12 : Ext w1 w2 := hE1c.trans hE2
    have hbm1 : w1.heap.size ≤ bm := Nat.le_trans hE1c.size_le hb
    have hm47 := hs.le
    have HL := Lib.hid hs.len
    have HG := Lib.hid hgood
    clear hgood hgood2 hE2 hE1c
    go_wp2
    go_loopw [8] (fun i wr => ∃ (q n : Nat) (F : LF), q ≤ m ∧ i = .int .i64 q ∧ n ≤ q ∧ Lks wr g bm n F ∧ Ext w1 wr) (fun i _ => m - (intOf i).toNat)
    case atStart => exact ⟨0, 0, _, Nat.zero_le _, rfl, Nat.le_refl _, hl2, hE12⟩
    case round =>
      obtain ⟨q, n, F, hq, rfl, hnq, hl, hE⟩ := hrel
      by_cases hlt : q < m
      · obtain ⟨b, off, hA, hbl, hcs⟩ := (hs1.ext hE).at_ hlt (by omega)
        subst hA
        have hlt1 : q < l.length := by rw [← HL.out]; exact hlt
        have hgs := HG.out _ (List.getElem_mem hlt1)
        obtain ⟨s, hsq⟩ : ∃ s, s = l[q] := ⟨_, rfl⟩
        rw [← hsq] at hgs
        have y0 := hcs q hlt1 0 (by omega)
        have y1 := hcs q hlt1 1 (by omega)
        have y2 := hcs q hlt1 2 (by omega)
        have y3 := hcs q hlt1 3 (by omega)
        have y4 := hcs q hlt1 4 (by omega)
        have y5 := hcs q hlt1 5 (by omega)
        simp only [← hsq, lsC, List.getElem_cons_zero, List.getElem_cons_succ, ← Nat.add_assoc, Nat.add_zero] at y0 y1 y2 y3 y4 y5
        clear hcs hsq
        have hi1 : (q : Int) < (m : Int) := by omega
        go_wp2_with (first
          | (go_at_call 12; refine Hid.out ?_))
        refine Hid.mk_ ((do_any s hl (by unfold maxLen; omega) (hT.ext (hE01.trans hE)) hgs).mono ?_)
        rintro e wx ⟨F', n', hn', ⟨code, rfl, _⟩, hdo, hlx, hgx⟩
        have hEx : Ext w1 wx := hE.grown hgx (fun k hk => by injection hk with hk; omega)
        go_wp2
        go_roundw
        case rel => exact ⟨q + 1, n', F', by omega, by go_num, by omega, hlx, hEx⟩
        case measure => simp [intOf]; omega
      · have hp0 : wr.cell? ⟨gx + 1, 0, none⟩ = some (.int .i64 t0) := later hE (hy3.cell 0)
        have hp1 : wr.cell? ⟨gx + 1, 1, none⟩ = some (.int .i64 t1) := later hE (hy3.cell 1)
        obtain ⟨z0, z1, z2, z3⟩ := X1.out _ hE
        have hnm : n < maxLen := by unfold maxLen; omega
        have hn47 : n ≤ 140737488355328 := by omega
        obtain ⟨gl1, gl2, gl3, gl4, gl5⟩ := hx
        dsimp only at gl1 gl2 gl3 gl4 gl5
        have gm1 : na.size ≤ maxLen := by unfold maxLen; omega
        have gm2 : id.size ≤ maxLen := by unfold maxLen; omega
        clear hnq HL HG hs1 x0 x1 x2 x3
        go_wp2
        go_quiet (fail)
        go_wp2_with (first
          | (go_at_call 13; refine Hid.out ?_))
        refine Hid.mk_ ((acquire_any wh na id t0 ti (hl.ext ((Ext.refl wr).drewN _)) gm1 gm2 hnm (hT.ext (hE01.trans (hE.drewN _))) (by omega) (by omega) ht0 ht0' gl4 gl5).mono ?_)
        rintro e w5 ⟨F1, n1, hn1, ⟨code, rfl, hA⟩, hl5, hg5⟩
        have hE5 : Ext w1 w5 := (hE.drewN _).grown hg5 (fun k hk => by injection hk with hk; omega)
        clear hg5
        by_cases hc0 : code = 0
        · subst hc0
          obtain ⟨hpr, hbt, _, hF⟩ := acq_ok hA
          subst hF
          obtain ⟨z0, z1, z2, z3⟩ := X1.out _ hE5
          have HP := Lib.hid hpr
          have HBT := Lib.hid hbt
          clear hA hpr hbt
          go_wp2_with (first
            | (go_at_call 14; refine Hid.out ?_))
          refine Hid.mk_ ((holder_any na id t1 hl5 gm1 gm2).mono ?_)
          rintro e w6 ⟨rfl, hE6⟩
          have hE16 := hE5.trans hE6
          have hl6 := hl5.ext hE6
          obtain ⟨z0, z1, z2, z3⟩ := X1.out _ hE16
          have v0 : ∀ o, (w6.alloc o).cell? ⟨gx, 0, none⟩ = some (.string na) := fun o => later ((Ext.refl w6).alloc o) z0
          have v1 : ∀ o, (w6.alloc o).cell? ⟨gx, 1, none⟩ = some (.string id) := fun o => later ((Ext.refl w6).alloc o) z1
          have v2 : ∀ o, (w6.alloc o).cell? ⟨gx, 2, none⟩ = some (.string wh) := fun o => later ((Ext.refl w6).alloc o) z2
          have v3 : ∀ o, (w6.alloc o).cell? ⟨gx, 3, none⟩ = some (.int .i64 ti) := fun o => later ((Ext.refl w6).alloc o) z3
          have hh : heldF (upd F na id (some ⟨na, id, wh, ti⟩)) na id t1 = if t1 < ti then some ⟨na, id, wh, ti⟩ else none := by rw [heldF_upd, if_pos ⟨rfl, rfl⟩]
          by_cases ht : t1 < ti
          · rw [if_pos ht] at hh
            rw [hh]
            simp only [Option.getD_some, Option.isSome_some]
            unfold lkV
            dsimp only
            have HH := Lib.hid hh
            clear hh
            have hE7 : Ext w6 (w6.alloc (Obj.cells #[.string na, .string id, .string wh, .int .i64 ti] 35)) := (Ext.refl _).alloc _
            have hl7 := hl6.ext hE7
            have hE17 := hE16.trans hE7
            have hn1m : n1 < maxLen := by unfold maxLen; omega
            clear hE7
            go_wp2_with (first
              | (go_at_call 13; refine Hid.out ?_))
            refine Hid.mk_ ((acquire_any ⟨#[111, 116, 104, 101, 114]⟩ na id t1 (t1 + 1) hl7 gm1 gm2 hn1m (hT.ext (hE01.trans hE17)) (by decide) (by omega) ht1 ht1' (by omega) (by omega)).mono ?_)
            rintro e w8 ⟨F2, n2, hn2, ⟨code, rfl, hA⟩, hl8, hg8⟩
            have hE8 : Ext w1 w8 := hE17.grown hg8 (fun k hk => by injection hk with hk; omega)
            have hpo := proper_who (who' := ⟨#[111, 116, 104, 101, 114]⟩) HP.out (by decide)
            clear hg8
            by_cases htn : t1 < 0
            · obtain ⟨rfl, hF2⟩ := acq_bad hA hpo (.inl htn)
              subst hF2
              clear hA hpo
              obtain ⟨z0, z1, z2, z3⟩ := X1.out _ hE8
              go_wp2_with (first
                | (go_at_call 15; refine Hid.out ?_))
              refine Hid.mk_ ((release_any ⟨#[111, 116, 104, 101, 114]⟩ na id t1 hl8 gm1 gm2).mono ?_)
              rintro e w9 ⟨F3, ⟨code, rfl, hA⟩, hl9, hg9⟩
              obtain ⟨rfl, hF3⟩ := rel_locked hA HH.out HWO.out
              subst hF3
              have hE9 : Ext w1 w9 := hE8.grown hg9 (fun k hk => by injection hk with hk; omega)
              clear hA hg9
              obtain ⟨z0, z1, z2, z3⟩ := X1.out _ hE9
              go_wp2_with (first
                | (go_at_call 15; refine Hid.out ?_))
              refine Hid.mk_ ((release_any wh na id t1 hl9 gm1 gm2).mono ?_)
              rintro e w10 ⟨F4, ⟨code, rfl, hA⟩, hl10, hg10⟩
              obtain ⟨rfl, _⟩ := rel_ok hA HH.out rfl
              have hE10 : Ext w1 w10 := hE9.grown hg10 (fun k hk => by injection hk with hk; omega)
              clear hA hg10
              go_wp2
              go_ret
              exact ⟨rfl, hE01.trans hE10⟩
            · obtain ⟨rfl, hF2⟩ := acq_locked hA hpo (by unfold badT; omega) HH.out HWO.out
              subst hF2
              clear hA hpo
              obtain ⟨z0, z1, z2, z3⟩ := X1.out _ hE8
              go_wp2_with (first
                | (go_at_call 15; refine Hid.out ?_))
              refine Hid.mk_ ((release_any ⟨#[111, 116, 104, 101, 114]⟩ na id t1 hl8 gm1 gm2).mono ?_)
              rintro e w9 ⟨F3, ⟨code, rfl, hA⟩, hl9, hg9⟩
              obtain ⟨rfl, hF3⟩ := rel_locked hA HH.out HWO.out
              subst hF3
              have hE9 : Ext w1 w9 := hE8.grown hg9 (fun k hk => by injection hk with hk; omega)
              clear hA hg9
              obtain ⟨z0, z1, z2, z3⟩ := X1.out _ hE9
              go_wp2_with (first
                | (go_at_call 15; refine Hid.out ?_))
              refine Hid.mk_ ((release_any wh na id t1 hl9 gm1 gm2).mono ?_)
              rintro e w10 ⟨F4, ⟨code, rfl, hA⟩, hl10, hg10⟩
              obtain ⟨rfl, _⟩ := rel_ok hA HH.out rfl
              have hE10 : Ext w1 w10 := hE9.grown hg10 (fun k hk => by injection hk with hk; omega)
              clear hA hg10
              go_wp2
              go_ret
              exact ⟨rfl, hE01.trans hE10⟩
          · rw [if_neg ht] at hh
            rw [hh]
            simp only [Option.getD_none, Option.isSome_none]
            unfold lkV lk0
            dsimp only
            have HH := Lib.hid hh
            have htd : decide (t1 < ti) = false := decide_eq_false ht
            clear hh
            go_wp2_with (first
              | (go_at_call 15; refine Hid.out ?_))
            refine Hid.mk_ ((release_any wh na id t1 (hl6.ext ((Ext.refl w6).alloc _)) gm1 gm2).mono ?_)
            rintro e w8 ⟨F2, ⟨code, rfl, hA⟩, hl8, hg8⟩
            have hE8 : Ext w1 w8 := (hE16.alloc _).grown hg8 (fun k hk => by injection hk with hk; omega)
            obtain ⟨rfl, _⟩ := rel_none hA HH.out
            clear hA hg8
            go_wp2
            go_ret
            exact ⟨rfl, hE01.trans hE8⟩
        · have hcb : (code == 0) = false := beq_eq_false_iff_ne.2 hc0
          have hcb' : (code != 0) = true := bne_iff_ne.2 hc0
          clear hA hc0
          go_wp2
          go_ret
          exact ⟨rfl, hE01.trans hE5⟩
end

end Go.Proofs.YthmeobjomidkoaaDoor
