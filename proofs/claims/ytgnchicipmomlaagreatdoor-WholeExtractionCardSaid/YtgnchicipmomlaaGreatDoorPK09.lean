/- The program's scripts: what is proper, sound, valid. -/
import Derived.Test.YtgnchicipmomlaaGreatDoorPK08
namespace Go.Proofs.YtgnchicipmomlaaGreatDoor
open Go.RowKit
set_option maxRecDepth 100000
attribute [local go_sem] ext_refl_t ext_alloc_t ext_drew_t ext_drewN_t ext_alloc2_t ext_alloc3_t ext_alloc4_t ext_alloc5_t ext_alloc6_t ext_alloc7_t ext_alloc8_t ext_alloc1d_t ext_alloc2d_t ext_alloc3d_t ext_alloc4d_t
theorem rngAt {wr : World} {b off q : Nat} {l : List (UInt8 × UInt8)} (hcs : ∀ q (hq : q < l.length) j (hj : j < 2), wr.cell? ⟨b, off + (q * 2 + j), none⟩ = some ((rngC l[q])[j]'(by rw [rngC_len]; exact hj))) (hlt : q < l.length) :
    ∃ y z : Nat, wr.cell? ⟨b, off + q * 2, none⟩ = some (.int .u8 (y : Int)) ∧ wr.cell? ⟨b, off + q * 2 + 1, none⟩ = some (.int .u8 (z : Int)) := by
  have y0 := hcs q hlt 0 (by omega)
  have y1 := hcs q hlt 1 (by omega)
  simp only [rngC, bv, List.getElem_cons_zero, List.getElem_cons_succ, Nat.add_zero, ← Nat.add_assoc] at y0 y1
  exact ⟨_, _, y0, y1⟩
theorem itmAt {wr : World} {b off q : Nat} {l : List Itm} (hcs : ∀ q (hq : q < l.length) j (hj : j < 5), wr.cell? ⟨b, off + (q * 5 + j), none⟩ = some ((itmC l[q])[j]'(by rw [itmC_len]; exact hj))) (hlt : q < l.length) :
    ∃ y, y ∈ l ∧ wr.cell? ⟨b, off + q * 5, none⟩ = some (.string y.text) ∧ wr.cell? ⟨b, off + q * 5 + 1, none⟩ = some (.slice y.h.A y.h.m y.h.c) ∧ wr.cell? ⟨b, off + q * 5 + 2, none⟩ = some (.bool y.no) ∧ wr.cell? ⟨b, off + q * 5 + 3, none⟩ = some (.int .i64 y.least) ∧ wr.cell? ⟨b, off + q * 5 + 4, none⟩ = some (.int .i64 y.most) := by
  have y0 := hcs q hlt 0 (by omega)
  have y1 := hcs q hlt 1 (by omega)
  have y2 := hcs q hlt 2 (by omega)
  have y3 := hcs q hlt 3 (by omega)
  have y4 := hcs q hlt 4 (by omega)
  simp only [itmC, List.getElem_cons_zero, List.getElem_cons_succ, Nat.add_zero, ← Nat.add_assoc] at y0 y1 y2 y3 y4
  exact ⟨_, List.getElem_mem hlt, y0, y1, y2, y3, y4⟩
section
variable {w : World} {A : Option Addr} {m c : Nat}
set_option maxHeartbeats 800000 in
theorem proper1_any (y z : Nat) :
    Calls Tryz.prog 126 #[.agg #[.int .u8 (y : Int), .int .u8 (z : Int)]] w fun e w' => RetB (fun _ => True) e ∧ Ext w w' := by
  go_enter Tryz.func126, Tryz.ntmps126
  go_wp2
  go_ret
  exact ⟨⟨_, rfl, trivial⟩, (Ext.refl w).alloc _⟩
set_option maxHeartbeats 3200000 in
theorem idxProper_any {l : List (UInt8 × UInt8)} (hs : SlC rngC 2 w A m l) :
    Calls Tryz.prog 150 #[.slice A m c, .func (.func 126) #[] #[]] w fun e w' => RetZs (fun z => -1 ≤ z ∧ z ≤ 140737488355328) e ∧ Ext w w' := by
  have HL := Lib.hid hs.len
  have hle := hs.le
  go_enter Tryz.func150, Tryz.ntmps150
  go_wp2
  go_loopw [8] (fun i wr => ∃ q : Nat, q ≤ m ∧ i = .int .i64 q ∧ Ext w wr) (fun i _ => m - (intOf i).toNat)
  case atStart => exact ⟨0, Nat.zero_le _, rfl, Ext.refl _⟩
  case round =>
    obtain ⟨q, hq, rfl, hE⟩ := hrel
    by_cases hlt : q < m
    · obtain ⟨b, off, e0, hbl, hcs⟩ := (hs.ext hE).at_ hlt (by omega)
      subst e0
      have hlt1 : q < l.length := by rw [← HL.out]; exact hlt
      have HM : Hid (l[q] ∈ l) := List.getElem_mem hlt1
      obtain ⟨y, z, y0, y1⟩ := rngAt hcs hlt1
      have hi1 : (q : Int) < (m : Int) := by omega
      go_wp2_with (first
        | (go_at_call 126; refine Hid.out ?_))
      refine Hid.mk_ ((proper1_any y z).mono ?_)
      rintro e w2 ⟨⟨r, rfl, -⟩, hE2⟩
      cases r with
      | true =>
        go_wp2
        go_ret
        exact ⟨⟨_, rfl, by omega, by omega⟩, hE.trans hE2⟩
      | false =>
        go_wp2
        all_goals first
          | (go_ret; exact ⟨⟨_, rfl, by omega, by omega⟩, hE⟩)
          | (refine ⟨⟨q + 1, by omega, by go_num, hE.trans hE2⟩, ?_⟩; first | (simp [intOf]; omega) | (simp [intOf]) | omega)
          | (go_roundw; (case rel => exact ⟨q + 1, by omega, by go_num, hE.trans hE2⟩); (case measure => first | (simp [intOf]; omega) | (simp [intOf])))
    · have hi1 : ¬ (q : Int) < (m : Int) := by omega
      go_wp2
      go_ret
      exact ⟨⟨_, rfl, by omega, by omega⟩, hE⟩
set_option maxHeartbeats 800000 in
theorem cntProper_any {l : List (UInt8 × UInt8)} (hs : SlC rngC 2 w A m l) :
    Calls Tryz.prog 125 #[.slice A m c, .func (.func 126) #[] #[]] w fun e w' => RetB (fun _ => True) e ∧ Ext w w' := by
  go_enter Tryz.func125, Tryz.ntmps125
  go_wp2_with (first
    | (go_at_call 150; refine Hid.out ?_))
  refine Hid.mk_ ((idxProper_any hs).mono ?_)
  rintro e w2 ⟨⟨z, rfl, hz1, hz2⟩, hE2⟩
  go_wp2
  go_ret
  exact ⟨⟨_, rfl, trivial⟩, hE2⟩

set_option maxHeartbeats 3200000 in
theorem properS_any {x : Itm} (hx : ItmW w x) :
    Calls Tryz.prog 104 #[itmV x] w fun e w' => RetB (fun _ => True) e ∧ Ext w w' := by
  unfold itmV
  obtain ⟨text, rng, no, least, most, ⟨A, m, c⟩⟩ := x
  have hr := hx.r
  have hgt := hx.text
  have hgl := hx.least
  have hgm := hx.most
  unfold GoodStr at hgt
  unfold I64 at hgl hgm
  dsimp only at hr hgt hgl hgm ⊢
  have HL := Lib.hid hr.sl.len
  have hle := hr.sl.le
  dsimp only at HL hle
  obtain ⟨W0, hW0⟩ : ∃ W0, W0 = w.alloc (Obj.cells #[.string text, .slice A m c, .bool no, .int .i64 least, .int .i64 most] 152) := ⟨_, rfl⟩
  have hb : Blk W0 w.heap.size 152 #[.string text, .slice A m c, .bool no, .int .i64 least, .int .i64 most] := by rw [hW0]; exact Blk.new w _ _
  have hE0 : Ext w W0 := by rw [hW0]; exact (Ext.refl w).alloc _
  have hs := hr.sl.ext hE0
  have X0 := laters (hb.cell 0)
  have X1 := laters (hb.cell 1)
  have X2 := laters (hb.cell 2)
  simp at X0 X1 X2
  go_enter Tryz.func104, Tryz.ntmps104
  go_wp2_with (first
    | (go_at_call 124; refine Hid.out ?_))
  refine Hid.mk_ ((mark_any ⟨text, rng, no, least, most, ⟨A, m, c⟩⟩).mono ?_)
  rintro e w1 ⟨⟨suf, bb, rfl, hsuf⟩, hE1⟩
  rw [← hW0] at hE1
  have x0 := X0 _ hE1
  have x1 := X1 _ hE1
  have x2 := X2 _ hE1
  have hE9 := hE0.trans hE1
  clear hb hW0 hx hr
  cases bb with
  | false =>
    go_wp2
    go_ret
    exact ⟨⟨_, rfl, trivial⟩, hE9⟩
  | true =>
    by_cases ht : text.size = 0
    · have hte := tl_empty ht
      clear ht
      by_cases hm : 1 ≤ m ∧ m ≤ 20
      · obtain ⟨hm1, hm2⟩ := hm
        go_wp2_with (first
          | (go_at_call 125; refine Hid.out ?_))
        refine Hid.mk_ ((cntProper_any (hs.ext hE1)).mono ?_)
        rintro e w2 ⟨⟨r, rfl, -⟩, hE2⟩
        go_wp2
        go_ret
        exact ⟨⟨_, rfl, trivial⟩, hE9.trans hE2⟩
      · by_cases hm1 : 1 ≤ m
        · have hm2 : ¬ m ≤ 20 := by omega
          clear hm
          go_wp2
          all_goals go_ret
          all_goals exact ⟨⟨_, rfl, trivial⟩, hE9⟩
        · clear hm
          go_wp2
          all_goals go_ret
          all_goals exact ⟨⟨_, rfl, trivial⟩, hE9⟩
    · have hte := tl_full ht
      clear ht
      go_wp2
      all_goals go_ret
      all_goals exact ⟨⟨_, rfl, trivial⟩, hE9⟩
set_option maxHeartbeats 800000 in
theorem sound1_any {x : Itm} (hx : ItmW w x) :
    Calls Tryz.prog 103 #[itmV x] w fun e w' => RetB (fun _ => True) e ∧ Ext w w' := by
  unfold itmV
  go_enter Tryz.func103, Tryz.ntmps103
  go_wp2_with (first
    | (go_at_call 104; refine Hid.out ?_))
  refine Hid.mk_ ((properS_any (x := x) (hx.ext ((Ext.refl w).alloc _))).mono ?_)
  rintro e w1 ⟨⟨r, rfl, -⟩, hE1⟩
  go_wp2
  go_ret
  exact ⟨⟨_, rfl, trivial⟩, ((Ext.refl w).alloc _).trans hE1⟩
set_option maxHeartbeats 3200000 in
theorem idxSound_any {l : List Itm} (hs : SlC itmC 5 w A m l) (hg : ∀ x ∈ l, ItmW w x) :
    Calls Tryz.prog 123 #[.slice A m c, .func (.func 103) #[] #[]] w fun e w' => RetZs (fun z => -1 ≤ z ∧ z ≤ 140737488355328) e ∧ Ext w w' := by
  have HL := Lib.hid hs.len
  have hle := hs.le
  go_enter Tryz.func123, Tryz.ntmps123
  go_wp2
  go_loopw [8] (fun i wr => ∃ q : Nat, q ≤ m ∧ i = .int .i64 q ∧ Ext w wr) (fun i _ => m - (intOf i).toNat)
  case atStart => exact ⟨0, Nat.zero_le _, rfl, Ext.refl _⟩
  case round =>
    obtain ⟨q, hq, rfl, hE⟩ := hrel
    by_cases hlt : q < m
    · obtain ⟨b, off, e0, hbl, hcs⟩ := (hs.ext hE).at_ hlt (by omega)
      subst e0
      have hlt1 : q < l.length := by rw [← HL.out]; exact hlt
      have HM : Hid (l[q] ∈ l) := List.getElem_mem hlt1
      obtain ⟨y, hy, y0, y1, y2, y3, y4⟩ := itmAt hcs hlt1
      have hi1 : (q : Int) < (m : Int) := by omega
      go_wp2_with (first
        | (go_at_call 103; refine Hid.out ?_))
      refine Hid.mk_ ((sound1_any (x := y) ((hg y hy).ext hE)).mono ?_)
      rintro e w2 ⟨⟨r, rfl, -⟩, hE2⟩
      cases r with
      | true =>
        go_wp2
        go_ret
        exact ⟨⟨_, rfl, by omega, by omega⟩, hE.trans hE2⟩
      | false =>
        go_wp2
        all_goals first
          | (go_ret; exact ⟨⟨_, rfl, by omega, by omega⟩, hE⟩)
          | (refine ⟨⟨q + 1, by omega, by go_num, hE.trans hE2⟩, ?_⟩; first | (simp [intOf]; omega) | (simp [intOf]) | omega)
          | (go_roundw; (case rel => exact ⟨q + 1, by omega, by go_num, hE.trans hE2⟩); (case measure => first | (simp [intOf]; omega) | (simp [intOf])))
    · have hi1 : ¬ (q : Int) < (m : Int) := by omega
      go_wp2
      go_ret
      exact ⟨⟨_, rfl, by omega, by omega⟩, hE⟩
set_option maxHeartbeats 800000 in
theorem cntSound_any {l : List Itm} (hs : SlC itmC 5 w A m l) (hg : ∀ x ∈ l, ItmW w x) :
    Calls Tryz.prog 102 #[.slice A m c, .func (.func 103) #[] #[]] w fun e w' => RetB (fun _ => True) e ∧ Ext w w' := by
  go_enter Tryz.func102, Tryz.ntmps102
  go_wp2_with (first
    | (go_at_call 123; refine Hid.out ?_))
  refine Hid.mk_ ((idxSound_any hs hg).mono ?_)
  rintro e w2 ⟨⟨z, rfl, hz1, hz2⟩, hE2⟩
  go_wp2
  go_ret
  exact ⟨⟨_, rfl, trivial⟩, hE2⟩

set_option maxHeartbeats 3200000 in
theorem soundS_any {x : Rul} (hx : RulW w x) :
    Calls Tryz.prog 73 #[rulV x] w fun e w' => RetB (fun _ => True) e ∧ Ext w w' := by
  unfold rulV
  obtain ⟨kind, items, next, ⟨A, m, c⟩⟩ := x
  have hr := hx.i
  have hgk := hx.kind
  have hgn := hx.next
  unfold GoodStr at hgk hgn
  dsimp only at hr hgk hgn ⊢
  have HL := Lib.hid hr.sl.len
  have hle := hr.sl.le
  dsimp only at HL hle
  have HG := Lib.hid hr.good
  have hr := hr.sl
  obtain ⟨W0, hW0⟩ : ∃ W0, W0 = w.alloc (Obj.cells #[.string kind, .slice A m c, .string next] 110) := ⟨_, rfl⟩
  have hb : Blk W0 w.heap.size 110 #[.string kind, .slice A m c, .string next] := by rw [hW0]; exact Blk.new w _ _
  have hE0 : Ext w W0 := by rw [hW0]; exact (Ext.refl w).alloc _
  have hs := hr.ext hE0
  have X0 := laters (hb.cell 0)
  have X1 := laters (hb.cell 1)
  have X2 := laters (hb.cell 2)
  simp at X0 X1 X2
  have HW0 := Lib.hid hW0
  clear hx hr hW0 hb
  go_enter Tryz.func73, Tryz.ntmps73
  go_upto_region 1 with fail
  rw [← HW0.out]
  have x0 := X0 _ (Ext.refl _)
  go_wp2_with (first
    | (go_at_call 44; refine Hid.out ?_))
  refine Hid.mk_ ((wordS_any kind hgk).mono ?_)
  rintro e w1 ⟨⟨r, rfl, -⟩, hE1⟩
  have x2 := X2 _ hE1
  have x1 := X1 _ hE1
  cases r with
  | false =>
    go_wp2
    go_ret
    exact ⟨⟨_, rfl, trivial⟩, hE0.trans hE1⟩
  | true =>
    by_cases hnx : next.size = 0
    · have hte := tl_empty hnx
      clear hnx
      by_cases hm : 1 ≤ m ∧ m ≤ 20
      · obtain ⟨hm1, hm2⟩ := hm
        go_wp2_with (first
          | (go_at_call 102; refine Hid.out ?_))
        refine Hid.mk_ ((cntSound_any (hs.ext hE1) (fun x hx => (HG.out x hx).ext (hE0.trans hE1))).mono ?_)
        rintro e w5 ⟨⟨r, rfl, -⟩, hE5⟩
        go_wp2
        go_ret
        exact ⟨⟨_, rfl, trivial⟩, (hE0.trans hE1).trans hE5⟩
      · by_cases hm1 : 1 ≤ m
        · have hm2 : ¬ m ≤ 20 := by omega
          clear hm
          go_wp2
          all_goals go_ret
          all_goals exact ⟨⟨_, rfl, trivial⟩, hE0.trans hE1⟩
        · clear hm
          go_wp2
          all_goals go_ret
          all_goals exact ⟨⟨_, rfl, trivial⟩, hE0.trans hE1⟩
    · have hte := tl_full hnx
      clear hnx
      go_wp2_with (first
        | (go_at_call 44; refine Hid.out ?_))
      refine Hid.mk_ ((wordS_any next hgn).mono ?_)
      rintro e w2 ⟨⟨r, rfl, -⟩, hE2⟩
      have x1 := X1 _ (hE1.trans hE2)
      cases r with
      | false =>
        go_wp2
        go_ret
        exact ⟨⟨_, rfl, trivial⟩, (hE0.trans hE1).trans hE2⟩
      | true =>
        by_cases hm : 1 ≤ m ∧ m ≤ 20
        · obtain ⟨hm1, hm2⟩ := hm
          go_wp2_with (first
            | (go_at_call 102; refine Hid.out ?_))
          refine Hid.mk_ ((cntSound_any (hs.ext (hE1.trans hE2)) (fun x hx => (HG.out x hx).ext (hE0.trans (hE1.trans hE2)))).mono ?_)
          rintro e w5 ⟨⟨r, rfl, -⟩, hE5⟩
          go_wp2
          go_ret
          exact ⟨⟨_, rfl, trivial⟩, (hE0.trans (hE1.trans hE2)).trans hE5⟩
        · by_cases hm1 : 1 ≤ m
          · have hm2 : ¬ m ≤ 20 := by omega
            clear hm
            go_wp2
            all_goals go_ret
            all_goals exact ⟨⟨_, rfl, trivial⟩, hE0.trans (hE1.trans hE2)⟩
          · clear hm
            go_wp2
            all_goals go_ret
            all_goals exact ⟨⟨_, rfl, trivial⟩, hE0.trans (hE1.trans hE2)⟩
end
end Go.Proofs.YtgnchicipmomlaaGreatDoor
