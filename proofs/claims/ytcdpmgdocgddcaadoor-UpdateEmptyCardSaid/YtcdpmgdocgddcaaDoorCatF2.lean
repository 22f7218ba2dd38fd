/- SetField, the program's and the reference's. -/
import Derived.Test.YtcdpmgdocgddcaaDoorCatF
import Derived.Test.YtcdpmgdocgddcaaDoorCatI
import Derived.Test.YtcdpmgdocgddcaaDoorCatC
import Derived.Laws.OwnMore
import Derived.Test.YtcdpmgdocgddcaaDoorCatR
import Derived.Test.YtcdpmgdocgddcaaDoorRPut
import Derived.Test.YtcdpmgdocgddcaaDoorCatPl
namespace Go.Proofs.YtcdpmgdocgddcaaDoor
open Go.RowKit
set_option maxRecDepth 100000
theorem flat_set {α : Type} {cs : α → List Value} {k : Nat} (h1 : ∀ x, (cs x).length = k) (l : List α) (i j : Nat) (hi : i < l.length) (hj : j < k) (y : α) (u : Value) (hy : cs y = (cs l[i]).set j u) : (l.flatMap cs).set (i * k + j) u = (l.set i y).flatMap cs := by
  induction l generalizing i with
  | nil => simp at hi
  | cons x t ih =>
    cases i with
    | zero =>
      simp only [List.getElem_cons_zero] at hy
      rw [List.flatMap_cons, List.set_cons_zero, List.flatMap_cons, hy, Nat.zero_mul, Nat.zero_add, List.set_append_left _ _ (by rw [h1]; exact hj)]
    | succ i =>
      simp only [List.getElem_cons_succ] at hy
      have e1 : (i + 1) * k + j - k = i * k + j := by rw [Nat.succ_mul]; omega
      rw [List.flatMap_cons, List.set_cons_succ, List.flatMap_cons, List.set_append_right _ _ (by rw [h1, Nat.succ_mul]; omega), h1, e1, ih i (by simpa using hi) hy]
theorem OsC.setAt {α : Type} {cs : α → List Value} {e : TypeId} {k : Nat} {w : World} {base g m c : Nat} {l : List α} (h : OsC cs e k w base (some ⟨g, 0, none⟩) m c l) {i j : Nat} (hi : i < l.length) (hj : j < k) (y : α) (u : Value) (hy : cs y = (cs l[i]).set j u) :
    OsC cs e k (w.setCell ⟨g, i * k + j, none⟩ u) base (some ⟨g, 0, none⟩) m c (l.set i y) := by
  refine ⟨?_, h.one, h.cell, by rw [List.length_set]; exact h.len, h.le⟩
  rw [← flat_set h.one l i j hi hj y u hy]
  exact (World.ownsRow.stored h.own _ u).1
section
variable {w : World}
set_option maxHeartbeats 6400000 in
theorem insertF_any {base : Nat} {A : Option Addr} {m c : Nat} {l : List _} (hown : OsC fdC 42 2 w base A m c l) (i : Nat) (hi : i ≤ m) (x : _) {vb : Nat} (hvB : Blk w vb 42 (fdC x).toArray) (hvb : some vb ≠ ob A) (hbase : base ≤ w.heap.size) (hbig : (m + 1) * 32 ≤ 70368744177664) :
    Calls Tryd.prog 69 #[.slice A m c, .int .i64 i, .slice (some ⟨vb, 0, none⟩) 1 1] w fun e w' => ∃ A' c', e = .returned (.slice A' (m + 1) c') ∧ OsC fdC 42 2 w' base A' (m + 1) c' (l.take i ++ [x] ++ l.drop i) ∧ w.grownBy w' (ob A) ∧ NewOr w.heap.size (ob A) (ob A') := by
  have hcap := hown.cap
  have hle := hown.le
  have hlen := Lib.hid hown.len
  have hv := Blk.slc fdC_len hvB
  have i1 : (i : Int) ≤ (m : Int) := by omega
  have i3 : (m : Int) ≤ (c : Int) := by omega
  have i4 : (i : Int) ≤ (c : Int) := by omega
  have i6 : (0 : Int) ≤ (i : Int) := by omega
  by_cases him : i = m
  · subst him
    have HL : Hid (l.take i ++ [x] ++ l.drop i = l ++ [x]) := by
      show _ = _
      rw [List.take_of_length_le (by rw [← hlen.out]; exact Nat.le_refl _), List.drop_eq_nil_of_le (by rw [← hlen.out]; exact Nat.le_refl _), List.append_nil]
    by_cases hci : c = i
    · subst hci
      have e1 : ((c : Int) == (c : Int)) = true := by simp
      go_enter Tryd.func69, Tryd.ntmps69
      go_wp2_with (first
        | (at_builtin; refine Hid.out ?_))
      refine Hid.mk_ ?_
      refine (appC einfo_fd) rfl _ _ rfl hown rfl hv rfl (by omega) hbase ?_
      intro A2 m2 c2 w2 ho2 hg2 hat2
      have hm2 : m2 = c + 1 := by rw [ho2.len, List.length_append, ← hlen.out]; rfl
      rw [hm2] at ho2 ⊢
      clear hm2
      go_wp2
      go_ret
      exact ⟨A2, c2, rfl, by rw [HL.out]; exact ho2, hg2, hat2⟩
    · have e1 : ((i : Int) == (i : Int)) = true := by simp
      go_enter Tryd.func69, Tryd.ntmps69
      go_wp2_with (first
        | (at_builtin; refine Hid.out ?_))
      refine Hid.mk_ ?_
      refine (appC einfo_fd) rfl _ _ rfl hown rfl hv rfl (by omega) hbase ?_
      intro A2 m2 c2 w2 ho2 hg2 hat2
      have hm2 : m2 = i + 1 := by rw [ho2.len, List.length_append, ← hlen.out]; rfl
      rw [hm2] at ho2 ⊢
      clear hm2
      go_wp2
      go_ret
      exact ⟨A2, c2, rfl, by rw [HL.out]; exact ho2, hg2, hat2⟩
  · have hlt : i < m := by omega
    obtain ⟨g, cur, hA, hg, hh, hmc, hcm, hsz, htk⟩ := hown.row (by omega)
    subst hA
    have hgl : g < w.heap.size := (Array.getElem?_eq_some_iff.1 hh).1
    have hvg : vb ≠ g := fun e => hvb (by rw [e]; rfl)
    have e0 : ((i : Int) == (m : Int)) = false := by rw [beq_eq_false_iff_ne]; omega
    have e2 : ¬ (c = i) := by omega
    have HCM := Lib.hid hcm
    have HTK := Lib.hid htk
    have HSZ := Lib.hid hsz
    have hcm' : c ≤ 9223372036854775807 := by simpa [maxLen] using hcm
    have hsl := hown.sl.cut (i := i) (by omega) hmc
    rw [cutA_lt (by omega), Nat.zero_add] at hsl
    clear htk hsz hcm
    by_cases hroom : m + 1 ≤ c
    · have r1 : (m : Int) + 1 ≤ (c : Int) := by omega
      have hov : ∀ lb cb, (callFunc 83 #[.slice (some ⟨vb, 0, none⟩) 1 1, .slice (some ⟨g, (i + 1) * 2, none⟩) lb cb]).run Tryd.prog w = .ok (.value (.bool false)) w := fun lb cb => by
        rw [run_callFunc_extern Tryd.func83 (by kernel_rfl) (by kernel_rfl) (by kernel_rfl) (e := Extern.SlicesOverlaps.overlaps #[23, 23] #[4]) (by kernel_rfl),
          Lib.run_overlaps_apart w 23 4 42 (einfo_fd).u 2 (fun w => (einfo_fd).size_ w) ⟨vb, 0, none⟩ ⟨g, (i + 1) * 2, none⟩ 1 1 lb cb hvg 42 42 2 cur.size (by unfold Blk at hvB; simp [World.shape?, hvB]; exact fdC_len x) (by simp [World.shape?, hh]) (by rw [HSZ.out]; omega) (hvB.frozen 0) (hvB.frozen 2)]
        rfl
      have e3 : ¬ (c = i + 1) := by omega
      go_enter Tryd.func69, Tryd.ntmps69
      go_wp2_with (simp only [hov])
      refine wp_region_ext_tail 8 (by kernel_rfl) (by kernel_rfl) ?_
      simp only [List.take_succ_cons, List.take_zero, List.drop_succ_cons, List.drop_zero]
      repeat (go_big_quiet_step (fail))
      refine wpQuiet_nil ?_
      rintro w5 ⟨⟨_, h5⟩, rfl⟩
      try dsimp only
      have hh5 : w5.heap[g]? = some (.cells cur 42 (0, 0)) := (h5.block g hgl).trans hh
      have hfit1 : (i + 1 + (m - i)) * 2 ≤ cur.size := by rw [HSZ.out]; exact Nat.mul_le_mul_right _ (by omega)
      have hfit2 : (i + 1) * 2 ≤ cur.size := by rw [HSZ.out]; exact Nat.mul_le_mul_right _ (by omega)
      have hmin1 : Nat.min (m + 1 - i) (m - i) = m - i := by simp only [Nat.min_def]; split <;> omega
      have hmin2 : Nat.min 1 (m + 1 - i) = 1 := by simp only [Nat.min_def]; split <;> omega
      have HF1 := Lib.hid hfit1
      have HF2 := Lib.hid hfit2
      clear hfit1 hfit2
      have hcp1 := fun ty dc sc => run_copyC einfo_fd ty (o := i + 1) (dCap := dc) (d := sc) hh5 (hsl.ext h5) fdC_cell hmin1 HF1.out
      obtain ⟨c1, hc1⟩ : ∃ c1, c1 = (cur.toList.take ((i + 1) * 2) ++ (l.drop i).flatMap fdC ++ cur.toList.drop ((i + 1 + (m - i)) * 2)).toArray := ⟨_, rfl⟩
      have hs1 : c1.size = cur.size := by rw [hc1]; have := splice_size (cur := cur) (o := (i + 1) * 2) (n := (m - i) * 2) (xs := (l.drop i).flatMap fdC) (by rw [flat_len fdC_len, List.length_drop, ← hlen.out]) (by rw [← Nat.add_mul]; exact HF1.out); rw [← Nat.add_mul] at this; exact this
      rw [← hc1] at hcp1
      have hh6 := setRow_heap' hh5 c1
      have hg6 : w.grownBy (w5.setRow g c1) (some g) := (h5.grownBy _).trans (grown_setRow w5 g c1)
      have hv6 := hv.kept hg6 (.inr (by show some vb ≠ some g; intro e; injection e with e; exact hvg e))
      obtain ⟨w6, hw6⟩ : ∃ w6, w6 = w5.setRow g c1 := ⟨_, rfl⟩
      rw [← hw6] at hh6 hg6 hv6
      simp only [← hw6] at hcp1
      have hcp2 := fun ty dc sc => run_copyC einfo_fd ty (o := i) (dCap := dc) (d := sc) hh6 hv6 fdC_cell hmin2 (by rw [hs1]; exact HF2.out)
      obtain ⟨c2, hc2⟩ : ∃ c2, c2 = (c1.toList.take (i * 2) ++ [x].flatMap fdC ++ c1.toList.drop ((i + 1) * 2)).toArray := ⟨_, rfl⟩
      rw [← hc2] at hcp2
      have hit := ins_take fdC_len hlt hlen.out HTK.out (by rw [Array.length_toList, HSZ.out]; exact Nat.mul_le_mul_right _ hroom) x (cur1 := c1.toList) (cur2 := c2.toList) (by rw [hc1]) (by rw [hc2])
      have hh7 := setRow_heap' hh6 c2
      have hg7 : w.grownBy (w6.setRow g c2) (some g) := hg6.trans (grown_setRow w6 g c2)
      obtain ⟨w7, hw7⟩ : ∃ w7, w7 = w6.setRow g c2 := ⟨_, rfl⟩
      rw [← hw7] at hh7 hg7
      simp only [← hw7] at hcp2
      have HIT := Lib.hid hit
      have HH7 := Lib.hid hh7
      clear hc1 hs1 hw6 hh5 hov hc2 hit hw7 hmin1 hmin2 hh6 hh7 hh hsl
      go_wp2
      go_ret
      exact ⟨some ⟨g, 0, none⟩, c, rfl, OsC.of_row rfl hg HH7.out hroom HCM.out (by have := HIT.out.2; rw [Array.length_toList, Array.length_toList] at this; rw [this, HSZ.out]) HIT.out.1 fdC_len fdC_cell (by have := hlen.out; simp only [List.length_append, List.length_take, List.length_drop, List.length_singleton]; omega) (by omega), hg7, NewOr.refl _ _⟩
    · obtain ⟨kk, hkk⟩ : ∃ kk : Nat, kk = m + 1 - i := ⟨_, rfl⟩
      have hik : i + kk = m + 1 := by omega
      have hki : (m : Int) + 1 - (i : Int) = (kk : Int) := by omega
      have r1 : (c : Int) < (m : Int) + 1 := by omega
      have hkb : kk * 32 ≤ (m + 1) * 32 := Nat.mul_le_mul_right _ (by omega)
      obtain ⟨i0, z, hi0, hz0, hz1, hz2, hz3⟩ := (einfo_fd).i
      obtain ⟨G, hG⟩ : ∃ G, G = grownCap w (m + 1) c 42 := ⟨_, rfl⟩
      obtain ⟨ROW, hROW⟩ : ∃ ROW : Array Value, ROW = ((l.take i).flatMap fdC).toArray ++ Builtin.zeroCells z.cells kk ++ Builtin.zeroCells z.cells (G - (m + 1)) := ⟨_, rfl⟩
      have hrz : ∀ ty, (Builtin.append_ #[23, 3] ty #[.slice (some ⟨g, 0, none⟩) i c, .int .i64 (kk : Int)]).run Tryd.prog w = .ok (.slice (some ⟨w.heap.size, 0, none⟩) (m + 1) G) (w.drew.alloc (.cells ROW 42)) := fun ty => by
        have h := Lib.run_append_grow_zeros w 23 3 ty 42 i0 z .i64 .i64 (einfo_fd).u Tryd.underlying3 hi0 hz0 (some ⟨g, 0, none⟩) i c ((l.take i).flatMap fdC) (by rw [hz1]; exact run_firstC (SlC.ext (hown.sl.take_ (by omega)) (Ext.refl w).drew)) kk (by omega) (by rw [hz1]; omega) (by omega) (by omega) (by rw [hz2]; omega) (by rw [hz2, hik]; exact growslice_fits (by omega) (by omega))
        rw [hik] at h
        rw [hG] at hROW
        rw [hROW, hG]
        exact h
      have hGn : m + 1 ≤ G := by rw [hG]; exact grownCap_ge w _ _ _
      have hG63 : G ≤ maxLen := by rw [hG]; exact grownCap_le_maxLen w _ _ _ (by simp only [maxLen]; omega)
      have hG63' : G ≤ 9223372036854775807 := by simpa [maxLen] using hG63
      obtain ⟨zs, hzs⟩ : ∃ zs, zs = (Builtin.zeroCells z.cells kk).toList ++ (Builtin.zeroCells z.cells (G - (m + 1))).toList := ⟨_, rfl⟩
      have hzl : zs.length = kk * 2 + (G - (m + 1)) * 2 := by rw [hzs]; simp [Builtin.zeroCells, hz3]
      have hrow : ROW.toList = (l.take i).flatMap fdC ++ zs := by rw [hROW, hzs]; simp
      have hrl : ROW.size = G * 2 := by
        rw [← Array.length_toList, hrow, List.length_append, hzl, flat_len fdC_len, List.length_take, Nat.min_eq_left (by have := hlen.out; omega)]
        rw [← Nat.add_mul, ← Nat.add_mul, show i + (kk + (G - (m + 1))) = G by omega]
      have HROW := Lib.hid hrow
      have HRL := Lib.hid hrl
      have HZL := Lib.hid hzl
      have HG63 := Lib.hid hG63
      have HKK := Lib.hid hkk
      have hmin1 : Nat.min 1 (m + 1 - i) = 1 := by simp only [Nat.min_def]; split <;> omega
      have hmin2 : Nat.min (m - i) (m - i) = m - i := by simp
      have hEW1 : Ext w (w.drew.alloc (.cells ROW 42)) := (Ext.refl w).drew.alloc _
      have hhn : (w.drew.alloc (.cells ROW 42)).heap[w.heap.size]? = some (.cells ROW 42 (0, 0)) := heap_alloc_new w.drew _
      obtain ⟨g2, hg2⟩ : ∃ g2, g2 = w.heap.size := ⟨_, rfl⟩
      obtain ⟨W1, hW1⟩ : ∃ W1, W1 = w.drew.alloc (.cells ROW 42) := ⟨_, rfl⟩
      rw [← hW1] at hrz hEW1 hhn
      rw [← hg2] at hrz hhn
      have HG2 := Lib.hid hg2
      have hcp1 := fun ty dc sc => run_copyC einfo_fd ty (o := i) (dCap := dc) (d := sc) hhn (hv.ext hEW1) fdC_cell hmin1 (by rw [HRL.out]; exact Nat.mul_le_mul_right _ (by omega))
      obtain ⟨c1, hc1⟩ : ∃ c1, c1 = (ROW.toList.take (i * 2) ++ [x].flatMap fdC ++ ROW.toList.drop ((i + 1) * 2)).toArray := ⟨_, rfl⟩
      rw [← hc1] at hcp1
      have hh2 := setRow_heap' hhn c1
      have hEW2 : Ext w (W1.setRow g2 c1) := hEW1.grown (grown_setRow W1 g2 c1) (fun k hk => by injection hk with hk; rw [← hk, HG2.out]; exact Nat.le_refl _)
      obtain ⟨W2, hW2⟩ : ∃ W2, W2 = W1.setRow g2 c1 := ⟨_, rfl⟩
      rw [← hW2] at hh2 hEW2
      simp only [← hW2] at hcp1
      have hg2l : g2 < W2.heap.size := (Array.getElem?_eq_some_iff.1 hh2).1
      have HC1 := Lib.hid hc1
      have n1 : ¬ (G = i) := by omega
      have n2 : ¬ (G = i + 1) := by omega
      have n3 : (m : Int) + 1 ≤ (G : Int) := by omega
      have n4 : (i : Int) ≤ (G : Int) := by omega
      have n5 : (i : Int) + 1 ≤ (G : Int) := by omega
      clear hkk hik hG hROW hzs hzl hrow hrl hG63 hmin1 hW1 hg2 hc1 hW2 hEW1 hhn hi0 hz0 hz1 hz2 hz3 hh
      go_enter Tryd.func69, Tryd.ntmps69
      go_wp2_with (first
        | (at_builtin; refine Lib.wpList_append_run _ rfl _ _ _ _ rfl _ _ rfl rfl _ _ (hrz _) ?_))
      refine wp_region_ext_tail 8 (by kernel_rfl) (by kernel_rfl) ?_
      simp only [List.take_succ_cons, List.take_zero, List.drop_succ_cons, List.drop_zero]
      repeat (go_big_quiet_step (fail))
      refine wpQuiet_nil ?_
      rintro w5 ⟨⟨_, h5⟩, rfl⟩
      try dsimp only
      have hEw5 := hEW2.trans h5
      have hh5 : w5.heap[g2]? = some (.cells c1 42 (0, 0)) := (h5.block g2 hg2l).trans hh2
      have hgt := grow_take fdC_len hlt hlen.out x HROW.out (by rw [HZL.out, HKK.out]; omega) (cur1 := c1.toList) (cur2 := (c1.toList.take ((i + 1) * 2) ++ (l.drop i).flatMap fdC ++ c1.toList.drop ((i + 1 + (m - i)) * 2))) (by rw [HC1.out]) rfl
      have hc1l : c1.size = G * 2 := by have h9 := hgt.2.2; rw [Array.length_toList, Array.length_toList, HRL.out] at h9; exact h9
      have hcp2 := fun ty dc sc => run_copyC einfo_fd ty (o := i + 1) (dCap := dc) (d := sc) hh5 (hsl.ext hEw5) fdC_cell hmin2 (by rw [hc1l]; exact Nat.mul_le_mul_right _ (by omega))
      obtain ⟨c2, hc2⟩ : ∃ c2, c2 = (c1.toList.take ((i + 1) * 2) ++ (l.drop i).flatMap fdC ++ c1.toList.drop ((i + 1 + (m - i)) * 2)).toArray := ⟨_, rfl⟩
      rw [← hc2] at hcp2
      have hh6 := setRow_heap' hh5 c2
      have hEw6 : Ext w (w5.setRow g2 c2) := hEw5.grown (grown_setRow w5 g2 c2) (fun k hk => by injection hk with hk; rw [← hk, HG2.out]; exact Nat.le_refl _)
      obtain ⟨w6, hw6⟩ : ∃ w6, w6 = w5.setRow g2 c2 := ⟨_, rfl⟩
      rw [← hw6] at hh6 hEw6
      simp only [← hw6] at hcp2
      have HIT : Hid (c2.toList.take ((m + 1) * 2) = (l.take i ++ [x] ++ l.drop i).flatMap fdC ∧ c2.size = G * 2) := by
        rw [hc2]
        refine ⟨hgt.1, ?_⟩
        have h9 := hgt.2.1
        rw [show ROW.toList.length = ROW.size from Array.length_toList, HRL.out] at h9
        exact h9
      have HH6 := Lib.hid hh6
      clear hgt hc1l hc2 hw6 hh5 hh6 hmin2 hh2
      go_wp2
      go_ret
      exact ⟨some ⟨g2, 0, none⟩, G, rfl, OsC.of_row rfl (by rw [HG2.out]; exact hbase) HH6.out hGn HG63.out HIT.out.2 HIT.out.1 fdC_len fdC_cell (by have := hlen.out; simp only [List.length_append, List.length_take, List.length_drop, List.length_singleton]; omega) (by omega), hEw6.grownBy _, NewOr.of_ge fun k hk => by
        have h9 : some g2 = some k := hk
        injection h9 with h9
        rw [← h9, HG2.out]
        exact Nat.le_refl _⟩
end
attribute [local go_sem] ext_refl_t ext_alloc_t ext_drew_t ext_drewN_t ext_alloc2_t ext_alloc3_t ext_alloc4_t ext_alloc5_t ext_alloc6_t ext_alloc7_t ext_alloc8_t ext_alloc1d_t ext_alloc2d_t ext_alloc3d_t ext_alloc4d_t
section
variable {w : World}
set_option maxHeartbeats 6400000 in
theorem psetF_any {h : SlH} {l : List Fd} (hs : FdsW w h l) (n v : ByteArray) (hm : h.m ≤ 4000) :
    Calls Tryd.prog 47 #[.slice h.A h.m h.c, .string n, .string v] w fun e w' => (∃ A m c L, e = .returned (.slice A m c) ∧ SetR l n v L ∧ OsC fdC 42 2 w' w.heap.size A m c L) ∧ Ext w w' := by
  obtain ⟨W0, hW0⟩ : ∃ W0, W0 = w.alloc (Obj.cells #[.string n] 9) := ⟨_, rfl⟩
  have hEa : Ext w W0 := by rw [hW0]; exact (Ext.refl w).alloc _
  have hb0 : Blk W0 w.heap.size 9 #[.string n] := by rw [hW0]; exact Blk.new w _ _
  obtain ⟨gb, hgb⟩ : ∃ gb, gb = w.heap.size := ⟨_, rfl⟩
  have hcl := cloneF_any (HW.ext hs hEa)
  go_enter Tryd.func47, Tryd.ntmps47
  go_wp2_with (first
    | (go_at_call 28; refine Hid.out ?_))
  rw [← hW0, ← hgb]
  rw [← hgb] at hb0
  have HGB := Lib.hid hgb
  refine Hid.mk_ (hcl.mono ?_)
  have X0 := laters (show W0.cell? ⟨gb, 0, none⟩ = some (.string n) from hb0.cell 0)
  clear hW0 hgb hcl
  rintro e w1 ⟨⟨A1, m1, c1⟩, rfl, hw1, ho1, hE1⟩
  dsimp only at *
  have HM1 := Lib.hid ho1.len
  have HM2 := Lib.hid (hs.sl.len)
  have hm1 : m1 ≤ 4000 := by have h1 := HM1.out; have h2 := HM2.out; omega
  have hcap := ho1.cap
  have hE01 := hEa.trans hE1
  go_wp2_with (first
    | (go_at_call 66; refine Hid.out ?_))
  refine Hid.mk_ ((place_any ho1.sl n).mono ?_)
  rintro e w2 ⟨⟨z, rfl, hz⟩, hE2⟩
  have HZ := Lib.hid hz
  have hE02 := hE01.trans hE2
  have ho2 := ho1.ext hE2
  rcases hz with ⟨rfl, _⟩ | ⟨k, rfl, hk, _⟩
  · skip
    go_wp2_with (first
      | (go_at_call 67; refine Hid.out ?_))
    refine Hid.mk_ ((idxGt_any ho2.sl n (X0 _ (hE1.trans hE2))).mono ?_)
    rintro e w3 ⟨⟨z, rfl, hz⟩, hE3⟩
    have hE03 := hE02.trans hE3
    have hE13 := (hE1.trans hE2).trans hE3
    have ho3 := ho2.ext hE3
    have hnew : Blk (w3.alloc (Obj.cells #[.string n, .string v] 42)) w3.heap.size 42 (fdC (n, v)).toArray := Blk.new w3 _ _
    have hEn : Ext w3 (w3.alloc (Obj.cells #[.string n, .string v] 42)) := (Ext.refl _).alloc _
    have hvb : some w3.heap.size ≠ ob A1 := fun e => by have h9 := ho3.lt _ e.symm; omega
    have hba : W0.heap.size ≤ (w3.alloc (Obj.cells #[.string n, .string v] 42)).heap.size := Nat.le_trans hE1.size_le (Nat.le_trans hE2.size_le (Nat.le_trans hE3.size_le hEn.size_le))
    have hGt : Hid (∃ i : Nat, GtAt n l i ∧ ((z = -1 ∧ i = l.length) ∨ z = i)) := by
      rcases hz with ⟨h0, hn⟩ | ⟨k, h0, hk, h1, h2⟩
      · exact ⟨l.length, ⟨Nat.le_refl _, fun j _ h => hn j h, fun h => absurd h (Nat.lt_irrefl _)⟩, .inl ⟨h0, rfl⟩⟩
      · exact ⟨k, ⟨by omega, fun j hj h => h2 j hj, fun _ => h1⟩, .inr h0⟩
    clear hz
    obtain ⟨i, hi, hzi⟩ := hGt.out
    have HI := Lib.hid hi
    have hil := hi.1
    have HM3 : Hid (m1 = l.length) := Lib.hid HM1.out
    have him : i ≤ m1 := by rw [HM3.out]; exact hil
    have hins := insertF_any (ho3.ext hEn) i him (n, v) hnew hvb hba (by omega)
    have HR : Hid (SetR l n v (l.take i ++ [(n, v)] ++ l.drop i)) := .inr ⟨HZ.out, i, HI.out, rfl⟩
    have HBASE := hEa.size_le
    rcases hzi with ⟨rfl, h9⟩ | rfl
    · have e9 : m1 = i := by rw [HM3.out, h9]
      clear h9
      subst e9
      clear hi hil HM1 HM2
      go_wp2_with (first
        | (go_at_call 69; refine Hid.out ?_))
      refine Hid.mk_ (hins.mono ?_)
      rintro e w4 ⟨A4, c4, rfl, ho4, hg4, hat4⟩
      go_wp2
      go_ret
      exact ⟨⟨A4, m1 + 1, c4, _, rfl, HR.out, ho4.mono HBASE⟩, (hE03.trans hEn).grown hg4 (fun j hj => Nat.le_trans HBASE (ho3.ge j hj))⟩
    · clear hi hil HM1 HM2
      go_wp2_with (first
        | (go_at_call 69; refine Hid.out ?_))
      refine Hid.mk_ (hins.mono ?_)
      rintro e w4 ⟨A4, c4, rfl, ho4, hg4, hat4⟩
      go_wp2
      go_ret
      exact ⟨⟨A4, m1 + 1, c4, _, rfl, HR.out, ho4.mono HBASE⟩, (hE03.trans hEn).grown hg4 (fun j hj => Nat.le_trans HBASE (ho3.ge j hj))⟩
  · have hlt : k < m1 := by rw [HM1.out]; exact hk
    obtain ⟨g, cur, hA, hg, hh, hmc, hcm, hsz, htk⟩ := ho2.row (by omega)
    subst hA
    obtain ⟨b, off, e0, hbl, hcs⟩ := ho2.sl.at_ hlt (by omega)
    simp only [Option.some.injEq, Addr.mk.injEq, and_true] at e0
    obtain ⟨e0, e00⟩ := e0
    subst e0
    subst e00
    have y1 := hcs k hk 1 (by omega)
    simp only [fdC, List.getElem_cons_zero, List.getElem_cons_succ, Nat.zero_add, ← Nat.add_assoc] at y1
    have f1 : w2.frozen? ⟨g, k * 2 + 1, none⟩ = false := World.ownsRow.frozenAt ho2.own _
    have hk1 : (k : Int) < (m1 : Int) := by omega
    have hat := fdIs_iff.1 (HZ.out.at_ hk)
    have hset := ho2.setAt (i := k) (j := 1) hk (by omega) (n, v) (.string v) (by show [_, _] = List.set [_, _] 1 _; rw [hat]; rfl)
    have HS : Hid (OsC fdC 42 2 (w2.setCell ⟨g, k * 2 + 1, none⟩ (.string v)) W0.heap.size (some ⟨g, 0, none⟩) m1 c1 (l.set k (n, v))) := hset
    have HR : Hid (SetR l n v (l.set k (n, v))) := .inl ⟨k, HZ.out, rfl⟩
    have HBASE := hEa.size_le
    clear hcs hset hh htk hsz hat hcm
    go_wp2
    go_ret
    exact ⟨⟨_, _, _, _, rfl, HR.out, HS.out.mono HBASE⟩, hE02.set_ (Nat.le_trans HBASE hg) _⟩
end
end Go.Proofs.YtcdpmgdocgddcaaDoor

/- The reference's SetField; DropField, the program's and the reference's. -/
namespace Go.Proofs.YtcdpmgdocgddcaaDoor
open Go.RowKit
set_option maxRecDepth 100000
attribute [local go_sem] ext_refl_t ext_alloc_t ext_drew_t ext_drewN_t ext_alloc2_t ext_alloc3_t ext_alloc4_t ext_alloc5_t ext_alloc6_t ext_alloc7_t ext_alloc8_t ext_alloc1d_t ext_alloc2d_t ext_alloc3d_t ext_alloc4d_t
section
variable {w : World}
end
end Go.Proofs.YtcdpmgdocgddcaaDoor

/- The program's DropField. -/
namespace Go.Proofs.YtcdpmgdocgddcaaDoor
open Go.RowKit
set_option maxRecDepth 100000
theorem dropFd_snoc (l : List Fd) (n : ByteArray) {j : Nat} (hj : j < l.length) : dropFd (l.take (j + 1)) n = dropFd (l.take j) n ++ (if fdIs n l[j] then [] else [l[j]]) := by
  unfold dropFd
  rw [List.take_succ_eq_append_getElem hj, List.filter_append]
  cases h : fdIs n l[j] <;> simp [h]
theorem dropFd_none (l : List Fd) (n : ByteArray) (h : ∀ f ∈ l, fdIs n f = false) : dropFd l n = l := by
  unfold dropFd
  rw [List.filter_eq_self]
  intro f hf
  rw [h f hf]; rfl
attribute [local go_sem] ext_refl_t ext_alloc_t ext_drew_t ext_drewN_t ext_alloc2_t ext_alloc3_t ext_alloc4_t ext_alloc5_t ext_alloc6_t ext_alloc7_t ext_alloc8_t ext_alloc1d_t ext_alloc2d_t ext_alloc3d_t ext_alloc4d_t
section
variable {w : World}
end
end Go.Proofs.YtcdpmgdocgddcaaDoor

/- Words for the laws of fields. -/
namespace Go.Proofs.YtcdpmgdocgddcaaDoor
open Go.RowKit
open Go.WideShapes Go.ChangeShapes Go.Deep
set_option maxRecDepth 100000
section
variable {w w' : World}
theorem OsC.fds {base : Nat} {A : Option Addr} {m c : Nat} {l : List Fd} (ho : OsC fdC 42 2 w base A m c l) (hm : m ≤ 4000) (hg : ∀ x ∈ l, GoodFd x) : FdsW w ⟨A, m, c⟩ l := ⟨ho.sl, ho.cap, by show m * 32 ≤ _; omega, hg⟩
theorem SetR.good {l L : List Fd} {n v : ByteArray} (h : SetR l n v L) (hl : ∀ x ∈ l, GoodFd x) (hn : GoodStr n) (hv : GoodStr v) : ∀ x ∈ L, GoodFd x := by
  intro x hx
  rcases h with ⟨k, _, rfl⟩ | ⟨_, i, _, rfl⟩
  · rcases List.mem_or_eq_of_mem_set hx with h9 | h9
    · exact hl x h9
    · rw [h9]; exact ⟨hn, hv⟩
  · rcases List.mem_append.1 hx with h9 | h9
    · rcases List.mem_append.1 h9 with h9 | h9
      · exact hl x (List.mem_of_mem_take h9)
      · rw [List.mem_singleton] at h9; rw [h9]; exact ⟨hn, hv⟩
    · exact hl x (List.mem_of_mem_drop h9)
theorem dropFd_good {l : List Fd} {n : ByteArray} (hl : ∀ x ∈ l, GoodFd x) : ∀ x ∈ dropFd l n, GoodFd x := fun x hx => hl x (List.mem_filter.1 hx).1
theorem dropFd_len (l : List Fd) (n : ByteArray) : (dropFd l n).length ≤ l.length := List.length_filter_le _ _
/-- An entry of fields alone. -/
def entF (h : SlH) (l : List Fd) : Ent := ⟨⟨⟨#[]⟩, ⟨#[]⟩, ⟨#[]⟩, [], [], 0, l⟩, ⟨none, 0, 0⟩, ⟨none, 0, 0⟩, h⟩
theorem entF_W {h : SlH} {l : List Fd} (hs : FdsW w h l) : EntW w (entF h l) := ⟨HW.nil_ strF_len, HW.nil_ strF_len, hs, by show (0 : Nat) ≤ _; omega, by show (0 : Nat) ≤ _; omega, by show (0 : Nat) ≤ _; omega, by show (-9223372036854775808 : Int) ≤ 0; omega, by show (0 : Int) ≤ _; omega⟩
end
section
variable {H : Type} {enc : TypeId × Value → H} {W : World}
theorem opn_top_str {v : Value} {d : DataW H} {p : List MemPlace} (h : DataW.Trod enc Tryd.prog W 0 (fun _ => true) true 9 v d p) (hw : WOk 9 d) : ∀ s, v = .string s → GoodStr s := by
  rintro s rfl
  obtain ⟨n, hn⟩ := h
  obtain ⟨y, hy, hg⟩ := opn_string Tryd.underlying9 n _ _ hn hw
  simp [Value.cells, strF] at hy
  subst hy
  exact hg
end
end Go.Proofs.YtcdpmgdocgddcaaDoor
