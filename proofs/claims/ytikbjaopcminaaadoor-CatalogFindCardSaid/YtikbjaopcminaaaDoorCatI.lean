/- slices.Insert of one element. -/
import Derived.Test.YtikbjaopcminaaaDoorCatD
import Derived.Lib.Overlaps
namespace Go.Proofs.YtikbjaopcminaaaDoor
open Go.RowKit
set_option maxRecDepth 100000

theorem ins_take {α : Type} {cs : α → List Value} {k : Nat} (h1 : ∀ x, (cs x).length = k) {cur : List Value} {l : List α} {i m : Nat} (hi : i < m) (hl : m = l.length) (htk : cur.take (m * k) = l.flatMap cs) (hsz : (m + 1) * k ≤ cur.length) (x : α) {cur1 cur2 : List Value}
    (e1 : cur1 = cur.take ((i + 1) * k) ++ (l.drop i).flatMap cs ++ cur.drop ((i + 1 + (m - i)) * k)) (e2 : cur2 = cur1.take (i * k) ++ [x].flatMap cs ++ cur1.drop ((i + 1) * k)) :
    cur2.take ((m + 1) * k) = (l.take i ++ [x] ++ l.drop i).flatMap cs ∧ cur2.length = cur.length := by
  have a1 : (i + 1) * k = i * k + k := Nat.succ_mul _ _
  have a2 : (m + 1) * k = m * k + k := Nat.succ_mul _ _
  have a3 : (i + 1 + (m - i)) * k = m * k + k := by rw [show i + 1 + (m - i) = m + 1 by omega, a2]
  have a4 : (m - i) * k = m * k - i * k := Nat.sub_mul _ _ _
  have a5 : i * k + k ≤ m * k := by rw [← a1]; exact Nat.mul_le_mul_right _ hi
  have b1 : ((l.drop i).flatMap cs).length = m * k - i * k := by rw [flat_len h1, List.length_drop, ← hl, a4]
  have b2 : ([x].flatMap cs).length = k := by rw [flat_len h1]; simp
  have b3 : (cur.take ((i + 1) * k)).length = i * k + k := by rw [List.length_take, a1]; omega
  have b4 : ((l.take i).flatMap cs).length = i * k := by rw [flat_len h1, List.length_take, Nat.min_eq_left (by omega)]
  have c1 : cur1.take (i * k) = (l.take i).flatMap cs := by
    rw [e1, List.append_assoc, List.take_append_of_le_length (by rw [b3]; omega), List.take_take, Nat.min_eq_left (by omega), ← flat_take h1, ← htk, List.take_take, Nat.min_eq_left (by omega)]
  have c2 : cur1.drop ((i + 1) * k) = (l.drop i).flatMap cs ++ cur.drop ((i + 1 + (m - i)) * k) := by
    rw [e1, List.append_assoc, List.drop_left' (by rw [b3, a1])]
  subst e2
  rw [c1, c2]
  constructor
  · rw [List.flatMap_append, List.flatMap_append, ← List.append_assoc, List.take_append_of_le_length (by simp only [List.length_append, b1, b2, b4]; omega), List.take_of_length_le (by simp only [List.length_append, b1, b2, b4]; omega)]
  · simp only [List.length_append, List.length_drop, b1, b2, b4, a3]
    omega
theorem grow_take {α : Type} {cs : α → List Value} {k : Nat} (h1 : ∀ x, (cs x).length = k) {l : List α} {i m : Nat} (hi : i < m) (hl : m = l.length) (x : α) {row cur1 cur2 zs : List Value} (e0 : row = (l.take i).flatMap cs ++ zs) (hz : (m + 1 - i) * k ≤ zs.length)
    (e1 : cur1 = row.take (i * k) ++ [x].flatMap cs ++ row.drop ((i + 1) * k)) (e2 : cur2 = cur1.take ((i + 1) * k) ++ (l.drop i).flatMap cs ++ cur1.drop ((i + 1 + (m - i)) * k)) :
    cur2.take ((m + 1) * k) = (l.take i ++ [x] ++ l.drop i).flatMap cs ∧ cur2.length = row.length ∧ cur1.length = row.length := by
  have a1 : (i + 1) * k = i * k + k := Nat.succ_mul _ _
  have a2 : (m + 1) * k = m * k + k := Nat.succ_mul _ _
  have a3 : (i + 1 + (m - i)) * k = m * k + k := by rw [show i + 1 + (m - i) = m + 1 by omega, a2]
  have a4 : (m - i) * k = m * k - i * k := Nat.sub_mul _ _ _
  have a6 : (m + 1 - i) * k = m * k + k - i * k := by rw [Nat.sub_mul, a2]
  have a5 : i * k + k ≤ m * k := by rw [← a1]; exact Nat.mul_le_mul_right _ hi
  have b1 : ((l.drop i).flatMap cs).length = m * k - i * k := by rw [flat_len h1, List.length_drop, ← hl, a4]
  have b2 : ([x].flatMap cs).length = k := by rw [flat_len h1]; simp
  have b4 : ((l.take i).flatMap cs).length = i * k := by rw [flat_len h1, List.length_take, Nat.min_eq_left (by omega)]
  have r1 : row.length = i * k + zs.length := by rw [e0, List.length_append, b4]
  have c1 : row.take (i * k) = (l.take i).flatMap cs := by rw [e0, List.take_left' b4]
  have hc1 : cur1 = (l.take i).flatMap cs ++ [x].flatMap cs ++ row.drop ((i + 1) * k) := by rw [e1, c1]
  have c2 : cur1.take ((i + 1) * k) = (l.take i).flatMap cs ++ [x].flatMap cs := by rw [hc1, List.take_left' (by rw [List.length_append, b4, b2, a1])]
  have hl1 : cur1.length = row.length := by
    rw [hc1]
    simp only [List.length_append, List.length_drop, b4, b2, a1]
    omega
  subst e2
  rw [c2]
  refine ⟨?_, ?_, hl1⟩
  · rw [List.flatMap_append, List.flatMap_append, List.take_append_of_le_length (by simp only [List.length_append, b1, b2, b4]; omega), List.take_of_length_le (by simp only [List.length_append, b1, b2, b4]; omega)]
  · simp only [List.length_append, List.length_drop, b1, b2, b4, a3, hl1]
    omega
theorem Blk.slc {α : Type} {cs : α → List Value} {k : Nat} {w : World} {vb : Nat} {E : TypeId} {x : α} (h1 : ∀ x, (cs x).length = k) (h : Blk w vb E (cs x).toArray) : SlC cs k w (some ⟨vb, 0, none⟩) 1 [x] := by
  refine ⟨⟨by simp [h1 x], fun _ => ⟨_, rfl, h.lt, fun j u hu => ?_⟩⟩, h1, rfl, by omega⟩
  rw [Addr.add_lit, Nat.zero_add, h.cell j]
  simpa using hu
section
variable {w : World}
set_option maxHeartbeats 6400000 in
theorem insertE_any {base : Nat} {A : Option Addr} {m c : Nat} {l : List _} (hown : OsC entC 30 7 w base A m c l) (i : Nat) (hi : i ≤ m) (x : _) {vb : Nat} (hvB : Blk w vb 30 (entC x).toArray) (hvb : some vb ≠ ob A) (hbase : base ≤ w.heap.size) (hbig : (m + 1) * 128 ≤ 70368744177664) :
    Calls Tryd.prog 67 #[.slice A m c, .int .i64 i, .slice (some ⟨vb, 0, none⟩) 1 1] w fun e w' => ∃ A' c', e = .returned (.slice A' (m + 1) c') ∧ OsC entC 30 7 w' base A' (m + 1) c' (l.take i ++ [x] ++ l.drop i) ∧ w.grownBy w' (ob A) ∧ NewOr w.heap.size (ob A) (ob A') := by
  have hcap := hown.cap
  have hle := hown.le
  have hlen := Lib.hid hown.len
  have hv := Blk.slc entC_len hvB
  have i1 : (i : Int) ≤ (m : Int) := by omega
  have i3 : (m : Int) ≤ (c : Int) := by omega
  have i4 : (i : Int) ≤ (c : Int) := by omega
  have i6 : (0 : Int) ≤ (i : Int) := by omega
  by_cases him : i = m
  · subst him
    have HL : Hid (l.take i ++ [x] ++ l.drop i = l ++ [x]) := by
      show _ = _
      rw [List.take_of_length_le (by rw [← hlen.out]; exact Nat.le_refl _), List.drop_eq_nil_of_le (by rw [← hlen.out]; exact Nat.le_refl _), List.append_nil]
    by_cases hci : c = i
    · subst hci
      have e1 : ((c : Int) == (c : Int)) = true := by simp
      go_enter Tryd.func67, Tryd.ntmps67
      go_wp2_with (first
        | (at_builtin; refine Hid.out ?_))
      refine Hid.mk_ ?_
      refine (appC einfo_ent) rfl _ _ rfl hown rfl hv rfl (by omega) hbase ?_
      intro A2 m2 c2 w2 ho2 hg2 hat2
      have hm2 : m2 = c + 1 := by rw [ho2.len, List.length_append, ← hlen.out]; rfl
      rw [hm2] at ho2 ⊢
      clear hm2
      go_wp2
      go_ret
      exact ⟨A2, c2, rfl, by rw [HL.out]; exact ho2, hg2, hat2⟩
    · have e1 : ((i : Int) == (i : Int)) = true := by simp
      go_enter Tryd.func67, Tryd.ntmps67
      go_wp2_with (first
        | (at_builtin; refine Hid.out ?_))
      refine Hid.mk_ ?_
      refine (appC einfo_ent) rfl _ _ rfl hown rfl hv rfl (by omega) hbase ?_
      intro A2 m2 c2 w2 ho2 hg2 hat2
      have hm2 : m2 = i + 1 := by rw [ho2.len, List.length_append, ← hlen.out]; rfl
      rw [hm2] at ho2 ⊢
      clear hm2
      go_wp2
      go_ret
      exact ⟨A2, c2, rfl, by rw [HL.out]; exact ho2, hg2, hat2⟩
  · have hlt : i < m := by omega
    obtain ⟨g, cur, hA, hg, hh, hmc, hcm, hsz, htk⟩ := hown.row (by omega)
    subst hA
    have hgl : g < w.heap.size := (Array.getElem?_eq_some_iff.1 hh).1
    have hvg : vb ≠ g := fun e => hvb (by rw [e]; rfl)
    have e0 : ((i : Int) == (m : Int)) = false := by rw [beq_eq_false_iff_ne]; omega
    have e2 : ¬ (c = i) := by omega
    have HCM := Lib.hid hcm
    have HTK := Lib.hid htk
    have HSZ := Lib.hid hsz
    have hcm' : c ≤ 9223372036854775807 := by simpa [maxLen] using hcm
    have hsl := hown.sl.cut (i := i) (by omega) hmc
    rw [cutA_lt (by omega), Nat.zero_add] at hsl
    clear htk hsz hcm
    by_cases hroom : m + 1 ≤ c
    · have r1 : (m : Int) + 1 ≤ (c : Int) := by omega
      have hov : ∀ lb cb, (callFunc 89 #[.slice (some ⟨vb, 0, none⟩) 1 1, .slice (some ⟨g, (i + 1) * 7, none⟩) lb cb]).run Tryd.prog w = .ok (.value (.bool false)) w := fun lb cb => by
        rw [run_callFunc_extern Tryd.func89 (by kernel_rfl) (by kernel_rfl) (by kernel_rfl) (e := Extern.SlicesOverlaps.overlaps #[26, 26] #[4]) (by kernel_rfl),
          Lib.run_overlaps_apart w 26 4 30 (einfo_ent).u 7 (fun w => (einfo_ent).size_ w) ⟨vb, 0, none⟩ ⟨g, (i + 1) * 7, none⟩ 1 1 lb cb hvg 30 30 7 cur.size (by unfold Blk at hvB; simp [World.shape?, hvB]; exact entC_len x) (by simp [World.shape?, hh]) (by rw [HSZ.out]; omega) (hvB.frozen 0) (hvB.frozen 7)]
        rfl
      have e3 : ¬ (c = i + 1) := by omega
      go_enter Tryd.func67, Tryd.ntmps67
      go_wp2_with (simp only [hov])
      refine wp_region_ext_tail 8 (by kernel_rfl) (by kernel_rfl) ?_
      simp only [List.take_succ_cons, List.take_zero, List.drop_succ_cons, List.drop_zero]
      repeat (go_big_quiet_step (fail))
      refine wpQuiet_nil ?_
      rintro w5 ⟨⟨_, h5⟩, rfl⟩
      try dsimp only
      have hh5 : w5.heap[g]? = some (.cells cur 30 (0, 0)) := (h5.block g hgl).trans hh
      have hfit1 : (i + 1 + (m - i)) * 7 ≤ cur.size := by rw [HSZ.out]; exact Nat.mul_le_mul_right _ (by omega)
      have hfit2 : (i + 1) * 7 ≤ cur.size := by rw [HSZ.out]; exact Nat.mul_le_mul_right _ (by omega)
      have hmin1 : Nat.min (m + 1 - i) (m - i) = m - i := by simp only [Nat.min_def]; split <;> omega
      have hmin2 : Nat.min 1 (m + 1 - i) = 1 := by simp only [Nat.min_def]; split <;> omega
      have HF1 := Lib.hid hfit1
      have HF2 := Lib.hid hfit2
      clear hfit1 hfit2
      have hcp1 := fun ty dc sc => run_copyC einfo_ent ty (o := i + 1) (dCap := dc) (d := sc) hh5 (hsl.ext h5) entC_cell hmin1 HF1.out
      obtain ⟨c1, hc1⟩ : ∃ c1, c1 = (cur.toList.take ((i + 1) * 7) ++ (l.drop i).flatMap entC ++ cur.toList.drop ((i + 1 + (m - i)) * 7)).toArray := ⟨_, rfl⟩
      have hs1 : c1.size = cur.size := by rw [hc1]; have := splice_size (cur := cur) (o := (i + 1) * 7) (n := (m - i) * 7) (xs := (l.drop i).flatMap entC) (by rw [flat_len entC_len, List.length_drop, ← hlen.out]) (by rw [← Nat.add_mul]; exact HF1.out); rw [← Nat.add_mul] at this; exact this
      rw [← hc1] at hcp1
      have hh6 := setRow_heap' hh5 c1
      have hg6 : w.grownBy (w5.setRow g c1) (some g) := (h5.grownBy _).trans (grown_setRow w5 g c1)
      have hv6 := hv.kept hg6 (.inr (by show some vb ≠ some g; intro e; injection e with e; exact hvg e))
      obtain ⟨w6, hw6⟩ : ∃ w6, w6 = w5.setRow g c1 := ⟨_, rfl⟩
      rw [← hw6] at hh6 hg6 hv6
      simp only [← hw6] at hcp1
      have hcp2 := fun ty dc sc => run_copyC einfo_ent ty (o := i) (dCap := dc) (d := sc) hh6 hv6 entC_cell hmin2 (by rw [hs1]; exact HF2.out)
      obtain ⟨c2, hc2⟩ : ∃ c2, c2 = (c1.toList.take (i * 7) ++ [x].flatMap entC ++ c1.toList.drop ((i + 1) * 7)).toArray := ⟨_, rfl⟩
      rw [← hc2] at hcp2
      have hit := ins_take entC_len hlt hlen.out HTK.out (by rw [Array.length_toList, HSZ.out]; exact Nat.mul_le_mul_right _ hroom) x (cur1 := c1.toList) (cur2 := c2.toList) (by rw [hc1]) (by rw [hc2])
      have hh7 := setRow_heap' hh6 c2
      have hg7 : w.grownBy (w6.setRow g c2) (some g) := hg6.trans (grown_setRow w6 g c2)
      obtain ⟨w7, hw7⟩ : ∃ w7, w7 = w6.setRow g c2 := ⟨_, rfl⟩
      rw [← hw7] at hh7 hg7
      simp only [← hw7] at hcp2
      have HIT := Lib.hid hit
      have HH7 := Lib.hid hh7
      clear hc1 hs1 hw6 hh5 hov hc2 hit hw7 hmin1 hmin2 hh6 hh7 hh hsl
      go_wp2
      go_ret
      exact ⟨some ⟨g, 0, none⟩, c, rfl, OsC.of_row rfl hg HH7.out hroom HCM.out (by have := HIT.out.2; rw [Array.length_toList, Array.length_toList] at this; rw [this, HSZ.out]) HIT.out.1 entC_len entC_cell (by have := hlen.out; simp only [List.length_append, List.length_take, List.length_drop, List.length_singleton]; omega) (by omega), hg7, NewOr.refl _ _⟩
    · obtain ⟨kk, hkk⟩ : ∃ kk : Nat, kk = m + 1 - i := ⟨_, rfl⟩
      have hik : i + kk = m + 1 := by omega
      have hki : (m : Int) + 1 - (i : Int) = (kk : Int) := by omega
      have r1 : (c : Int) < (m : Int) + 1 := by omega
      have hkb : kk * 128 ≤ (m + 1) * 128 := Nat.mul_le_mul_right _ (by omega)
      obtain ⟨i0, z, hi0, hz0, hz1, hz2, hz3⟩ := (einfo_ent).i
      obtain ⟨G, hG⟩ : ∃ G, G = grownCap w (m + 1) c 30 := ⟨_, rfl⟩
      obtain ⟨ROW, hROW⟩ : ∃ ROW : Array Value, ROW = ((l.take i).flatMap entC).toArray ++ Builtin.zeroCells z.cells kk ++ Builtin.zeroCells z.cells (G - (m + 1)) := ⟨_, rfl⟩
      have hrz : ∀ ty, (Builtin.append_ #[26, 3] ty #[.slice (some ⟨g, 0, none⟩) i c, .int .i64 (kk : Int)]).run Tryd.prog w = .ok (.slice (some ⟨w.heap.size, 0, none⟩) (m + 1) G) (w.drew.alloc (.cells ROW 30)) := fun ty => by
        have h := Lib.run_append_grow_zeros w 26 3 ty 30 i0 z .i64 .i64 (einfo_ent).u Tryd.underlying3 hi0 hz0 (some ⟨g, 0, none⟩) i c ((l.take i).flatMap entC) (by rw [hz1]; exact run_firstC (SlC.ext (hown.sl.take_ (by omega)) (Ext.refl w).drew)) kk (by omega) (by rw [hz1]; omega) (by omega) (by omega) (by rw [hz2]; omega) (by rw [hz2, hik]; exact growslice_fits (by omega) (by omega))
        rw [hik] at h
        rw [hG] at hROW
        rw [hROW, hG]
        exact h
      have hGn : m + 1 ≤ G := by rw [hG]; exact grownCap_ge w _ _ _
      have hG63 : G ≤ maxLen := by rw [hG]; exact grownCap_le_maxLen w _ _ _ (by simp only [maxLen]; omega)
      have hG63' : G ≤ 9223372036854775807 := by simpa [maxLen] using hG63
      obtain ⟨zs, hzs⟩ : ∃ zs, zs = (Builtin.zeroCells z.cells kk).toList ++ (Builtin.zeroCells z.cells (G - (m + 1))).toList := ⟨_, rfl⟩
      have hzl : zs.length = kk * 7 + (G - (m + 1)) * 7 := by rw [hzs]; simp [Builtin.zeroCells, hz3]
      have hrow : ROW.toList = (l.take i).flatMap entC ++ zs := by rw [hROW, hzs]; simp
      have hrl : ROW.size = G * 7 := by
        rw [← Array.length_toList, hrow, List.length_append, hzl, flat_len entC_len, List.length_take, Nat.min_eq_left (by have := hlen.out; omega)]
        rw [← Nat.add_mul, ← Nat.add_mul, show i + (kk + (G - (m + 1))) = G by omega]
      have HROW := Lib.hid hrow
      have HRL := Lib.hid hrl
      have HZL := Lib.hid hzl
      have HG63 := Lib.hid hG63
      have HKK := Lib.hid hkk
      have hmin1 : Nat.min 1 (m + 1 - i) = 1 := by simp only [Nat.min_def]; split <;> omega
      have hmin2 : Nat.min (m - i) (m - i) = m - i := by simp
      have hEW1 : Ext w (w.drew.alloc (.cells ROW 30)) := (Ext.refl w).drew.alloc _
      have hhn : (w.drew.alloc (.cells ROW 30)).heap[w.heap.size]? = some (.cells ROW 30 (0, 0)) := heap_alloc_new w.drew _
      obtain ⟨g2, hg2⟩ : ∃ g2, g2 = w.heap.size := ⟨_, rfl⟩
      obtain ⟨W1, hW1⟩ : ∃ W1, W1 = w.drew.alloc (.cells ROW 30) := ⟨_, rfl⟩
      rw [← hW1] at hrz hEW1 hhn
      rw [← hg2] at hrz hhn
      have HG2 := Lib.hid hg2
      have hcp1 := fun ty dc sc => run_copyC einfo_ent ty (o := i) (dCap := dc) (d := sc) hhn (hv.ext hEW1) entC_cell hmin1 (by rw [HRL.out]; exact Nat.mul_le_mul_right _ (by omega))
      obtain ⟨c1, hc1⟩ : ∃ c1, c1 = (ROW.toList.take (i * 7) ++ [x].flatMap entC ++ ROW.toList.drop ((i + 1) * 7)).toArray := ⟨_, rfl⟩
      rw [← hc1] at hcp1
      have hh2 := setRow_heap' hhn c1
      have hEW2 : Ext w (W1.setRow g2 c1) := hEW1.grown (grown_setRow W1 g2 c1) (fun k hk => by injection hk with hk; rw [← hk, HG2.out]; exact Nat.le_refl _)
      obtain ⟨W2, hW2⟩ : ∃ W2, W2 = W1.setRow g2 c1 := ⟨_, rfl⟩
      rw [← hW2] at hh2 hEW2
      simp only [← hW2] at hcp1
      have hg2l : g2 < W2.heap.size := (Array.getElem?_eq_some_iff.1 hh2).1
      have HC1 := Lib.hid hc1
      have n1 : ¬ (G = i) := by omega
      have n2 : ¬ (G = i + 1) := by omega
      have n3 : (m : Int) + 1 ≤ (G : Int) := by omega
      have n4 : (i : Int) ≤ (G : Int) := by omega
      have n5 : (i : Int) + 1 ≤ (G : Int) := by omega
      clear hkk hik hG hROW hzs hzl hrow hrl hG63 hmin1 hW1 hg2 hc1 hW2 hEW1 hhn hi0 hz0 hz1 hz2 hz3 hh
      go_enter Tryd.func67, Tryd.ntmps67
      go_wp2_with (first
        | (at_builtin; refine Lib.wpList_append_run _ rfl _ _ _ _ rfl _ _ rfl rfl _ _ (hrz _) ?_))
      refine wp_region_ext_tail 8 (by kernel_rfl) (by kernel_rfl) ?_
      simp only [List.take_succ_cons, List.take_zero, List.drop_succ_cons, List.drop_zero]
      repeat (go_big_quiet_step (fail))
      refine wpQuiet_nil ?_
      rintro w5 ⟨⟨_, h5⟩, rfl⟩
      try dsimp only
      have hEw5 := hEW2.trans h5
      have hh5 : w5.heap[g2]? = some (.cells c1 30 (0, 0)) := (h5.block g2 hg2l).trans hh2
      have hgt := grow_take entC_len hlt hlen.out x HROW.out (by rw [HZL.out, HKK.out]; omega) (cur1 := c1.toList) (cur2 := (c1.toList.take ((i + 1) * 7) ++ (l.drop i).flatMap entC ++ c1.toList.drop ((i + 1 + (m - i)) * 7))) (by rw [HC1.out]) rfl
      have hc1l : c1.size = G * 7 := by have h9 := hgt.2.2; rw [Array.length_toList, Array.length_toList, HRL.out] at h9; exact h9
      have hcp2 := fun ty dc sc => run_copyC einfo_ent ty (o := i + 1) (dCap := dc) (d := sc) hh5 (hsl.ext hEw5) entC_cell hmin2 (by rw [hc1l]; exact Nat.mul_le_mul_right _ (by omega))
      obtain ⟨c2, hc2⟩ : ∃ c2, c2 = (c1.toList.take ((i + 1) * 7) ++ (l.drop i).flatMap entC ++ c1.toList.drop ((i + 1 + (m - i)) * 7)).toArray := ⟨_, rfl⟩
      rw [← hc2] at hcp2
      have hh6 := setRow_heap' hh5 c2
      have hEw6 : Ext w (w5.setRow g2 c2) := hEw5.grown (grown_setRow w5 g2 c2) (fun k hk => by injection hk with hk; rw [← hk, HG2.out]; exact Nat.le_refl _)
      obtain ⟨w6, hw6⟩ : ∃ w6, w6 = w5.setRow g2 c2 := ⟨_, rfl⟩
      rw [← hw6] at hh6 hEw6
      simp only [← hw6] at hcp2
      have HIT : Hid (c2.toList.take ((m + 1) * 7) = (l.take i ++ [x] ++ l.drop i).flatMap entC ∧ c2.size = G * 7) := by
        rw [hc2]
        refine ⟨hgt.1, ?_⟩
        have h9 := hgt.2.1
        rw [show ROW.toList.length = ROW.size from Array.length_toList, HRL.out] at h9
        exact h9
      have HH6 := Lib.hid hh6
      clear hgt hc1l hc2 hw6 hh5 hh6 hmin2 hh2
      go_wp2
      go_ret
      exact ⟨some ⟨g2, 0, none⟩, G, rfl, OsC.of_row rfl (by rw [HG2.out]; exact hbase) HH6.out hGn HG63.out HIT.out.2 HIT.out.1 entC_len entC_cell (by have := hlen.out; simp only [List.length_append, List.length_take, List.length_drop, List.length_singleton]; omega) (by omega), hEw6.grownBy _, NewOr.of_ge fun k hk => by
        have h9 : some g2 = some k := hk
        injection h9 with h9
        rw [← h9, HG2.out]
        exact Nat.le_refl _⟩
end

end Go.Proofs.YtikbjaopcminaaaDoor
