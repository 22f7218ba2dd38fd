/- The comparison of two locks that List hands to slices.SortFunc, and the sort. -/
import Derived.Test.YthmeobjomidkoaaDoorLockSort
import Derived.Sort.OwnSortedInts
namespace Go.Proofs.YthmeobjomidkoaaDoor
open Go.RowKit Go.Lib Go.Sort Go.Shelf
set_option maxRecDepth 100000

instance : Inhabited Lk := ⟨lk0⟩
section
variable {w : World}
set_option maxHeartbeats 800000 in
theorem or_any (b : Nat) (x y r : Int) (HR : Hid (r = if x = 0 then y else x)) (h0 : w.cell? ⟨b, 0, none⟩ = some (.int .i64 x)) (h1 : w.cell? ⟨b, 1, none⟩ = some (.int .i64 y)) :
    Calls Tryd.prog 29 #[.slice (some ⟨b, 0, none⟩) 2 2] w fun e w' => e = .returned (.int .i64 r) ∧ w' = w := by
  go_enter Tryd.func29, Tryd.ntmps29
  go_wp2
  go_loopw [8] (fun i wr => ∃ q : Nat, q ≤ 2 ∧ i = .int .i64 q ∧ Hid (0 < q → x = 0) ∧ Hid (1 < q → y = 0) ∧ wr = w) (fun i _ => 2 - (intOf i).toNat)
  case atStart => exact ⟨0, by omega, rfl, Lib.hid (by omega), Lib.hid (by omega), rfl⟩
  case round =>
    obtain ⟨q, hq, rfl, hx, hy, rfl⟩ := hrel
    by_cases q0 : q = 0
    · subst q0
      by_cases hx0 : x = 0
      · have HX := Lib.hid hx0
        go_wp2
        go_roundw
        case rel => exact ⟨1, by omega, rfl, Lib.hid fun _ => HX.out, Lib.hid (by omega), trivial⟩
        case measure => simp [intOf]
      · have HX := Lib.hid hx0
        go_wp2
        go_ret
        exact ⟨by rw [← (HR.out.trans (if_neg HX.out))]; rfl, rfl⟩
    · by_cases q1 : q = 1
      · subst q1
        by_cases hy0 : y = 0
        · have HY := Lib.hid hy0
          go_wp2
          go_roundw
          case rel => exact ⟨2, by omega, rfl, Lib.hid fun _ => hx.out (by omega), Lib.hid fun _ => HY.out, trivial⟩
          case measure => simp [intOf]
        · have HY := Lib.hid hy0
          go_wp2
          go_ret
          exact ⟨by rw [← (HR.out.trans (if_pos (hx.out (by omega))))]; rfl, rfl⟩
      · obtain rfl : q = 2 := by omega
        go_wp2
        go_ret
        exact ⟨by rw [(HR.out.trans (if_pos (hx.out (by omega)))).trans (hy.out (by omega))]; rfl, rfl⟩
theorem box_cells (W : World) (o1 o2 : Obj) (x y : Value) (t : TypeId) :
    ((((W.alloc o1).alloc o2).alloc (.cells #[x, y] t)).drew.cell? ⟨W.heap.size + 1 + 1, 0, none⟩ = some x) ∧ ((((W.alloc o1).alloc o2).alloc (.cells #[x, y] t)).drew.cell? ⟨W.heap.size + 1 + 1, 1, none⟩ = some y) := by
  have h1 := Blk.new ((W.alloc o1).alloc o2) t #[x, y]
  have h2 := h1.below (Ext.refl _).drew h1.lt
  have h3 : ((W.alloc o1).alloc o2).heap.size = W.heap.size + 1 + 1 := by simp
  rw [h3] at h2
  exact ⟨h2.cell 0, h2.cell 1⟩
theorem three_grow (W : World) (o1 o2 o3 : Obj) : (((W.alloc o1).alloc o2).alloc o3).drew = grow (W.drewN 1) (#[o1] ++ #[o2] ++ #[o3]) := by
  rw [alloc_eq_grow, alloc_eq_grow, alloc_eq_grow, grow_grow, grow_grow]
  rfl
theorem cfL_eq (x y : Lk) : cfL x y = if cmpS x.name y.name = 0 then cmpS x.id y.id else cmpS x.name y.name := rfl
set_option maxHeartbeats 1600000 in
theorem cmp_lk (x y : Lk) : Calls Tryd.prog 28 #[lkV x, lkV y] w fun e w' => e = .returned (.int .i64 (cfL x y)) ∧ ∃ q os', w' = grow (w.drewN q) os' := by
  obtain ⟨xa, xb, xc, xt⟩ := x
  obtain ⟨ya, yb, yc, yt⟩ := y
  obtain ⟨r, hr⟩ : ∃ r, r = cfL ⟨xa, xb, xc, xt⟩ ⟨ya, yb, yc, yt⟩ := ⟨_, rfl⟩
  have HR : Hid (r = if cmpS xa ya = 0 then cmpS xb yb else cmpS xa ya) := Lib.hid (hr.trans (cfL_eq _ _))
  rw [← hr]
  clear hr
  unfold lkV
  go_enter Tryd.func28, Tryd.ntmps28
  go_wp2_with fail
  go_region_held3 (fun w' => w'.cell? ⟨w.heap.size, 0, none⟩ = some (.string xa) ∧ w'.cell? ⟨w.heap.size, 1, none⟩ = some (.string xb) ∧ w'.cell? ⟨w.heap.size + 1, 0, none⟩ = some (.string ya) ∧ w'.cell? ⟨w.heap.size + 1, 1, none⟩ = some (.string yb))
    (first | go_keep | assumption)
    (first
      | (go_at_call 30; refine (compare_any _ _).mono ?_; rintro e w9 ⟨rfl, rfl⟩)
      | (go_at_call 29; refine (or_any _ (cmpS xa ya) (cmpS xb yb) r HR (box_cells w _ _ _ _ _).1 (box_cells w _ _ _ _ _).2).mono ?_; rintro e w9 ⟨rfl, rfl⟩)
      | fail)
  all_goals
    go_wp2
    go_ret
    exact ⟨rfl, 1, _, three_grow _ _ _ _⟩
theorem cmpLays (g n : Nat) : CmpLays Tryd.prog 28 #[] lkC 4 cfL g 0 n w :=
  fun _ _ _ _ x y => cmp_lk x y
theorem holdsL {base g m c : Nat} {l : List Lk} (h : OsC lkC 35 4 w base (some ⟨g, 0, none⟩) m c l) : HoldsK lkC 4 w g 0 l.toArray := by
  intro j hj
  rw [size_flatK] at hj
  have hj' : j < l.length * 4 := by simpa using hj
  have hl := h.len
  refine ⟨?_, World.ownsRow.frozenAt h.own _⟩
  rw [World.ownsRow.cellAt h.own _ (by omega), get_flatK _ _ _ _ hj, Nat.zero_add]
  have h1 := flat_at (cs := lkC) (k := 4) (fun _ => rfl) l (j / 4) (j % 4) (by omega) (by omega)
  rw [show j / 4 * 4 + j % 4 = j by omega] at h1
  have h2 : l.toArray[j / 4]! = l[j / 4]'(by omega) := by simp [show j / 4 < l.length by omega]
  rw [h1, h2]
  have h3 : j % 4 < (lkC (l[j / 4]'(by omega))).length := by simp only [lkC, List.length_cons, List.length_nil]; omega
  rw [List.getElem?_eq_getElem h3, id]
  simp [List.getElem!_eq_getElem?_getD, List.getElem?_eq_getElem h3]
theorem grownBy_flat {g n : Nat} {os : Array Obj} (F : Array Value) : w.grownBy (grow (putRow id (Sort.ahead w n) g 0 F) os) (some g) := by
  refine ⟨rfl, rfl, rfl, by simp, fun k hk hne => ?_⟩
  rw [heap_grow_old _ _ (by simpa using hk)]
  have : g ≠ k := fun e => hne (by rw [e])
  simp [putRow, mapBlock, Sort.ahead, Array.getElem?_modify, this]
theorem slc_of_holds {W : World} {g m : Nat} {l : List Lk} (h : HoldsK lkC 4 W g 0 l.toArray) (hm : m = l.length) (hg : g < W.heap.size) (hle : m ≤ 17592186044416) : SlC lkC 4 W (some ⟨g, 0, none⟩) m l := by
  have hfl : (l.flatMap lkC).length = l.length * 4 := by
    clear h hm hle
    induction l with
    | nil => rfl
    | cons x t ih => rw [List.flatMap_cons, List.length_append, ih, List.length_cons]; simp only [lkC, List.length_cons, List.length_nil]; omega
  refine ⟨⟨by rw [hfl, hm], fun _ => ⟨_, rfl, hg, fun j u hu => ?_⟩⟩, fun _ => rfl, hm, by omega⟩
  have hj : j < l.length * 4 := by rw [← hfl]; exact (List.getElem?_eq_some_iff.1 hu).1
  have hj2 : j < (flatK lkC 4 l.toArray).size := by rw [size_flatK]; simpa using hj
  have h1 := (h j hj2).1
  rw [get_flatK _ _ _ _ (by simpa using hj)] at h1
  rw [Addr.add_lit, h1]
  have h5 := flat_at (cs := lkC) (k := 4) (fun _ => rfl) l (j / 4) (j % 4) (by omega) (by omega)
  rw [show j / 4 * 4 + j % 4 = j by omega, hu] at h5
  have h2 : l.toArray[j / 4]! = l[j / 4]'(by omega) := by simp [show j / 4 < l.length by omega]
  have h3 : j % 4 < (lkC (l[j / 4]'(by omega))).length := by simp only [lkC, List.length_cons, List.length_nil]; omega
  rw [h2, id, h5, List.getElem?_eq_getElem h3]
  simp [List.getElem!_eq_getElem?_getD, List.getElem?_eq_getElem h3]
/-- slices.SortFunc at locks. -/
theorem sort_any {base : Nat} {A : Option Addr} {m c : Nat} {l : List Lk} (h : OsC lkC 35 4 w base A m c l) :
    Calls Tryd.prog 27 #[.slice A m c, .func (.func 28) #[] #[]] w fun e w' => e = .returned (.tuple #[]) ∧ (∃ l', SlC lkC 4 w' A m l' ∧ l'.Perm l ∧ l'.Pairwise fun x y => kL y x = false) ∧ w.grownBy w' (ob A) := by
  rcases h.own.2 with ⟨hv, h0⟩ | ⟨g, cap, cur, hv, _⟩
  · injection hv with hA hm hc
    subst hA hc
    have hm0 : m = 0 := by omega
    subst hm0
    have hl : l = [] := List.length_eq_zero_iff.1 h.len.symm
    subst hl
    refine (AnyF.slices_SortFunc_none Tryd.sortL none 0 _ w).mono ?_
    rintro e w' ⟨rfl, rfl⟩
    exact ⟨rfl, ⟨[], SlC.nil_ fun _ => rfl, .refl _, .nil⟩, (Ext.refl _).grownBy _⟩
  · injection hv with hA hm hc
    subst hA
    have hlt := h.lt g rfl
    have hl := h.len
    have hle := h.le
    have hs : l.toArray.size = m := by simp [hl]
    have h1 := AnyQ.slices_SortFunc Tryd.sortL 4 Tryd.isAgg35 Tryd.sizeOf35 lkC (fun _ => rfl) (fun x v hv => h.cell x v hv) cfL swoL 28 #[] g 0 c l.toArray w (fun _ _ => rfl) (cmpLays g _) (holdsL h) hlt (by rw [hs]; omega)
    rw [hs] at h1
    refine h1.mono ?_
    rintro e w' ⟨rfl, d', n, os, ⟨hp1, _, hp3⟩, hso, rfl⟩
    have hp1' : d'.size = m := by rw [hp1, hs]
    have hh := holdsK_sortWorldK_c lkC 4 w g 0 l.toArray d' n os (holdsL h) hlt hp1
    have hg := grownBy_flat (w := w) (g := g) (n := n) (os := os) (flatK lkC 4 d')
    refine ⟨rfl, ⟨d'.toList, slc_of_holds (by simpa using hh) (by simp [hp1']) (Nat.lt_of_lt_of_le hlt hg.size) hle, ?_, ?_⟩, hg⟩
    · have e1 : d'.extract 0 m = d' := by rw [← hp1']; simp
      have e2 : l.toArray.extract 0 m = l.toArray := by rw [← hs]; simp
      rw [e1, e2] at hp3
      simpa using hp3
    · rw [List.pairwise_iff_getElem]
      intro i j hi hj hij
      have h2 := hso i j (by omega) hij (by simpa [hp1'] using hj)
      rw [ltL] at h2
      simp only [Array.length_toList] at hi hj
      rw [getElem!_pos d' i hi, getElem!_pos d' j hj] at h2
      simpa using h2
end
end Go.Proofs.YthmeobjomidkoaaDoor
