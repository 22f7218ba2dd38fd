/- The indices of the entries in the order of their IDs: slices.SortFunc at indices. -/
import Derived.Test.YtngpajaghadhdaaGreatDoorBinW
import Derived.Test.YtngpajaghadhdaaGreatDoorLaySrt
import Derived.Shelf.SlSortCmp.NoneTotal
import Derived.Laws.OwnMore
import Derived.Test.YtngpajaghadhdaaGreatDoorU8V
namespace Go.Proofs.YtngpajaghadhdaaGreatDoor
open Go.RowKit Go.Lib Go.Sort Go.Shelf
set_option maxRecDepth 100000
attribute [local go_sem] ext_refl_t ext_alloc_t ext_drew_t ext_drewN_t ext_alloc2_t ext_alloc3_t ext_alloc4_t ext_alloc5_t ext_alloc6_t ext_alloc7_t ext_alloc8_t ext_alloc1d_t ext_alloc2d_t ext_alloc3d_t ext_alloc4d_t
/-- Comparing two strings. -/
def cmpB (a b : ByteArray) : Int := if bO a b then -1 else if a = b then 0 else 1
theorem cmpB_neg (a b : ByteArray) : cmpB a b < 0 ↔ bO a b = true := by
  unfold cmpB
  split
  · rename_i h
    simp [h]
  · rename_i h
    split <;> simp [h]
def encFin {n : Nat} (i : Fin n) : Value := .int .i64 (i.val : Int)
def cfI (l : List Ep) (n : Nat) (i j : Fin n) : Int := cmpB (idAt l i.val) (idAt l j.val)
theorem ltI (l : List Ep) (n : Nat) (i j : Fin n) : ltOf (cfI l n) i j = bO (idAt l i.val) (idAt l j.val) := by
  unfold ltOf cfI
  rw [Bool.eq_iff_iff, decide_eq_true_eq, cmpB_neg]
theorem swoI (l : List Ep) (n : Nat) : SWO (ltOf (cfI l n)) where
  irrefl x := by rw [ltI]; exact bO_irrefl _
  trans x y z h1 h2 := by rw [ltI] at *; exact bO_trans h1 h2
  ntrans x y z h1 h2 := by
    rw [ltI] at *
    have a : (!bO (idAt l y.val) (idAt l z.val)) = true := by rw [h2]; rfl
    have b : (!bO (idAt l x.val) (idAt l y.val)) = true := by rw [h1]; rfl
    have c := le_trans_ a b
    rwa [Bool.not_eq_true'] at c
theorem extract_full {α : Type} (d : Array α) (n : Nat) (h : d.size = n) : d.extract 0 n = d := by subst h; simp
section
variable {w : World}
theorem isNaN_any (a : ByteArray) : Calls Tryz.prog 78 #[.string a] w fun e w' => e = .returned (.bool false) ∧ w' = w := by
  go_enter Tryz.func78, Tryz.ntmps78
  go_wp2
  go_ret
  exact ⟨by simp, rfl⟩
set_option maxHeartbeats 400000 in
theorem compare_any (a b : ByteArray) : Calls Tryz.prog 68 #[.string a, .string b] w fun e w' => e = .returned (.int .i64 (cmpB a b)) ∧ w' = w := by
  have hc : cmpB a b = if bO a b then -1 else if a = b then 0 else 1 := rfl
  cases h1 : bO a b with
  | true =>
    have h1' : Op.bytesLess a.toList b.toList = true := h1
    have hc2 : cmpB a b = -1 := by rw [hc, h1]; rfl
    rw [hc2]
    clear hc hc2 h1
    go_enter Tryz.func68, Tryz.ntmps68
    go_wp2_with (first | (go_at_call 78; refine (isNaN_any _).mono ?_; rintro e w1 ⟨rfl, rfl⟩))
    go_ret
    exact ⟨rfl, rfl⟩
  | false =>
    have h1' : Op.bytesLess a.toList b.toList = false := h1
    by_cases h2 : a = b
    · have hc2 : cmpB a b = 0 := by rw [hc, h1, if_pos h2]; rfl
      have h2' : (a.toList == b.toList) = true := by rw [h2]; simp
      rw [hc2]
      clear hc hc2 h1 h2
      go_enter Tryz.func68, Tryz.ntmps68
      go_wp2_with (first | (go_at_call 78; refine (isNaN_any _).mono ?_; rintro e w1 ⟨rfl, rfl⟩))
      go_ret
      exact ⟨rfl, rfl⟩
    · have hc2 : cmpB a b = 1 := by rw [hc, h1, if_neg h2]; rfl
      have h2' : (a.toList == b.toList) = false := beq_eq_false_iff_ne.2 (fun e => h2 (toList_iff.1 e))
      rw [hc2]
      clear hc hc2 h1 h2
      go_enter Tryz.func68, Tryz.ntmps68
      go_wp2_with (first | (go_at_call 78; refine (isNaN_any _).mono ?_; rintro e w1 ⟨rfl, rfl⟩))
      go_ret
      exact ⟨rfl, rfl⟩
theorem sw_grown {α : Type} [Inhabited α] (enc : α → Value) {g : Nat} (m : Nat) (dk : Array α) (os : Array Obj) : w.grownBy (sortWorld enc w g 0 m dk os) (some g) := by
  unfold sortWorld
  refine ⟨rfl, rfl, rfl, by simp [grow, putRow, mapBlock, Sort.ahead], fun k hk hne => ?_⟩
  rw [heap_grow_old _ _ (by simpa [putRow, mapBlock, Sort.ahead] using hk)]
  have : g ≠ k := fun e => hne (by rw [e])
  simp [putRow, mapBlock, Sort.ahead, Array.getElem?_modify, this]
theorem sw_cell {α : Type} [Inhabited α] (enc : α → Value) {g m : Nat} {d0 d : Array α} {os : Array Obj} (hH : Holds enc w g 0 d0) (hg : g < w.heap.size) (hs : d.size = d0.size) : ∀ j, j < d.size → (sortWorld enc w g 0 m d os).cell? ⟨g, j, none⟩ = some (enc d[j]!) := by
  intro j hj
  have h1 := (holds_putRow enc (Sort.ahead w m) g 0 d0 d (fun j hj => hH j hj) hs j hj).1
  unfold sortWorld
  rw [World.cell?_of_block (w := putRow enc (Sort.ahead w m) g 0 d) (heap_grow_old _ _ (by simpa [putRow, mapBlock, Sort.ahead] using hg))]
  simpa using h1
set_option maxHeartbeats 1600000 in
theorem ordcmp_any {A : Option Addr} {m c : Nat} {es : List Ent} (hs : SlC entC 7 w A m es) {gx : Nat} (hb : w.cell? ⟨gx, 3, none⟩ = some (.slice A m c)) {i j : Nat} (hi : i < es.length) (hj : j < es.length) :
    Calls Tryz.prog 67 #[.int .i64 (i : Int), .int .i64 (j : Int), .pointer (some ⟨gx, 0, none⟩)] w fun e w' => e = .returned (.int .i64 (cmpB es[i].p.id es[j].p.id)) ∧ ∃ q, w' = w.drewN q := by
  have hl := hs.len
  have him : i < m := by omega
  have hjm : j < m := by omega
  obtain ⟨b, off, e0, hbl, hcs⟩ := hs.at_ him (by omega)
  subst e0
  obtain ⟨x, hx⟩ : ∃ x, x = es[i] := ⟨_, rfl⟩
  obtain ⟨y, hy⟩ : ∃ y, y = es[j] := ⟨_, rfl⟩
  have x0 := hcs i hi 0 (by omega)
  have y0 := hcs j hj 0 (by omega)
  simp only [← hx, ← hy, entC, List.getElem_cons_zero, Nat.add_zero] at x0 y0
  rw [← hx, ← hy]
  have i1 : (i : Int) < (m : Int) := by omega
  have i2 : (j : Int) < (m : Int) := by omega
  clear hcs hx hy hl hi hj
  go_enter Tryz.func67, Tryz.ntmps67
  go_wp2
  go_quiet ((go_at_call 68; exact Calls.quiet_of_same (compare_any _ _)))
  go_wp2
  go_ret
  exact ⟨rfl, nq, rfl⟩

set_option maxHeartbeats 1600000 in
theorem sortI_any {base : Nat} {A eA : Option Addr} {m c em ec n : Nat} {es : List Ent} (ho : OsC natF 3 1 w base A m c (List.range n)) (hn : n = es.length) (hd : ((es.map Ent.p).map Ep.id).Nodup) (hs : SlC entC 7 w eA em es) {gx : Nat} (hb : w.cell? ⟨gx, 3, none⟩ = some (.slice eA em ec)) (hgx : gx < base) (hsl : 0 < n → ∀ k, ob eA = some k → k < base) :
    Calls Tryz.prog 66 #[.slice A m c, .func (.func 67) #[] #[.pointer (some ⟨gx, 0, none⟩)]] w fun e w' => e = .returned (.tuple #[]) ∧ SlC natF 1 w' A m (sortE (es.map Ent.p)) ∧ w.grownBy w' (ob A) := by
  have hmn : m = n := by rw [ho.len, List.length_range]
  rcases Nat.eq_zero_or_pos n with h0 | h0
  · subst h0
    subst hmn
    have hes : es = [] := List.length_eq_zero_iff.1 hn.symm
    subst hes
    refine (AnyF.slices_SortFunc_none { Tryz.sortI with } A c _ w).mono ?_
    rintro e w' ⟨rfl, rfl⟩
    have he : sortE (([] : List Ent).map Ent.p) = List.range 0 := List.length_eq_zero_iff.1 (sortE_len _)
    exact ⟨rfl, by rw [he]; exact ho.sl, World.grownBy.refl _ _⟩
  · obtain ⟨g, cur, hA, hg, hh, hmc, hcm, hsz, htk⟩ := ho.row (by omega)
    subst hA
    have hgl : g < w.heap.size := (Array.getElem?_eq_some_iff.1 hh).1
    haveI : Inhabited (Fin n) := ⟨⟨0, h0⟩⟩
    obtain ⟨d, hdd⟩ : ∃ d : Array (Fin n), d = (List.finRange n).toArray := ⟨_, rfl⟩
    have hds : d.size = n := by rw [hdd]; simp
    have hle := ho.le
    have hget : ∀ j, ∀ h : j < n, d[j]! = ⟨j, h⟩ := fun j h => by rw [getElem!_pos d j (by omega)]; simp [hdd]
    have hH : Holds encFin w g 0 d := fun j hj => by
      have hj' : j < n := by omega
      refine ⟨?_, World.ownsRow.frozenAt ho.own _⟩
      rw [Nat.zero_add, World.ownsRow.cellAt ho.own j (by omega), hget j hj']
      have h9 := flat_at (cs := natF) (k := 1) (fun _ => rfl) (List.range n) j 0 (by simpa using hj') (by omega)
      rw [Nat.mul_one, Nat.add_zero] at h9
      rw [h9]
      simp [natF, encFin]
    have hne : ob eA = none ∨ ob eA ≠ some g := by
      cases hA : ob eA with
      | none => exact .inl rfl
      | some k => exact .inr (fun e => by injection e with e; have := hsl h0 k hA; omega)
    have hcmp : CmpLays1 Tryz.prog 67 #[.pointer (some ⟨gx, 0, none⟩)] encFin (cfI (es.map Ent.p) n) g 0 d.size w := fun m' os dk _ x y => by
      have hgw := sw_grown (w := w) (g := g) encFin m' dk os
      have h1 := ordcmp_any (hs.kept hgw hne) (hgw.cell hb (fun e => by injection e with e; exact absurd e (by show gx ≠ g; omega))) (i := x.val) (j := y.val) (by have := x.isLt; omega) (by have := y.isLt; omega)
      refine h1.mono ?_
      rintro e w' ⟨rfl, q, rfl⟩
      refine ⟨?_, q, #[], by rw [grow_empty]⟩
      unfold cfI
      rw [idAt_lt (by rw [List.length_map]; have := x.isLt; omega), idAt_lt (by rw [List.length_map]; have := y.isLt; omega), List.getElem_map, List.getElem_map]
    have h1 := Any.slices_SortFunc Tryz.sortI encFin (fun _ => rfl) (cfI (es.map Ent.p) n) (swoI _ _) 67 #[.pointer (some ⟨gx, 0, none⟩)] g 0 c d w (fun _ _ => rfl) hcmp hH hgl (by rw [hds]; omega)
    rw [hds] at h1
    rw [hmn]
    refine h1.mono ?_
    rintro e w' ⟨rfl, d', q, os, ⟨hp1, _, hp3⟩, hso, rfl⟩
    have hp1' : d'.size = n := by rw [hp1, hds]
    have hperm : List.Perm (d'.toList.map Fin.val) (List.range (es.map Ent.p).length) := by
      have e1 : d'.extract 0 n = d' := extract_full d' n hp1'
      have e2 : d.extract 0 n = d := extract_full d n hds
      rw [e1, e2] at hp3
      have h9 := hp3.map Fin.val
      rw [hdd] at h9
      have e3 : ((List.finRange n).toArray.toList).map Fin.val = List.range n := List.ext_getElem (by simp) (fun _ _ _ => by simp)
      rw [e3] at h9
      rwa [List.length_map, ← hn]
    have hpw : (d'.toList.map Fin.val).Pairwise fun i j => (!bO (idAt (es.map Ent.p) j) (idAt (es.map Ent.p) i)) = true := by
      rw [List.pairwise_iff_getElem]
      intro i j hi hj hij
      simp only [List.length_map, Array.length_toList] at hi hj
      have h2 := hso i j (Nat.zero_le _) hij (by omega)
      rw [ltI, getElem!_pos d' i hi, getElem!_pos d' j hj] at h2
      simp only [List.getElem_map, Array.getElem_toList]
      rw [h2]; rfl
    have hfin := sortE_uniq hd hperm hpw
    have hcell := sw_cell (m := q) (os := os) encFin hH hgl hp1
    refine ⟨rfl, ⟨⟨?_, fun _ => ⟨_, rfl, Nat.lt_of_lt_of_le hgl (sw_grown (w := w) encFin q d' os).size, fun j u hu => ?_⟩⟩, fun _ => rfl, ?_, by omega⟩, sw_grown encFin q d' os⟩
    · rw [flat_len (k := 1) natF_len, sortE_len, List.length_map, ← hn]
    · rw [Addr.add_lit, Nat.zero_add]
      have hjl : j < (sortE (es.map Ent.p)).length := by
        have h9 := (List.getElem?_eq_some_iff.1 hu).1
        rwa [flat_len (k := 1) natF_len, Nat.mul_one] at h9
      have hjd : j < d'.size := by rw [← hfin, List.length_map, Array.length_toList] at hjl; exact hjl
      rw [hcell j hjd, getElem!_pos d' j hjd]
      have h9 := flat_at (cs := natF) (k := 1) (fun _ => rfl) (sortE (es.map Ent.p)) j 0 hjl (by omega)
      rw [Nat.mul_one, Nat.add_zero, hu] at h9
      rw [h9]
      have h8 : (sortE (es.map Ent.p))[j] = d'[j].val := by
        have : (d'.toList.map Fin.val)[j]'(by rw [List.length_map, Array.length_toList]; exact hjd) = d'[j].val := by simp
        rw [← this]
        congr 1
        exact hfin.symm
      rw [h8]
      rfl
    · rw [sortE_len, List.length_map, ← hn]
end
end Go.Proofs.YtngpajaghadhdaaGreatDoor
