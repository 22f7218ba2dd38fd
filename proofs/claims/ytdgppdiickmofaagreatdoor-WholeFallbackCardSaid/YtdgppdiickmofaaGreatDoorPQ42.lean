/- The program's chains: nearest, walk, places among places. -/
import Derived.Test.YtdgppdiickmofaaGreatDoorPQ41
namespace Go.Proofs.YtdgppdiickmofaaGreatDoor
open Go.RowKit
set_option maxRecDepth 100000
attribute [local go_sem] ext_refl_t ext_alloc_t ext_drew_t ext_drewN_t ext_alloc2_t ext_alloc3_t ext_alloc4_t ext_alloc5_t ext_alloc6_t ext_alloc7_t ext_alloc8_t ext_alloc1d_t ext_alloc2d_t ext_alloc3d_t ext_alloc4d_t
attribute [local go_sem] yielded_undef
theorem findZ_some {l : TabL} {s : List UInt8} {i : Nat} (h : findC l s = some i) : findZ l s = (i : Int) := by unfold findZ; rw [h]
theorem findZ_none {l : TabL} {s : List UInt8} (h : findC l s = none) : findZ l s = -1 := by unfold findZ; rw [h]
theorem findC_lt {l : TabL} {s : List UInt8} {i : Nat} (h : findC l s = some i) : i < l.length := by
  unfold findC at h
  exact (List.findIdx?_eq_some_iff_getElem.1 h).1
theorem tabL_len (ls : List LcH) : (tabL ls).length = ls.length := by unfold tabL; rw [List.length_map]
theorem nearL_cons (l : TabL) (a : List UInt8) (r : List (List UInt8)) : nearL l (a :: r) = match findC l a with
    | some i => i
    | none => nearL l r := rfl
section
variable {w : World}
set_option maxHeartbeats 6400000 in
theorem nearest_any {t : TabH} (ht : TabW w t) {s : List UInt8} (hs : s.length ≤ 1000) (hM : MX w) :
    Calls Tryz.prog 78 #[tbV t, .string (str s)] w fun e w' => e = .returned (.int .i64 (nearC (tabL t.ls) s)) ∧ Ext w w' := by
  have HFD : Hid (∀ W, Ext w W → ∀ s, Calls Tryz.prog 79 #[tbV t, .string (str s)] W fun e w' => e = .returned (.int .i64 (findZ (tabL t.ls) s)) ∧ Ext W w') := fun W hE s => find_any (ht.ext hE) s
  have HANC : Hid (∀ W, Ext w W → _) := fun W (hE : Ext w W) => anc_any hs (hM.ext hE)
  obtain ⟨ls, al, nr, ⟨A1, m1, c1⟩, ⟨A2, m2, c2⟩, ⟨A3, m3, c3⟩⟩ := t
  have HT := Lib.hid ht
  unfold tbV
  dsimp only at HT ⊢
  clear ht
  obtain ⟨W0, hW0⟩ : ∃ W0, W0 = w.alloc (Obj.cells #[.slice A1 m1 c1, .slice A2 m2 c2, .slice A3 m3 c3] 26) := ⟨_, rfl⟩
  have hE0 : Ext w W0 := by rw [hW0]; exact (Ext.refl w).alloc _
  have hb0 : Blk W0 w.heap.size 26 #[.slice A1 m1 c1, .slice A2 m2 c2, .slice A3 m3 c3] := by rw [hW0]; exact Blk.new w _ _
  obtain ⟨x, hx⟩ : ∃ x, x = str s := ⟨_, rfl⟩
  have HX := Lib.hid hx
  rw [← hx] at HANC ⊢
  clear hx hs hM
  go_enter Tryz.func78, Tryz.ntmps78
  go_upto_region 1 with fail
  rw [← hW0]
  obtain ⟨g0, hg0⟩ : ∃ g, g = w.heap.size := ⟨_, rfl⟩
  rw [← hg0] at hb0 ⊢
  have HB0 := Lib.hid hb0
  have HE0 := Lib.hid hE0
  have HG0 : Hid (w.heap.size ≤ g0) := by show _ ≤ _; omega
  have k0 := laters (show W0.cell? ⟨g0, 0, none⟩ = some (.slice A1 m1 c1) from HB0.out.cell 0)
  have k1 := laters (show W0.cell? ⟨g0, 1, none⟩ = some (.slice A2 m2 c2) from HB0.out.cell 1)
  have k2 := laters (show W0.cell? ⟨g0, 2, none⟩ = some (.slice A3 m3 c3) from HB0.out.cell 2)
  have hEr := Ext.refl W0
  clear hb0 hW0 hg0 hE0
  have HF1 := Lib.hid (HFD.out W0 HE0.out s)
  rw [← HX.out] at HF1
  unfold tbV at HF1
  dsimp only at HF1
  go_wp2_with (first
    | (go_at_call 79; refine Hid.out ?_))
  refine Hid.mk_ ((HF1.out).mono ?_)
  rintro e w1 ⟨rfl, hE1⟩
  cases hf : findC (tabL ls) s with
  | some i =>
    have HN : Hid (nearC (tabL ls) s = i) := by show _ = _; unfold nearC; rw [hf]
    rw [findZ_some hf]
    have hi0 : (i : Int) ≥ 0 := by omega
    clear hf
    go_wp2
    go_ret
    exact ⟨by rw [HN.out]; rfl, HE0.out.trans hE1⟩
  | none =>
    have HN : Hid (nearC (tabL ls) s = nearL (tabL ls) (ancS s)) := by show _ = _; unfold nearC; rw [hf]
    rw [findZ_none hf]
    clear hf
    go_wp2_with (first
      | (go_at_call 106; refine Hid.out ?_))
    refine Hid.mk_ ((HANC.out _ (HE0.out.trans hE1)).mono ?_)
    rintro e w2 ⟨⟨A, m, c, z, rfl, hsl, hmc⟩, hE2⟩
    have HL : Hid (m = (ancS s).length) := by have := hsl.len; rw [List.length_map] at this; exact this
    have hle := hsl.le
    have HSL := Lib.hid hsl
    have HE2 := Lib.hid ((HE0.out.trans hE1).trans hE2)
    have hE02 := hE1.trans hE2
    clear hsl hmc
    go_wp2
    go_loopw [9, 10, 24] (fun _ _ i wr => ∃ q : Nat, q ≤ m ∧ i = .int .i64 q ∧ Hid (Ext W0 wr) ∧ Hid (Ext w2 wr) ∧ Hid (nearL (tabL ls) (ancS s) = nearL (tabL ls) ((ancS s).drop q))) (fun _ _ i _ => m - (intOf i).toNat)
    case atStart => exact ⟨0, Nat.zero_le _, rfl, hE02, Ext.refl _, Lib.hid (by rw [List.drop_zero])⟩
    case round =>
      obtain ⟨q, hq, rfl, HE, HEE, HC⟩ := hrel
      by_cases hlt : q < m
      · obtain ⟨b, off, rfl, hbl, hcs⟩ := strs_cells (HSL.out.ext HEE.out) (by omega)
        have hlt1 : q < (ancS s).length := by rw [← HL.out]; exact hlt
        have x0 := hcs q (str (ancS s)[q]) (by rw [List.getElem?_map, List.getElem?_eq_getElem hlt1]; rfl)
        obtain ⟨v, hv⟩ : ∃ v, v = (ancS s)[q] := ⟨_, rfl⟩
        have HDR : Hid (nearL (tabL ls) (ancS s) = match findC (tabL ls) v with
          | some i => i
          | none => nearL (tabL ls) ((ancS s).drop (q + 1))) := by
          show _ = _
          rw [HC.out, List.drop_eq_getElem_cons hlt1, nearL_cons, hv]
        rw [← hv] at x0
        have HF1 := Lib.hid (HFD.out wr (HE0.out.trans HE.out) v)
        unfold tbV at HF1
        dsimp only at HF1
        obtain ⟨y, hy⟩ : ∃ y, y = str v := ⟨_, rfl⟩
        rw [← hy] at x0 HF1
        have hi1 : (q : Int) < (m : Int) := by omega
        have hEw := HE.out
        clear hcs hv hy
        go_wp2_with (first
          | (go_at_call 79; refine Hid.out ?_))
        refine Hid.mk_ ((HF1.out).mono ?_)
        rintro e w3 ⟨rfl, hE3⟩
        have HEW := Lib.hid (HE.out.trans hE3)
        have HEX := Lib.hid (HEE.out.trans hE3)
        cases hf : findC (tabL ls) v with
        | some i =>
          have HNN : Hid (nearC (tabL ls) s = i) := by show _ = _; rw [HN.out, HDR.out, hf]
          rw [findZ_some hf]
          have hi0 : (i : Int) ≥ 0 := by omega
          clear hf
          go_wp2
          go_ret
          exact ⟨by rw [HNN.out]; rfl, HE0.out.trans HEW.out⟩
        | none =>
          have HNN : Hid (nearL (tabL ls) (ancS s) = nearL (tabL ls) ((ancS s).drop (q + 1))) := by show _ = _; rw [HDR.out, hf]
          rw [findZ_none hf]
          clear hf
          go_wp2
          go_roundw
          case rel => exact ⟨q + 1, by omega, by go_num, HEW, HEX, HNN⟩
          case measure => simp [intOf]; omega
      · have hi1 : ¬ (q : Int) < (m : Int) := by omega
        have HNN : Hid (nearC (tabL ls) s = 0) := by
          show _ = _
          rw [HN.out, HC.out, List.drop_eq_nil_of_le (by have := HL.out; omega)]
          rfl
        go_wp2
        go_ret
        exact ⟨by rw [HNN.out]; rfl, HE0.out.trans HE.out⟩
set_option maxHeartbeats 1600000 in
theorem indexN_any {A : Option Addr} {m : Nat} (c : Nat) {l : List Nat} (hs : SlC niC 1 w A m l) (x : Nat) :
    Calls Tryz.prog 81 #[.slice A m c, .int .i64 x] w fun e w' => (∃ z : Int, e = .returned (.int .i64 z) ∧ ((x ∈ l ∧ 0 ≤ z) ∨ (¬ x ∈ l ∧ z = -1))) ∧ w = w' := by
  have HL : Hid (m = l.length) := hs.len
  have hle := hs.le
  have HS := Lib.hid hs
  clear hs
  go_enter Tryz.func81, Tryz.ntmps81
  go_wp2
  go_loopw [5, 8] (fun _ i wr => ∃ q : Nat, q ≤ m ∧ i = .int .i64 q ∧ wr = w ∧ Hid (∀ j (_ : j < q) (h : j < l.length), l[j] ≠ x)) (fun _ i _ => m - (intOf i).toNat)
  case atStart => exact ⟨0, Nat.zero_le _, rfl, rfl, fun j hj _ => absurd hj (by omega)⟩
  case round =>
    obtain ⟨q, hq, rfl, rfl, HC⟩ := hrel
    by_cases hlt : q < m
    · obtain ⟨b, off, rfl, hbl, hcs⟩ := HS.out.at_ hlt (by omega)
      have hlt1 : q < l.length := by rw [← HL.out]; exact hlt
      obtain ⟨y, hyq⟩ : ∃ y, y = l[q] := ⟨_, rfl⟩
      have x0 := hcs q hlt1 0 (by omega)
      simp only [← hyq, niC, List.getElem_cons_zero, Nat.add_zero, Nat.mul_one] at x0
      have hi1 : (q : Int) < (m : Int) := by omega
      have HY := Lib.hid hyq
      clear hcs hyq
      by_cases hxy : y = x
      · have HM : Hid (x ∈ l) := by show _ ∈ _; rw [← hxy, HY.out]; exact List.getElem_mem hlt1
        subst hxy
        have e1 : ((y : Int) == (y : Int)) = true := by simp
        go_wp2
        go_ret
        exact ⟨⟨q, rfl, .inl ⟨HM.out, by omega⟩⟩, rfl⟩
      · have e1 : ((x : Int) == (y : Int)) = false := beq_eq_false_iff_ne.2 (by omega)
        have HN : Hid (∀ j (_ : j < q + 1) (h : j < l.length), l[j] ≠ x) := fun j hj h => by
          rcases Nat.lt_or_ge j q with h2 | h2
          · exact HC.out j h2 h
          · obtain rfl : j = q := by omega
            rw [← HY.out]; exact hxy
        clear hxy
        go_wp2
        go_roundw
        case rel => exact ⟨q + 1, by omega, by go_num, by first | trivial | rfl, HN⟩
        case measure => simp [intOf]; omega
    · have hi1 : ¬ (q : Int) < (m : Int) := by omega
      have HM : Hid (¬ x ∈ l) := fun hx => by
        obtain ⟨j, hj, e⟩ := List.getElem_of_mem hx
        exact HC.out j (by have := HL.out; omega) hj e
      go_wp2
      go_ret
      exact ⟨⟨-1, rfl, .inr ⟨HM.out, rfl⟩⟩, rfl⟩
set_option maxHeartbeats 1600000 in
theorem containsN_any {A : Option Addr} {m : Nat} (c : Nat) {l : List Nat} (hs : SlC niC 1 w A m l) (x : Nat) :
    Calls Tryz.prog 51 #[.slice A m c, .int .i64 x] w fun e w' => e = .returned (.bool (decide (x ∈ l))) ∧ w = w' := by
  have HK := Lib.hid (indexN_any c hs x)
  go_enter Tryz.func51, Tryz.ntmps51
  go_wp2_with (first
    | (go_at_call 81; refine Hid.out ?_))
  refine Hid.mk_ ((HK.out).mono ?_)
  rintro e w1 ⟨⟨z, rfl, hz⟩, rfl⟩
  rcases hz with ⟨h1, h2⟩ | ⟨h1, rfl⟩
  · have H1 := Lib.hid (decide_eq_true h1)
    clear h1
    go_wp2
    go_ret
    exact ⟨by rw [H1.out]; rfl, rfl⟩
  · have H1 := Lib.hid (decide_eq_false h1)
    clear h1
    go_wp2
    go_ret
    exact ⟨by rw [H1.out]; rfl, rfl⟩
/-- What walk returns: the iterator over its boxes. -/
theorem walk_any (t : TabH) (s : List UInt8) :
    Calls Tryz.prog 50 #[tbV t, .string (str s)] w fun e w' => ∃ g1 g2 : Nat, e = .returned (.func (.func 77) #[] #[.pointer (some ⟨g1, 0, none⟩), .pointer (some ⟨g2, 0, none⟩)]) ∧
      w.heap.size ≤ g1 ∧ w.heap.size ≤ g2 ∧ Blk w' g1 26 #[.slice t.hl.A t.hl.m t.hl.c, .slice t.ha.A t.ha.m t.ha.c, .slice t.hn.A t.hn.m t.hn.c] ∧ Blk w' g2 9 #[.string (str s)] ∧ Ext w w' := by
  obtain ⟨ls, al, nr, ⟨A1, m1, c1⟩, ⟨A2, m2, c2⟩, ⟨A3, m3, c3⟩⟩ := t
  unfold tbV
  dsimp only
  have hE1 : Ext w ((w.alloc (Obj.cells #[.slice A1 m1 c1, .slice A2 m2 c2, .slice A3 m3 c3] 26)).alloc (Obj.cells #[.string (str s)] 9)) := ((Ext.refl w).alloc _).alloc _
  have hb0 := (Blk.new w 26 #[.slice A1 m1 c1, .slice A2 m2 c2, .slice A3 m3 c3]).alloc (Obj.cells #[.string (str s)] 9)
  have hb := Blk.new (w.alloc (Obj.cells #[.slice A1 m1 c1, .slice A2 m2 c2, .slice A3 m3 c3] 26)) 9 #[.string (str s)]
  rw [show (w.alloc (Obj.cells #[.slice A1 m1 c1, .slice A2 m2 c2, .slice A3 m3 c3] 26)).heap.size = w.heap.size + 1 by simp] at hb
  have HB := Lib.hid hb
  have HB0 := Lib.hid hb0
  have HE1 := Lib.hid hE1
  clear hb hE1 hb0
  go_enter Tryz.func50, Tryz.ntmps50
  go_wp2
  go_ret
  exact ⟨w.heap.size, w.heap.size + 1, rfl, Nat.le_refl _, by omega, HB0.out, HB.out, HE1.out⟩
end
end Go.Proofs.YtdgppdiickmofaaGreatDoor
