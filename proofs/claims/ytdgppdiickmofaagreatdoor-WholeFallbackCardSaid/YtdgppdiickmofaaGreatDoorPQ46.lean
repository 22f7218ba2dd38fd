/- The program's effective locales: Effective. -/
import Derived.Test.YtdgppdiickmofaaGreatDoorPQ38
import Derived.Test.YtdgppdiickmofaaGreatDoorPQ45
namespace Go.Proofs.YtdgppdiickmofaaGreatDoor
open Go.RowKit
set_option maxRecDepth 100000
attribute [local go_sem] ext_refl_t ext_alloc_t ext_drew_t ext_drewN_t ext_alloc2_t ext_alloc3_t ext_alloc4_t ext_alloc5_t ext_alloc6_t ext_alloc7_t ext_alloc8_t ext_alloc1d_t ext_alloc2d_t ext_alloc3d_t ext_alloc4d_t
attribute [local go_sem] yielded_undef
/-- The locales at the places of a chain. -/
def atP (xs : List LxH) (c : List Nat) : List LxH := c.filterMap fun i => xs[i]?
theorem atP_step {xs : List LxH} {c : List Nat} {q : Nat} (hq : q < c.length) (hi : c[q] < xs.length) : atP xs (c.take (q + 1)) = atP xs (c.take q) ++ [xs[c[q]]] := by
  unfold atP
  rw [List.take_succ_eq_append_getElem hq, List.filterMap_append]
  simp [hi]
theorem atP_mem {xs : List LxH} {c : List Nat} {x : LxH} (h : x ∈ atP xs c) : x ∈ xs := by
  unfold atP at h
  obtain ⟨i, _, h2⟩ := List.mem_filterMap.1 h
  exact List.mem_of_getElem? h2
theorem atP_len {xs : List LxH} : ∀ {c : List Nat}, (∀ i ∈ c, i < xs.length) → (atP xs c).length = c.length
  | [], _ => rfl
  | i :: r, h => by
    have h1 := atP_len (xs := xs) (c := r) fun j hj => h j (List.mem_cons_of_mem _ hj)
    have h2 := h i (List.mem_cons_self ..)
    unfold atP at h1 ⊢
    rw [List.filterMap_cons, List.getElem?_eq_getElem h2]
    simp [h1]
def efY (tag d : List UInt8) (s : SymP) : LcH := ⟨tag, [], d, ⟨none, 0, 0⟩, ⟨none, 0, 0⟩, s.1, s.2.1, s.2.2.1, s.2.2.2.1, s.2.2.2.2.1, s.2.2.2.2.2, ⟨none, 0, 0⟩, ⟨none, 0, 0⟩, ⟨none, 0, 0⟩, ⟨none, 0, 0⟩, ⟨none, 0, 0⟩⟩
theorem dirP_step (l : List LcH) (x : LcH) : dirP (l ++ [x]) = if dirP l = [] then x.dir else dirP l := by
  unfold dirP
  rw [List.foldl_append]
  rfl
theorem symF_step (l : List LcH) (x : LcH) : symF (l ++ [x]) = if (symF l).1 = [] then symL x else symF l := by
  unfold symF
  rw [List.foldl_append]
  rfl
theorem lcC_cell : ∀ y : LcH, ∀ u ∈ lcC y, u.oneCell' = true := by
  intro x u hu
  simp only [lcC, List.mem_cons, List.not_mem_nil, or_false] at hu
  rcases hu with rfl | rfl | rfl | rfl | rfl | rfl | rfl | rfl | rfl | rfl | rfl | rfl | rfl | rfl | rfl | rfl <;> rfl
theorem lc_all (y : LcH) : (lcC y).toArray.all (·.oneCell') = true := by
  rw [List.all_toArray, List.all_eq_true]
  exact lcC_cell y
def lcZ : LcH := ⟨[], [], [], ⟨none, 0, 0⟩, ⟨none, 0, 0⟩, [], [], [], [], 0, 0, ⟨none, 0, 0⟩, ⟨none, 0, 0⟩, ⟨none, 0, 0⟩, ⟨none, 0, 0⟩, ⟨none, 0, 0⟩⟩
theorem wpList_storeLc {ops : Array Oper} {rest : List Oper} {o : Oper} {a : Act} {W : World} {Q : Exit → Act → World → Prop} {x yo : Operand} (hgd : o.guard = none) (ho : o.op = .store 38 x yo) {g : Nat} (hx : a.eval x = .pointer (some ⟨g, 0, none⟩)) (y : LcH) (hy : a.eval yo = lcV y)
    {old : Array Value} (hb : Blk W g 38 old) (hsz : old.size = 16) (h : wpList Tryz.prog ops Q rest (a.put o.dst undef) (W.setRow g (lcC y).toArray)) : wpList Tryz.prog ops Q (o :: rest) a W :=
  wpList_plain hgd fun _ hK => wp_store_row _ x yo ho g (lcC y).toArray hx hy 38 old hb (by kernel_rfl) hsz (lc_all y) (hK _ _ h)
theorem wpList_loadLc {ops : Array Oper} {rest : List Oper} {o : Oper} {a : Act} {W : World} {Q : Exit → Act → World → Prop} {x : Operand} (hgd : o.guard = none) (ho : o.op = .load 38 x) {b off : Nat} (hx : a.eval x = .pointer (some ⟨b, off, none⟩)) (y : LcH)
    (hc : W.rangeAt b off (lcC y)) (h : wpList Tryz.prog ops Q rest (a.put o.dst (.agg (lcC y).toArray)) W) : wpList Tryz.prog ops Q (o :: rest) a W :=
  wpList_load_mid hgd 38 x ho b off hx (lcC y) _ hc Tryz.underlying38 rfl (by kernel_rfl) h
theorem range_lc {W : World} {A : Option Addr} {m : Nat} {l : List LcH} (h : SlC lcC 16 W A m l) {q b off : Nat} (hA : A = some ⟨b, off, none⟩) (hq : q < m) (hl : q < l.length) : W.rangeAt b (off + q * 16) (lcC l[q]) := by
  intro j v hv
  obtain ⟨b2, off2, e, _, hcs⟩ := h.at_ hq (by omega)
  rw [hA] at e
  simp only [Option.some.injEq, Addr.mk.injEq, and_true] at e
  obtain ⟨e1, e2⟩ := e
  subst e1 e2
  obtain ⟨hj, hv2⟩ := List.getElem?_eq_some_iff.1 hv
  have h1 := hcs q hl j hj
  rw [Nat.add_assoc, h1, hv2]
theorem range_blk {W : World} {g : Nat} {y : LcH} (h : Blk W g 38 (lcC y).toArray) : W.rangeAt g 0 (lcC y) := by
  intro j v hv
  rw [Nat.zero_add, h.cell j]
  simpa using hv
theorem einfo_lc : EInfo 22 38 16 296 := EInfo.mk_ (z := .agg #[.string ⟨#[]⟩, .string ⟨#[]⟩, .string ⟨#[]⟩, .slice none 0 0, .slice none 0 0, .string ⟨#[]⟩, .string ⟨#[]⟩, .string ⟨#[]⟩, .string ⟨#[]⟩, .int .i64 0, .int .i64 0, .slice none 0 0, .slice none 0 0, .slice none 0 0, .slice none 0 0, .slice none 0 0]) Tryz.underlying22 (by kernel_rfl) rfl (by omega) (by omega)
section
variable {w : World}
set_option maxHeartbeats 25600000 in
theorem eff_walk {wb : World} (hbx : Ext wb w) {t : TabH} (ht : LcsW w t.hl t.ls) {xs : List LxH} (hx : xs.map LxH.lc = t.ls) (hd : ∀ x ∈ xs, DLx wb x ∧ SzX x) (hl12 : xs.length ≤ 12) {s : List UInt8} {cl : List Nat} {er : Int}
    (hch : ∀ W, Ext w W → Calls Tryz.prog 13 #[tbV t, .string (str s)] W fun e w' => (∃ h : SlH, e = .returned (.tuple #[.slice h.A h.m h.c, .int .i64 er]) ∧ SlC niC 1 w' h.A h.m cl) ∧ Ext W w')
    (hlt : ∀ i ∈ cl, i < xs.length) (hln : cl.length ≤ xs.length) (hne : er = 0 → cl ≠ []) :
    Calls Tryz.prog 7 #[tbV t, .string (str s)] w fun e w' => (∃ y : LcH, e = .returned (.tuple #[lcV y, .int .i64 er]) ∧ (er = 0 → ∃ x : LxH, x.lc = y ∧ DLy w' (fun j => wb.heap.size ≤ j ∧ j < w.heap.size) x ∧ EfR (atP xs cl) (plx x))) ∧ Ext w w' := by
  have HBX := Lib.hid hbx
  have HCH := Lib.hid hch
  have HLT := Lib.hid hlt
  have HLN := Lib.hid hln
  have HNE := Lib.hid hne
  have HX := Lib.hid hx
  have HD := Lib.hid hd
  have HX12 := Lib.hid hl12
  clear hbx hch hlt hln hne hx hd hl12
  obtain ⟨ls, al, nr, ⟨A1, m1, c1⟩, ⟨A2, m2, c2⟩, ⟨A3, m3, c3⟩⟩ := t
  have HT := Lib.hid ht
  unfold tbV
  unfold tbV at HCH
  dsimp only at HT HCH HX ⊢
  clear ht
  obtain ⟨x, hx⟩ : ∃ x, x = str s := ⟨_, rfl⟩
  rw [← hx] at HCH ⊢
  clear hx
  obtain ⟨W0, hW0⟩ : ∃ W0, W0 = (w.alloc (Obj.cells #[.slice A1 m1 c1, .slice A2 m2 c2, .slice A3 m3 c3] 26)).alloc (Obj.cells #[.string ⟨#[]⟩, .string ⟨#[]⟩, .string ⟨#[]⟩, .slice none 0 0, .slice none 0 0, .string ⟨#[]⟩, .string ⟨#[]⟩, .string ⟨#[]⟩, .string ⟨#[]⟩, .int .i64 0, .int .i64 0, .slice none 0 0, .slice none 0 0, .slice none 0 0, .slice none 0 0, .slice none 0 0] 38) := ⟨_, rfl⟩
  have hE0 : Ext w W0 := by rw [hW0]; exact ((Ext.refl w).alloc _).alloc _
  have hb0 : Blk W0 w.heap.size 26 #[.slice A1 m1 c1, .slice A2 m2 c2, .slice A3 m3 c3] := by rw [hW0]; exact (Blk.new w _ _).alloc _
  have hb4 : Blk W0 (w.heap.size + 1) 38 #[.string ⟨#[]⟩, .string ⟨#[]⟩, .string ⟨#[]⟩, .slice none 0 0, .slice none 0 0, .string ⟨#[]⟩, .string ⟨#[]⟩, .string ⟨#[]⟩, .string ⟨#[]⟩, .int .i64 0, .int .i64 0, .slice none 0 0, .slice none 0 0, .slice none 0 0, .slice none 0 0, .slice none 0 0] := by rw [hW0]; exact blk_new1 w _ _ _
  have hsz : W0.heap.size = w.heap.size + 2 := by rw [hW0]; simp
  obtain ⟨g4, hg4⟩ : ∃ g, g = w.heap.size + 1 := ⟨_, rfl⟩
  obtain ⟨g0, hg0⟩ : ∃ g, g = w.heap.size := ⟨_, rfl⟩
  have HG : Hid (g0 = w.heap.size ∧ g4 = w.heap.size + 1 ∧ W0.heap.size = w.heap.size + 2) := ⟨hg0, hg4, hsz⟩
  rw [← hg0] at hb0
  rw [← hg4] at hb4
  have HW0 := Lib.hid hW0
  have HG4 := Lib.hid hg4
  have HG0 := Lib.hid hg0
  have HB0 := Lib.hid hb0
  have HB4 := Lib.hid hb4
  have HE0 := Lib.hid hE0
  clear hW0 hg4 hg0 hb0 hb4 hE0 hsz
  go_enter Tryz.func7, Tryz.ntmps7
  go_upto_region 1 with fail
  rw [← HW0.out, ← HG4.out, ← HG0.out]
  have k0 := laters (show W0.cell? ⟨g0, 0, none⟩ = some (.slice A1 m1 c1) from HB0.out.cell 0)
  have k1 := laters (show W0.cell? ⟨g0, 1, none⟩ = some (.slice A2 m2 c2) from HB0.out.cell 1)
  have k2 := laters (show W0.cell? ⟨g0, 2, none⟩ = some (.slice A3 m3 c3) from HB0.out.cell 2)
  have hEr := Ext.refl W0
  go_wp2_with (first
    | (go_at_call 13; refine Hid.out ?_))
  refine Hid.mk_ ((HCH.out _ HE0.out).mono ?_)
  rintro e w1 ⟨⟨⟨A5, m5, c5⟩, rfl, hsl⟩, hE1⟩
  dsimp only at hsl ⊢
  have HSL := Lib.hid hsl
  have HL : Hid (m5 = cl.length) := hsl.len
  have hle5 : m5 ≤ 12 := by have h1 := HLN.out; have h2 := HX12.out; have h3 := HL.out; omega
  have HE1 := Lib.hid hE1
  clear hsl
  by_cases h0 : er = 0
  case neg =>
    have e1 : (er != 0) = true := by simp [h0]
    have H0 := Lib.hid h0
    have HB41 : Hid (Blk w1 g4 38 #[.string ⟨#[]⟩, .string ⟨#[]⟩, .string ⟨#[]⟩, .slice none 0 0, .slice none 0 0, .string ⟨#[]⟩, .string ⟨#[]⟩, .string ⟨#[]⟩, .string ⟨#[]⟩, .int .i64 0, .int .i64 0, .slice none 0 0, .slice none 0 0, .slice none 0 0, .slice none 0 0, .slice none 0 0]) := HB4.out.below hE1 HB4.out.lt
    clear h0
    go_wp2_with (first
      | (refine wpList_storeLc rfl rfl rfl lcZ rfl HB41.out rfl ?_))
    refine bodyPost_ret (results_cell_row_tmpT rfl _ _ g4 38 _ (0, 0) _ rfl (setRow_heap' HB41.out _) Tryz.underlying38 rfl (by kernel_rfl)) rfl ?_
    have hg := HG.out
    exact ⟨⟨lcZ, rfl, fun e => absurd e H0.out⟩, (HE0.out.trans HE1.out).grown (grown_setRow w1 g4 _) (fun j hj => by injection hj with hj; omega)⟩
  case pos =>
    subst h0
    go_wp2
    go_loopw [8, 10, 26] (fun s8 _ i wr => ∃ (q : Nat) (A : Option Addr) (m c : Nat), q ≤ m5 ∧ i = .int .i64 q ∧ s8 = .slice A m c ∧ Hid (m = q) ∧ Hid (Ext W0 wr) ∧ Hid (Ext w1 wr) ∧ Hid (OsC lcC 38 16 wr w1.heap.size A m c ((atP xs (cl.take q)).map LxH.lc))) (fun _ _ i _ => m5 - (intOf i).toNat)
    case atStart => exact ⟨0, none, 0, 0, Nat.zero_le _, rfl, rfl, rfl, HE1, Ext.refl _, OsC.nil_ lcC_len lcC_cell⟩
    case round =>
      obtain ⟨q, A, m, c, hq, rfl, rfl, HMQ, HE, HEE, HO⟩ := hrel
      by_cases hlt : q < m5
      · skip
        --S[ l1
        obtain ⟨b, off, e0, hbl, hcs⟩ := ni_cells (HSL.out.ext HEE.out) (by omega)
        subst e0
        have hlt1 : q < cl.length := by rw [← HL.out]; exact hlt
        have x0 := hcs q hlt1
        have hil := HLT.out _ (List.getElem_mem hlt1)
        obtain ⟨i, hiq⟩ : ∃ i, i = cl[q] := ⟨_, rfl⟩
        rw [← hiq] at x0
        have hil2 : i < xs.length := by rw [hiq]; exact hil
        have hil3 : i < ls.length := by rw [← HX.out, List.length_map]; exact hil2
        have HLL : Hid (m1 = ls.length) := HT.out.sl.len
        have him : i < m1 := by rw [HLL.out]; exact hil3
        obtain ⟨b1, off1, e0, hbl1, hcs1⟩ := (HT.out.sl.ext (HE0.out.trans HE.out)).at_ him (by omega)
        dsimp only at e0
        subst e0
        obtain ⟨y, hyq⟩ : ∃ y, y = ls[i] := ⟨_, rfl⟩
        have y0 := hcs1 i hil3 0 (by omega)
        have y1 := hcs1 i hil3 1 (by omega)
        have y2 := hcs1 i hil3 2 (by omega)
        have y3 := hcs1 i hil3 3 (by omega)
        have y4 := hcs1 i hil3 4 (by omega)
        have y5 := hcs1 i hil3 5 (by omega)
        have y6 := hcs1 i hil3 6 (by omega)
        have y7 := hcs1 i hil3 7 (by omega)
        have y8 := hcs1 i hil3 8 (by omega)
        have y9 := hcs1 i hil3 9 (by omega)
        have y10 := hcs1 i hil3 10 (by omega)
        have y11 := hcs1 i hil3 11 (by omega)
        have y12 := hcs1 i hil3 12 (by omega)
        have y13 := hcs1 i hil3 13 (by omega)
        have y14 := hcs1 i hil3 14 (by omega)
        have y15 := hcs1 i hil3 15 (by omega)
        simp only [← hyq, lcC, List.getElem_cons_zero, List.getElem_cons_succ, Nat.add_zero, ← Nat.add_assoc] at y0 y1 y2 y3 y4 y5 y6 y7 y8 y9 y10 y11 y12 y13 y14 y15
        have HST : Hid ((atP xs (cl.take (q + 1))).map LxH.lc = (atP xs (cl.take q)).map LxH.lc ++ [y]) := by
          show _ = _
          subst hiq
          rw [atP_step hlt1 hil, List.map_append, hyq]
          simp [← HX.out]
        have hi1 : (q : Int) < (m5 : Int) := by omega
        have hi2 : (i : Int) < (m1 : Int) := by omega
        have hEw := HE.out
        have hnew : SlC lcC 16 (wr.alloc (.cells #[.string (str y.tag), .string (str y.par), .string (str y.dir), .slice y.card.A y.card.m y.card.c, .slice y.ord.A y.ord.m y.ord.c, .string (str y.dec), .string (str y.grp), .string (str y.min), .string (str y.pct), .int .i64 y.p1, .int .i64 y.p2, .slice y.lst.A y.lst.m y.lst.c, .slice y.unt.A y.unt.m y.unt.c, .slice y.dat.A y.dat.m y.dat.c, .slice y.mon.A y.mon.m y.mon.c, .slice y.day.A y.day.m y.day.c] 38)) (some ⟨wr.heap.size, 0, none⟩) 1 [y] := SlC.new_ (cs := lcC) wr [y] lcC_len (by simp) _ rfl (0, 0) _ rfl _
        have HNEW := Lib.hid hnew
        have HOX := Lib.hid (HO.out.ext ((Ext.refl wr).alloc (.cells #[.string (str y.tag), .string (str y.par), .string (str y.dir), .slice y.card.A y.card.m y.card.c, .slice y.ord.A y.ord.m y.ord.c, .string (str y.dec), .string (str y.grp), .string (str y.min), .string (str y.pct), .int .i64 y.p1, .int .i64 y.p2, .slice y.lst.A y.lst.m y.lst.c, .slice y.unt.A y.unt.m y.unt.c, .slice y.dat.A y.dat.m y.dat.c, .slice y.mon.A y.mon.m y.mon.c, .slice y.day.A y.day.m y.day.c] 38)))
        have hbase : w1.heap.size ≤ (wr.alloc (.cells #[.string (str y.tag), .string (str y.par), .string (str y.dir), .slice y.card.A y.card.m y.card.c, .slice y.ord.A y.ord.m y.ord.c, .string (str y.dec), .string (str y.grp), .string (str y.min), .string (str y.pct), .int .i64 y.p1, .int .i64 y.p2, .slice y.lst.A y.lst.m y.lst.c, .slice y.unt.A y.unt.m y.unt.c, .slice y.dat.A y.dat.m y.dat.c, .slice y.mon.A y.mon.m y.mon.c, .slice y.day.A y.day.m y.day.c] 38)).heap.size := (HEE.out.alloc _).size_le
        have HES := Lib.hid HE1.out.size
        clear hcs hcs1 hyq hiq hil hnew hbl hbl1
        go_wp2_with (first
          | (at_builtin; refine Hid.out ?_))
        refine Hid.mk_ ?_
        refine appC einfo_lc rfl _ _ rfl HOX.out rfl HNEW.out rfl (by have := HMQ.out; omega) hbase ?_
        intro A8 m8 c8 w8 ho8 hg8 hn8
        have HE8 : Hid (Ext W0 w8) := (HE.out.alloc _).grown hg8 (fun j hj => Nat.le_trans HES.out (HOX.out.ge j hj))
        have HEE8 : Hid (Ext w1 w8) := (HEE.out.alloc _).grown hg8 (fun j hj => HOX.out.ge j hj)
        have HO8 : Hid (OsC lcC 38 16 w8 w1.heap.size A8 m8 c8 ((atP xs (cl.take (q + 1))).map LxH.lc)) := by rw [HST.out]; exact ho8
        have HM8 : Hid (m8 = q + 1) := by show _ = _; have h1 := ho8.len; rw [List.length_append, ← HO.out.len] at h1; simp only [List.length_singleton] at h1; have := HMQ.out; omega
        clear ho8 hg8 hn8 hbase y0 y1 y2 y3 y4 y5 y6 y7 y8 y9 y10 y11 y12 y13 y14 y15 x0
        go_wp2
        go_roundw
        case rel => exact ⟨q + 1, A8, m8, c8, by omega, by go_num, rfl, HM8, HE8, HEE8, HO8⟩
        case measure => simp [intOf]; omega
--S]
      · have hi1 : ¬ (q : Int) < (m5 : Int) := by omega
        have HOF : Hid (OsC lcC 38 16 wr w1.heap.size A m c ((atP xs cl).map LxH.lc)) := by
          have h := HO.out
          rwa [List.take_of_length_le (by have := HL.out; omega)] at h
        obtain ⟨lx, hlx⟩ : ∃ l, l = atP xs cl := ⟨_, rfl⟩
        have hlxl : lx.length = cl.length := by rw [hlx]; exact atP_len HLT.out
        have hlx0 : 0 < lx.length := by rw [hlxl]; exact List.length_pos_iff.2 (by first | exact HNE.out rfl | exact HNE.out trivial)
        have HDL : Hid (∀ x ∈ lx, DLx wb x ∧ SzX x) := fun x hx => HD.out x (atP_mem (by rw [← hlx]; exact hx))
        have HLX : Hid (lx.length ≤ 12) := by show _ ≤ _; rw [hlxl]; exact Nat.le_trans HLN.out HX12.out
        rw [← hlx] at HOF
        have HLXE := Lib.hid hlx
        have HMF : Hid (m = lx.length) := by have h := HOF.out.len; rwa [List.length_map] at h
        have hm0 : 0 < m := by rw [HMF.out]; exact hlx0
        have hm12 : m ≤ 12 := by rw [HMF.out]; exact HLX.out
        have hge0 : (0 : Int) < (m : Int) := by omega
        obtain ⟨b, off, e0, hbl, hcs⟩ := HOF.out.sl.at_ hm0 (by omega)
        subst e0
        have x0 := hcs 0 (by rw [List.length_map]; exact hlx0) 0 (by omega)
        obtain ⟨zt, hz⟩ : ∃ z, z = lx[0].lc.tag := ⟨_, rfl⟩
        simp only [List.getElem_map, ← hz, lcC, List.getElem_cons_zero, Nat.add_zero, Nat.zero_mul] at x0
        have HZ : Hid (lx.head?.map (fun x => x.lc.tag) = some zt) := by
          show _ = _
          rw [hz]
          cases lx with
          | nil => cases hlx0
          | cons a r => rfl
        clear hcs hz hlxl hlx hbl HO
        obtain ⟨V1, hV1⟩ : ∃ V1, V1 = (wr.alloc (.cells lcZs 38)).setRow wr.heap.size (lcC (efY zt [] symZ)).toArray := ⟨_, rfl⟩
        have hbg : Blk V1 wr.heap.size 38 (lcC (efY zt [] symZ)).toArray := by rw [hV1]; exact setRow_heap' (Blk.new wr 38 lcZs) _
        have hEV : Ext wr V1 := by rw [hV1]; exact ((Ext.refl wr).alloc _).grown (grown_setRow _ _ _) (fun j hj => by injection hj with hj; omega)
        obtain ⟨g11, hg11⟩ : ∃ g, g = wr.heap.size := ⟨_, rfl⟩
        rw [← hg11] at hbg
        have HBG := Lib.hid hbg
        have HV1 := Lib.hid hV1
        have HG11 := Lib.hid hg11
        have HGG : Hid (w.heap.size + 2 ≤ g11 ∧ g11 < V1.heap.size) := ⟨by rw [hg11]; have h1 := HG.out.2.2; have h2 := HE.out.size; omega, hbg.lt⟩
        have HS0 : Hid (EfS wb w V1 g11 lx (some ⟨b, off, none⟩) m) := ⟨HBX.out, (HE0.out.trans HE.out).trans hEV, (HOF.out.sl.ext hEV), fun e => by have := HOF.out.lt g11 e; omega, by have := HGG.out.1; omega, hbg.lt, HDL.out, HLX.out⟩
        have HB40 : Hid (Blk V1 g4 38 #[.string ⟨#[]⟩, .string ⟨#[]⟩, .string ⟨#[]⟩, .slice none 0 0, .slice none 0 0, .string ⟨#[]⟩, .string ⟨#[]⟩, .string ⟨#[]⟩, .string ⟨#[]⟩, .int .i64 0, .int .i64 0, .slice none 0 0, .slice none 0 0, .slice none 0 0, .slice none 0 0, .slice none 0 0]) := HB4.out.below (HE.out.trans hEV) HB4.out.lt
        clear hbg hEV hg11 hV1 hE1 hEr k0 k1 k2
        go_upto_region 11 with (first
          | (refine wpList_storeLc rfl rfl rfl (efY zt [] symZ) rfl (Blk.new wr 38 lcZs) rfl ?_))
        rw [← HV1.out, ← HG11.out]
        clear x0
        go_wp2
        obtain ⟨w3, hw3⟩ : ∃ w3 : World, w3 = wr := ⟨_, rfl⟩
        rw [← hw3] at HOF HE HEE HG11 HV1
        clear hw3
        go_loopw [13, 46] (fun _ i wr => ∃ q : Nat, q ≤ m ∧ i = .int .i64 q ∧ Hid (EfS wb w wr g11 lx (some ⟨b, off, none⟩) m) ∧ Hid (Blk wr g11 38 (lcC (efY zt (dirP ((lx.map LxH.lc).take q)) (symF ((lx.map LxH.lc).take q)))).toArray) ∧ Hid (Blk wr g4 38 #[.string ⟨#[]⟩, .string ⟨#[]⟩, .string ⟨#[]⟩, .slice none 0 0, .slice none 0 0, .string ⟨#[]⟩, .string ⟨#[]⟩, .string ⟨#[]⟩, .string ⟨#[]⟩, .int .i64 0, .int .i64 0, .slice none 0 0, .slice none 0 0, .slice none 0 0, .slice none 0 0, .slice none 0 0])) (fun _ i _ => m - (intOf i).toNat)
        case atStart => exact ⟨0, Nat.zero_le _, rfl, HS0, HBG, HB40⟩
        case round =>
          obtain ⟨q, hq, rfl, HSS, HBL, HB4r⟩ := hrel
          by_cases hlt2 : q < m
          · skip
            --S[ l2
            obtain ⟨b2, off2, e0, hbl, hcs⟩ := HSS.out.sl.at_ hlt2 (by omega)
            simp only [Option.some.injEq, Addr.mk.injEq, and_true] at e0
            obtain ⟨e01, e02⟩ := e0
            subst e01
            subst e02
            have hil2 : q < (lx.map LxH.lc).length := by rw [List.length_map, ← HMF.out]; exact hlt2
            obtain ⟨y, hyq⟩ : ∃ y, y = (lx.map LxH.lc)[q] := ⟨_, rfl⟩
            have HRG : Hid (wr.rangeAt b (off + q * 16) (lcC y)) := by show wr.rangeAt _ _ _; rw [hyq]; exact range_lc HSS.out.sl rfl hlt2 hil2
            have HDN : Hid (dirP ((lx.map LxH.lc).take (q + 1)) = if dirP ((lx.map LxH.lc).take q) = [] then y.dir else dirP ((lx.map LxH.lc).take q)) := by show _ = _; rw [List.take_succ_eq_append_getElem hil2, ← hyq, dirP_step]
            have HSN : Hid (symF ((lx.map LxH.lc).take (q + 1)) = if (symF ((lx.map LxH.lc).take q)).1 = [] then symL y else symF ((lx.map LxH.lc).take q)) := by show _ = _; rw [List.take_succ_eq_append_getElem hil2, ← hyq, symF_step]
            obtain ⟨dd, hdd⟩ : ∃ d, d = dirP ((lx.map LxH.lc).take q) := ⟨_, rfl⟩
            obtain ⟨⟨s1, s2, s3, s4, s5, s6⟩, hss⟩ : ∃ d, d = symF ((lx.map LxH.lc).take q) := ⟨_, rfl⟩
            rw [← hdd] at HDN HBL
            rw [← hss] at HSN HBL
            have hi2 : (q : Int) < (m : Int) := by omega
            obtain ⟨W6, hW6⟩ : ∃ W6, W6 = (wr.alloc (.cells lcZs 38)).setRow wr.heap.size (lcC y).toArray := ⟨_, rfl⟩
            obtain ⟨g6, hg6⟩ : ∃ g, g = wr.heap.size := ⟨_, rfl⟩
            have hE6 : Ext wr W6 := by rw [hW6]; exact ((Ext.refl wr).alloc _).grown (grown_setRow _ _ _) (fun j hj => by injection hj with hj; omega)
            have HB6 : Hid (Blk W6 g6 38 (lcC y).toArray) := by show Blk _ _ _ _; rw [hW6, hg6]; exact setRow_heap' (Blk.new wr 38 lcZs) _
            have HGN : Hid (g6 ≠ g11) := by show _ ≠ _; rw [hg6]; have := HSS.out.lt; omega
            have HW6 := Lib.hid hW6
            have HG6 := Lib.hid hg6
            have HE6 := Lib.hid hE6
            have HS6 : Hid (EfS wb w W6 g11 lx (some ⟨b, off, none⟩) m) := HSS.out.ext_ hE6
            have HB26 : Hid (Blk W6 g11 38 (lcC (efY zt dd (s1, s2, s3, s4, s5, s6))).toArray) := HBL.out.below hE6 HBL.out.lt
            have HB46 := Lib.hid (HB4r.out.below hE6 HB4r.out.lt)
            clear hcs hbl hyq hW6 hg6 hE6 hdd hss
            go_upto_region 14 with (first
              | (refine wpList_loadLc rfl rfl rfl y HRG.out ?_)
              | (refine wpList_storeLc rfl rfl rfl y rfl (Blk.new wr 38 lcZs) rfl ?_))
            rw [← HW6.out, ← HG6.out]
            have x2 := show W6.cell? ⟨g6, 2, none⟩ = some (.string (str y.dir)) from HB6.out.cell 2
            have z2 := show W6.cell? ⟨g11, 2, none⟩ = some (.string (str dd)) from HB26.out.cell 2
            have hnb := Blk.new W6 9 #[.string (str dd), .string (str y.dir)]
            have hE7 : Ext W6 (W6.alloc (.cells #[.string (str dd), .string (str y.dir)] 9)) := (Ext.refl W6).alloc _
            have HE7 := Lib.hid hE7
            have HOR := Lib.hid (ors_any (w := W6.alloc (.cells #[.string (str dd), .string (str y.dir)] 9)) W6.heap.size dd y.dir (hnb.cell 0) (hnb.cell 1))
            clear hnb hE7
            go_wp2_with (first
              | (go_at_call 16; refine Hid.out ?_))
            refine Hid.mk_ ((HOR.out).mono ?_)
            rintro e w7 ⟨rfl, rfl⟩
            have HDE : Hid ((if dd = [] then y.dir else dd) = dirP ((lx.map LxH.lc).take (q + 1))) := by show _ = _; rw [HDN.out]
            obtain ⟨dn, hdn⟩ : ∃ d, d = (if dd = [] then y.dir else dd) := ⟨_, rfl⟩
            rw [← hdn] at HDE ⊢
            clear hdn x2 z2
            have HB27 : Hid (Blk (W6.alloc (.cells #[.string (str dd), .string (str y.dir)] 9)) g11 38 (lcC (efY zt dd (s1, s2, s3, s4, s5, s6))).toArray) := HB26.out.alloc _
            have z2 := show (W6.alloc (.cells #[.string (str dd), .string (str y.dir)] 9)).cell? ⟨g11, 2, none⟩ = some (.string (str dd)) from HB27.out.cell 2
            have f2 := HB27.out.frozen 2
            go_upto_region 15 with fail
            obtain ⟨w8, hw8⟩ : ∃ w8, w8 = (W6.alloc (.cells #[.string (str dd), .string (str y.dir)] 9)).setCell ⟨g11, 2, none⟩ (.string (str dn)) := ⟨_, rfl⟩
            have hk8 : KpS (fun j => j = g11) (W6.alloc (.cells #[.string (str dd), .string (str y.dir)] 9)) w8 := by rw [hw8]; exact KpS.setCell _ g11 2 _
            have HB28 : Hid (Blk w8 g11 38 (lcC (efY zt dn (s1, s2, s3, s4, s5, s6))).toArray) := by show Blk _ _ _ _; rw [hw8]; exact HB27.out.set_ 2 _
            have HS8 : Hid (EfS wb w w8 g11 lx (some ⟨b, off, none⟩) m) := by show EfS _ _ _ _ _ _ _; rw [hw8]; exact (HS6.out.ext_ HE7.out).set_ 2 _
            have HB68 := Lib.hid (hk8.blk (HB6.out.alloc _) HGN.out)
            have HB48 := Lib.hid (hk8.blk (HB46.out.alloc _) (fun e => by have h1 := HG.out.2.1; have h2 := HGG.out.1; omega))
            rw [← hw8]
            clear z2 f2 hw8 hk8
            obtain ⟨sx, hsx⟩ : ∃ v, v = str s1 := ⟨_, rfl⟩
            have es := isEmpty_str s1
            have z5 := show w8.cell? ⟨g11, 5, none⟩ = some (.string (str s1)) from HB28.out.cell 5
            rw [← hsx] at es z5
            by_cases hs1 : s1 = []
            · have e1 : sx.toList.isEmpty = true := by rw [es]; exact decide_eq_true hs1
              have HSE : Hid (symL y = symF ((lx.map LxH.lc).take (q + 1))) := by show _ = _; rw [HSN.out, if_pos hs1]
              have z6 := show w8.cell? ⟨g11, 6, none⟩ = some (.string (str s2)) from HB28.out.cell 6
              have z7 := show w8.cell? ⟨g11, 7, none⟩ = some (.string (str s3)) from HB28.out.cell 7
              have z8 := show w8.cell? ⟨g11, 8, none⟩ = some (.string (str s4)) from HB28.out.cell 8
              have z9 := show w8.cell? ⟨g11, 9, none⟩ = some (.int .i64 s5) from HB28.out.cell 9
              have z10 := show w8.cell? ⟨g11, 10, none⟩ = some (.int .i64 s6) from HB28.out.cell 10
              have f5 := HB28.out.frozen 5
              have f6 := HB28.out.frozen 6
              have f7 := HB28.out.frozen 7
              have f8 := HB28.out.frozen 8
              have f9 := HB28.out.frozen 9
              have f10 := HB28.out.frozen 10
              have y5 := show w8.cell? ⟨g6, 5, none⟩ = some (.string (str y.dec)) from HB68.out.cell 5
              have y6 := show w8.cell? ⟨g6, 6, none⟩ = some (.string (str y.grp)) from HB68.out.cell 6
              have y7 := show w8.cell? ⟨g6, 7, none⟩ = some (.string (str y.min)) from HB68.out.cell 7
              have y8 := show w8.cell? ⟨g6, 8, none⟩ = some (.string (str y.pct)) from HB68.out.cell 8
              have y9 := show w8.cell? ⟨g6, 9, none⟩ = some (.int .i64 y.p1) from HB68.out.cell 9
              have y10 := show w8.cell? ⟨g6, 10, none⟩ = some (.int .i64 y.p2) from HB68.out.cell 10
              clear es hs1 hsx
              have HB29 : Hid (Blk ((((((w8.setCell ⟨g11, 5, none⟩ (.string (str y.dec))).setCell ⟨g11, 6, none⟩ (.string (str y.grp))).setCell ⟨g11, 7, none⟩ (.string (str y.min))).setCell ⟨g11, 8, none⟩ (.string (str y.pct))).setCell ⟨g11, 9, none⟩ (.int .i64 y.p1)).setCell ⟨g11, 10, none⟩ (.int .i64 y.p2)) g11 38 (lcC (efY zt dn (symL y))).toArray) := ((((((HB28.out.set_ 5 _).set_ 6 _).set_ 7 _).set_ 8 _).set_ 9 _).set_ 10 _)
              have HS9 : Hid (EfS wb w ((((((w8.setCell ⟨g11, 5, none⟩ (.string (str y.dec))).setCell ⟨g11, 6, none⟩ (.string (str y.grp))).setCell ⟨g11, 7, none⟩ (.string (str y.min))).setCell ⟨g11, 8, none⟩ (.string (str y.pct))).setCell ⟨g11, 9, none⟩ (.int .i64 y.p1)).setCell ⟨g11, 10, none⟩ (.int .i64 y.p2)) g11 lx (some ⟨b, off, none⟩) m) := ((((((HS8.out.set_ 5 _).set_ 6 _).set_ 7 _).set_ 8 _).set_ 9 _).set_ 10 _)
              have hn4 : ¬ g4 = g11 := fun e => by have h1 := HG.out.2.1; have h2 := HGG.out.1; omega
              have HB49 : Hid (Blk ((((((w8.setCell ⟨g11, 5, none⟩ (.string (str y.dec))).setCell ⟨g11, 6, none⟩ (.string (str y.grp))).setCell ⟨g11, 7, none⟩ (.string (str y.min))).setCell ⟨g11, 8, none⟩ (.string (str y.pct))).setCell ⟨g11, 9, none⟩ (.int .i64 y.p1)).setCell ⟨g11, 10, none⟩ (.int .i64 y.p2)) g4 38 lcZs) := (KpS.setCell _ g11 10 _).blk ((KpS.setCell _ g11 9 _).blk ((KpS.setCell _ g11 8 _).blk ((KpS.setCell _ g11 7 _).blk ((KpS.setCell _ g11 6 _).blk ((KpS.setCell _ g11 5 _).blk HB48.out hn4) hn4) hn4) hn4) hn4) hn4
              clear hn4
              go_wp2
              go_roundw
              case rel => exact ⟨q + 1, by omega, by go_num, HS9, by rw [← HDE.out, ← HSE.out]; exact HB29, HB49⟩
              case measure => simp [intOf]; omega
            · have e1 : sx.toList.isEmpty = false := by rw [es]; exact decide_eq_false hs1
              have HSE : Hid ((s1, s2, s3, s4, s5, s6) = symF ((lx.map LxH.lc).take (q + 1))) := by show _ = _; rw [HSN.out, if_neg hs1]
              clear es hs1 hsx
              go_wp2
              go_roundw
              case rel => exact ⟨q + 1, by omega, by go_num, HS8, by rw [← HDE.out, ← HSE.out]; exact HB28, HB48⟩
              case measure => simp [intOf]; omega
--S]
          · have hi2 : ¬ (q : Int) < (m : Int) := by omega
            have HBF : Hid (Blk wr g11 38 (lcC (efY zt (dirP (lx.map LxH.lc)) (symF (lx.map LxH.lc)))).toArray) := by
              have h := HBL.out
              rwa [List.take_of_length_le (by rw [List.length_map]; have := HMF.out; omega)] at h
            obtain ⟨df, hdf⟩ : ∃ d, d = dirP (lx.map LxH.lc) := ⟨_, rfl⟩
            have HDF := Lib.hid hdf
            obtain ⟨⟨s1, s2, s3, s4, s5, s6⟩, hsf⟩ : ∃ d, d = symF (lx.map LxH.lc) := ⟨_, rfl⟩
            have HSF : Hid (symP (lx.map LxH.lc) = if s1 = [] then symZ else (s1, s2, s3, s4, s5, s6)) := by show _ = _; unfold symP; rw [← hsf]
            rw [← hdf, ← hsf] at HBF
            clear hdf hsf HBL
            obtain ⟨sp, hsp⟩ : ∃ d, d = symP (lx.map LxH.lc) := ⟨_, rfl⟩
            have HSPE := Lib.hid hsp
            rw [← hsp] at HSF
            clear hsp
            have HT0 : Hid (EfT wb w wr g11 g4 lx (some ⟨b, off, none⟩) m (efZ zt df (s1, s2, s3, s4, s5, s6) ⟨none, 0, 0⟩ ⟨none, 0, 0⟩ ⟨none, 0, 0⟩ ⟨none, 0, 0⟩ ⟨none, 0, 0⟩ ⟨none, 0, 0⟩ ⟨none, 0, 0⟩) fun _ => True) := ⟨HSS.out, HBF.out, HB4r.out, trivial, Stb.triv _ _, by have h1 := HG.out.2.1; have h2 := HGG.out.1; omega⟩
            obtain ⟨sx, hsx⟩ : ∃ v, v = str s1 := ⟨_, rfl⟩
            have es := isEmpty_str s1
            have z5 := show wr.cell? ⟨g11, 5, none⟩ = some (.string (str s1)) from HBF.out.cell 5
            rw [← hsx] at es z5
            obtain ⟨bq, hbq⟩ : ∃ b, b = decide (s1 = []) := ⟨_, rfl⟩
            rw [← hbq] at es
            have HBQ := Lib.hid hbq
            clear hbq hsx
            go_upto_if 68 with fail
            go_cut [] from 65 to 70 (fun wx => EfT wb w wx g11 g4 lx (some ⟨b, off, none⟩) m (efZ zt df sp ⟨none, 0, 0⟩ ⟨none, 0, 0⟩ ⟨none, 0, 0⟩ ⟨none, 0, 0⟩ ⟨none, 0, 0⟩ ⟨none, 0, 0⟩ ⟨none, 0, 0⟩) fun _ => True)
            case first =>
              cases bq with
              | true =>
                have HE : Hid (sp = symZ) := by show _ = _; rw [HSF.out, if_pos (of_decide_eq_true HBQ.out.symm)]
                have z6 := show wr.cell? ⟨g11, 6, none⟩ = some (.string (str s2)) from HBF.out.cell 6
                have z7 := show wr.cell? ⟨g11, 7, none⟩ = some (.string (str s3)) from HBF.out.cell 7
                have z8 := show wr.cell? ⟨g11, 8, none⟩ = some (.string (str s4)) from HBF.out.cell 8
                have z9 := show wr.cell? ⟨g11, 9, none⟩ = some (.int .i64 s5) from HBF.out.cell 9
                have z10 := show wr.cell? ⟨g11, 10, none⟩ = some (.int .i64 s6) from HBF.out.cell 10
                have f5 := HBF.out.frozen 5
                have f6 := HBF.out.frozen 6
                have f7 := HBF.out.frozen 7
                have f8 := HBF.out.frozen 8
                have f9 := HBF.out.frozen 9
                have f10 := HBF.out.frozen 10
                have hn4 : ¬ g4 = g11 := fun e => by have := HT0.out.g4.2; omega
                have HTN : Hid (EfT wb w ((((((wr.setCell ⟨g11, 5, none⟩ (.string ⟨#[]⟩)).setCell ⟨g11, 6, none⟩ (.string ⟨#[]⟩)).setCell ⟨g11, 7, none⟩ (.string ⟨#[]⟩)).setCell ⟨g11, 8, none⟩ (.string ⟨#[]⟩)).setCell ⟨g11, 9, none⟩ (.int .i64 0)).setCell ⟨g11, 10, none⟩ (.int .i64 0)) g11 g4 lx (some ⟨b, off, none⟩) m (efZ zt df symZ ⟨none, 0, 0⟩ ⟨none, 0, 0⟩ ⟨none, 0, 0⟩ ⟨none, 0, 0⟩ ⟨none, 0, 0⟩ ⟨none, 0, 0⟩ ⟨none, 0, 0⟩) fun _ => True) :=
                  ⟨(((((HSS.out.set_ 5 _).set_ 6 _).set_ 7 _).set_ 8 _).set_ 9 _).set_ 10 _, (((((HBF.out.set_ 5 _).set_ 6 _).set_ 7 _).set_ 8 _).set_ 9 _).set_ 10 _, (KpS.setCell _ g11 10 _).blk ((KpS.setCell _ g11 9 _).blk ((KpS.setCell _ g11 8 _).blk ((KpS.setCell _ g11 7 _).blk ((KpS.setCell _ g11 6 _).blk ((KpS.setCell _ g11 5 _).blk HB4r.out hn4) hn4) hn4) hn4) hn4) hn4, trivial, Stb.triv _ _, HT0.out.g4⟩
                clear hn4
                go_wp2
                go_meet
                rw [HE.out]
                exact HTN.out
              | false =>
                have HE : Hid (sp = (s1, s2, s3, s4, s5, s6)) := by show _ = _; rw [HSF.out, if_neg (of_decide_eq_false HBQ.out.symm)]
                go_wp2
                go_meet
                rw [HE.out]
                exact HT0.out
            case rest =>
              have HT := Lib.hid hcut
              clear hcut z5 es HBQ HSF HBF HT0 HB4r HSS
              go_wp2_with (first
                | (go_at_call 19; refine Hid.out ?_))
              refine Hid.mk_ ((stE1 HT.out.s _).mono ?_)
              rintro e w11 ⟨⟨⟨B11, n11, d11⟩, rfl, hs⟩, hE⟩
              dsimp only at hs ⊢
              have HA1 := Lib.hid (HT.out.ext_ hE)
              have HH1 := Lib.hid hs
              clear hs hE
              go_wp2_with (first
                | (go_at_call 18; refine Hid.out ?_))
              refine Hid.mk_ ((stF1 HA1.out.s (hh := ⟨B11, n11, d11⟩) HH1.out).mono ?_)
              rintro e w12 ⟨⟨⟨B12, n12, d12⟩, rfl, hs⟩, hE⟩
              dsimp only at hs ⊢
              have HC1 := Lib.hid (HA1.out.ext_ hE)
              have HI1 := Lib.hid hs
              clear hs hE
              go_wp2_with (first
                | (go_at_call 17; refine Hid.out ?_))
              refine Hid.mk_ ((stR1 HC1.out.s (hh := ⟨B12, n12, d12⟩) HI1.out).mono ?_)
              rintro e w13 ⟨⟨⟨B13, n13, d13⟩, L1, rfl, hs, hsl, hsp⟩, hE⟩
              dsimp only at hs ⊢
              have HD1 := Lib.hid (HC1.out.ext_ hE)
              have HP1 := Lib.hid hsp
              have HT1 := Lib.hid (HD1.out.set_ 3 (.slice B13 n13 d13) (efZ zt df sp ⟨B13, n13, d13⟩ ⟨none, 0, 0⟩ ⟨none, 0, 0⟩ ⟨none, 0, 0⟩ ⟨none, 0, 0⟩ ⟨none, 0, 0⟩ ⟨none, 0, 0⟩) rfl (fun W => DRs W (SB wb g11) ⟨B13, n13, d13⟩ L1) hs (Stb.drs _ _ _ _))
              have c := show w13.cell? ⟨g11, 3, none⟩ = some (.slice none 0 0) from HD1.out.b.cell 3
              have f := HD1.out.b.frozen 3
              clear hs hE hsp hsl
              go_wp2_with (first
                | (go_at_call 19; refine Hid.out ?_))
              refine Hid.mk_ ((stE2 HT1.out.s _).mono ?_)
              rintro e w21 ⟨⟨⟨B21, n21, d21⟩, rfl, hs⟩, hE⟩
              dsimp only at hs ⊢
              have HA2 := Lib.hid (HT1.out.ext_ hE)
              have HH2 := Lib.hid hs
              clear hs hE c f
              go_wp2_with (first
                | (go_at_call 18; refine Hid.out ?_))
              refine Hid.mk_ ((stF2 HA2.out.s (hh := ⟨B21, n21, d21⟩) HH2.out).mono ?_)
              rintro e w22 ⟨⟨⟨B22, n22, d22⟩, rfl, hs⟩, hE⟩
              dsimp only at hs ⊢
              have HC2 := Lib.hid (HA2.out.ext_ hE)
              have HI2 := Lib.hid hs
              clear hs hE
              go_wp2_with (first
                | (go_at_call 17; refine Hid.out ?_))
              refine Hid.mk_ ((stR2 HC2.out.s (hh := ⟨B22, n22, d22⟩) HI2.out).mono ?_)
              rintro e w23 ⟨⟨⟨B23, n23, d23⟩, L2, rfl, hs, hsl, hsp⟩, hE⟩
              dsimp only at hs ⊢
              have HD2 := Lib.hid (HC2.out.ext_ hE)
              have HP2 := Lib.hid hsp
              have HT2 := Lib.hid (HD2.out.set_ 4 (.slice B23 n23 d23) (efZ zt df sp ⟨B13, n13, d13⟩ ⟨B23, n23, d23⟩ ⟨none, 0, 0⟩ ⟨none, 0, 0⟩ ⟨none, 0, 0⟩ ⟨none, 0, 0⟩ ⟨none, 0, 0⟩) rfl (fun W => DRs W (SB wb g11) ⟨B23, n23, d23⟩ L2) hs (Stb.drs _ _ _ _))
              have c := show w23.cell? ⟨g11, 4, none⟩ = some (.slice none 0 0) from HD2.out.b.cell 4
              have f := HD2.out.b.frozen 4
              clear hs hE hsp hsl
              go_wp2_with (first
                | (go_at_call 23; refine Hid.out ?_))
              refine Hid.mk_ ((stE3 HT2.out.s _).mono ?_)
              rintro e w31 ⟨⟨⟨B31, n31, d31⟩, rfl, hs⟩, hE⟩
              dsimp only at hs ⊢
              have HA3 := Lib.hid (HT2.out.ext_ hE)
              have HH3 := Lib.hid hs
              clear hs hE c f
              go_wp2_with (first
                | (go_at_call 22; refine Hid.out ?_))
              refine Hid.mk_ ((stF3 HA3.out.s (hh := ⟨B31, n31, d31⟩) HH3.out).mono ?_)
              rintro e w33 ⟨⟨⟨B33, n33, d33⟩, rfl, hs⟩, hE⟩
              dsimp only at hs ⊢
              have HD3 := Lib.hid (HA3.out.ext_ hE)
              have HT3 := Lib.hid (HD3.out.set_ 14 (.slice B33 n33 d33) (efZ zt df sp ⟨B13, n13, d13⟩ ⟨B23, n23, d23⟩ ⟨none, 0, 0⟩ ⟨none, 0, 0⟩ ⟨none, 0, 0⟩ ⟨B33, n33, d33⟩ ⟨none, 0, 0⟩) rfl (fun W => HW strF 1 16 (fun _ => True) W ⟨B33, n33, d33⟩ (firstP (lx.map LxH.mon)) ∧ ApS (SB wb g11) ⟨B33, n33, d33⟩) hs (Stb.hw _ _ _ _))
              have c := show w33.cell? ⟨g11, 14, none⟩ = some (.slice none 0 0) from HD3.out.b.cell 14
              have f := HD3.out.b.frozen 14
              clear hs hE
              go_wp2_with (first
                | (go_at_call 23; refine Hid.out ?_))
              refine Hid.mk_ ((stE4 HT3.out.s _).mono ?_)
              rintro e w41 ⟨⟨⟨B41, n41, d41⟩, rfl, hs⟩, hE⟩
              dsimp only at hs ⊢
              have HA4 := Lib.hid (HT3.out.ext_ hE)
              have HH4 := Lib.hid hs
              clear hs hE c f
              go_wp2_with (first
                | (go_at_call 22; refine Hid.out ?_))
              refine Hid.mk_ ((stF4 HA4.out.s (hh := ⟨B41, n41, d41⟩) HH4.out).mono ?_)
              rintro e w43 ⟨⟨⟨B43, n43, d43⟩, rfl, hs⟩, hE⟩
              dsimp only at hs ⊢
              have HD4 := Lib.hid (HA4.out.ext_ hE)
              have HT4 := Lib.hid (HD4.out.set_ 15 (.slice B43 n43 d43) (efZ zt df sp ⟨B13, n13, d13⟩ ⟨B23, n23, d23⟩ ⟨none, 0, 0⟩ ⟨none, 0, 0⟩ ⟨none, 0, 0⟩ ⟨B33, n33, d33⟩ ⟨B43, n43, d43⟩) rfl (fun W => HW strF 1 16 (fun _ => True) W ⟨B43, n43, d43⟩ (firstP (lx.map LxH.day)) ∧ ApS (SB wb g11) ⟨B43, n43, d43⟩) hs (Stb.hw _ _ _ _))
              have c := show w43.cell? ⟨g11, 15, none⟩ = some (.slice none 0 0) from HD4.out.b.cell 15
              have f := HD4.out.b.frozen 15
              clear hs hE
              go_wp2_with (first
                | (go_at_call 27; refine Hid.out ?_))
              refine Hid.mk_ ((stE5 HT4.out.s _).mono ?_)
              rintro e w51 ⟨⟨⟨B51, n51, d51⟩, rfl, hs⟩, hE⟩
              dsimp only at hs ⊢
              have HA5 := Lib.hid (HT4.out.ext_ hE)
              have HH5 := Lib.hid hs
              clear hs hE c f
              go_wp2_with (first
                | (go_at_call 26; refine Hid.out ?_))
              refine Hid.mk_ ((stM5 HA5.out.s (hh := ⟨B51, n51, d51⟩) HH5.out).mono ?_)
              rintro e w53 ⟨⟨⟨B53, n53, d53⟩, R5, rfl, hs, hsp⟩, hE⟩
              dsimp only at hs ⊢
              have HD5 := Lib.hid (HA5.out.ext_ hE)
              have HP5 := Lib.hid hsp
              have HT5 := Lib.hid (HD5.out.set_ 11 (.slice B53 n53 d53) (efZ zt df sp ⟨B13, n13, d13⟩ ⟨B23, n23, d23⟩ ⟨B53, n53, d53⟩ ⟨none, 0, 0⟩ ⟨none, 0, 0⟩ ⟨B33, n33, d33⟩ ⟨B43, n43, d43⟩) rfl (fun W => HW lpC 5 80 GdL W ⟨B53, n53, d53⟩ R5 ∧ ApS (SB wb g11) ⟨B53, n53, d53⟩) hs (Stb.hw _ _ _ _))
              have c := show w53.cell? ⟨g11, 11, none⟩ = some (.slice none 0 0) from HD5.out.b.cell 11
              have f := HD5.out.b.frozen 11
              clear hs hE hsp
              go_wp2_with (first
                | (go_at_call 32; refine Hid.out ?_))
              refine Hid.mk_ ((stE7 HT5.out.s _).mono ?_)
              rintro e w61 ⟨⟨⟨B61, n61, d61⟩, rfl, hs⟩, hE⟩
              dsimp only at hs ⊢
              have HA6 := Lib.hid (HT5.out.ext_ hE)
              have HH6 := Lib.hid hs
              clear hs hE c f
              go_wp2_with (first
                | (go_at_call 31; refine Hid.out ?_))
              refine Hid.mk_ ((stM7 HA6.out.s (hh := ⟨B61, n61, d61⟩) HH6.out).mono ?_)
              rintro e w63 ⟨⟨⟨B63, n63, d63⟩, R6, rfl, hs, hsp⟩, hE⟩
              dsimp only at hs ⊢
              have HD6 := Lib.hid (HA6.out.ext_ hE)
              have HP6 := Lib.hid hsp
              have HT6 := Lib.hid (HD6.out.set_ 12 (.slice B63 n63 d63) (efZ zt df sp ⟨B13, n13, d13⟩ ⟨B23, n23, d23⟩ ⟨B53, n53, d53⟩ ⟨B63, n63, d63⟩ ⟨none, 0, 0⟩ ⟨B33, n33, d33⟩ ⟨B43, n43, d43⟩) rfl (fun W => HW upC 3 48 GdU W ⟨B63, n63, d63⟩ R6 ∧ ApS (SB wb g11) ⟨B63, n63, d63⟩) hs (Stb.hw _ _ _ _))
              have c := show w63.cell? ⟨g11, 12, none⟩ = some (.slice none 0 0) from HD6.out.b.cell 12
              have f := HD6.out.b.frozen 12
              clear hs hE hsp
              go_wp2_with (first
                | (go_at_call 38; refine Hid.out ?_))
              refine Hid.mk_ ((stE10 HT6.out.s _).mono ?_)
              rintro e w71 ⟨⟨⟨B71, n71, d71⟩, rfl, hs⟩, hE⟩
              dsimp only at hs ⊢
              have HA7 := Lib.hid (HT6.out.ext_ hE)
              have HH7 := Lib.hid hs
              clear hs hE c f
              go_wp2_with (first
                | (go_at_call 37; refine Hid.out ?_))
              refine Hid.mk_ ((stM10 HA7.out.s (hh := ⟨B71, n71, d71⟩) HH7.out).mono ?_)
              rintro e w73 ⟨⟨⟨B73, n73, d73⟩, R7, rfl, hs, hsp⟩, hE⟩
              dsimp only at hs ⊢
              have HD7 := Lib.hid (HA7.out.ext_ hE)
              have HP7 := Lib.hid hsp
              have HT7 := Lib.hid (HD7.out.set_ 13 (.slice B73 n73 d73) (efZ zt df sp ⟨B13, n13, d13⟩ ⟨B23, n23, d23⟩ ⟨B53, n53, d53⟩ ⟨B63, n63, d63⟩ ⟨B73, n73, d73⟩ ⟨B33, n33, d33⟩ ⟨B43, n43, d43⟩) rfl (fun W => HW dpC 2 32 GdD W ⟨B73, n73, d73⟩ R7 ∧ ApS (SB wb g11) ⟨B73, n73, d73⟩) hs (Stb.hw _ _ _ _))
              have c := show w73.cell? ⟨g11, 13, none⟩ = some (.slice none 0 0) from HD7.out.b.cell 13
              have f := HD7.out.b.frozen 13
              clear hs hE hsp
              go_upto_region 27 with fail
              obtain ⟨V, hV⟩ : ∃ V, V = w73.setCell ⟨g11, 13, none⟩ (.slice B73 n73 d73) := ⟨_, rfl⟩
              rw [← hV] at HT7 ⊢
              clear hV c f
              go_wp2_with (first
                | (refine wpList_loadLc rfl rfl rfl (efZ zt df sp ⟨B13, n13, d13⟩ ⟨B23, n23, d23⟩ ⟨B53, n53, d53⟩ ⟨B63, n63, d63⟩ ⟨B73, n73, d73⟩ ⟨B33, n33, d33⟩ ⟨B43, n43, d43⟩) (range_blk HT7.out.b) ?_)
                | (refine wpList_storeLc rfl rfl rfl (efZ zt df sp ⟨B13, n13, d13⟩ ⟨B23, n23, d23⟩ ⟨B53, n53, d53⟩ ⟨B63, n63, d63⟩ ⟨B73, n73, d73⟩ ⟨B33, n33, d33⟩ ⟨B43, n43, d43⟩) rfl HT7.out.b4 rfl ?_))
              refine bodyPost_ret (results_cell_row_tmpT rfl _ _ g4 38 _ (0, 0) _ rfl (setRow_heap' HT7.out.b4 _) Tryz.underlying38 rfl (by kernel_rfl)) rfl ?_
              have hgr := grown_setRow V g4 (lcC (efZ zt df sp ⟨B13, n13, d13⟩ ⟨B23, n23, d23⟩ ⟨B53, n53, d53⟩ ⟨B63, n63, d63⟩ ⟨B73, n73, d73⟩ ⟨B33, n33, d33⟩ ⟨B43, n43, d43⟩)).toArray
              have hp := HT7.out.st HT7.out.p ((KpS.grown hgr).mono (fun j _ e => by injection e with e; rw [← e]; exact ⟨Nat.le_trans HBX.out.size HT7.out.g4.1, Nat.le_of_lt HT7.out.g4.2⟩))
              obtain ⟨⟨⟨⟨⟨⟨⟨-, h1⟩, h2⟩, h3⟩, h4⟩, h5⟩, h6⟩, h7⟩ := hp
              refine ⟨⟨(efZ zt df sp ⟨B13, n13, d13⟩ ⟨B23, n23, d23⟩ ⟨B53, n53, d53⟩ ⟨B63, n63, d63⟩ ⟨B73, n73, d73⟩ ⟨B33, n33, d33⟩ ⟨B43, n43, d43⟩), rfl, ⟨⟨(efZ zt df sp ⟨B13, n13, d13⟩ ⟨B23, n23, d23⟩ ⟨B53, n53, d53⟩ ⟨B63, n63, d63⟩ ⟨B73, n73, d73⟩ ⟨B33, n33, d33⟩ ⟨B43, n43, d43⟩), L1, L2, R5, R6, R7, firstP (lx.map LxH.mon), firstP (lx.map LxH.day)⟩, rfl, (DLy.mk h1 h2 h5 h6 h7 h3 h4).less fun j e => ⟨e.1, Nat.le_trans (Nat.le_of_lt e.2) HT7.out.s.ge⟩, ?_⟩⟩, HT7.out.s.ext.grown hgr (fun j hj => by injection hj with hj; rw [← hj]; exact HT7.out.g4.1)⟩
              rw [← HLXE.out]
              exact ⟨HZ.out, rfl, HDF.out, HSPE.out, HP1.out, HP2.out, rfl, rfl, HP5.out, HP6.out, HP7.out⟩
end
end Go.Proofs.YtdgppdiickmofaaGreatDoor
