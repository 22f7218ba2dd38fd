/- The program's chains: locales in memory, find. -/
import Derived.Test.YtdgppdiickmofaaGreatDoorPQ24
namespace Go.Proofs.YtdgppdiickmofaaGreatDoor
open Go.RowKit
set_option maxRecDepth 100000
attribute [local go_sem] ext_refl_t ext_alloc_t ext_drew_t ext_drewN_t ext_alloc2_t ext_alloc3_t ext_alloc4_t ext_alloc5_t ext_alloc6_t ext_alloc7_t ext_alloc8_t ext_alloc1d_t ext_alloc2d_t ext_alloc3d_t ext_alloc4d_t
/-- A locale with its slices. -/
structure LcH where
  tag : List UInt8
  par : List UInt8
  dir : List UInt8
  card : SlH
  ord : SlH
  dec : List UInt8
  grp : List UInt8
  min : List UInt8
  pct : List UInt8
  p1 : Int
  p2 : Int
  lst : SlH
  unt : SlH
  dat : SlH
  mon : SlH
  day : SlH
def lcC (x : LcH) : List Value := [.string (str x.tag), .string (str x.par), .string (str x.dir), .slice x.card.A x.card.m x.card.c, .slice x.ord.A x.ord.m x.ord.c, .string (str x.dec), .string (str x.grp), .string (str x.min), .string (str x.pct), .int .i64 x.p1, .int .i64 x.p2, .slice x.lst.A x.lst.m x.lst.c, .slice x.unt.A x.unt.m x.unt.c, .slice x.dat.A x.dat.m x.dat.c, .slice x.mon.A x.mon.m x.mon.c, .slice x.day.A x.day.m x.day.c]
abbrev lcV (x : LcH) : Value := .agg #[.string (str x.tag), .string (str x.par), .string (str x.dir), .slice x.card.A x.card.m x.card.c, .slice x.ord.A x.ord.m x.ord.c, .string (str x.dec), .string (str x.grp), .string (str x.min), .string (str x.pct), .int .i64 x.p1, .int .i64 x.p2, .slice x.lst.A x.lst.m x.lst.c, .slice x.unt.A x.unt.m x.unt.c, .slice x.dat.A x.dat.m x.dat.c, .slice x.mon.A x.mon.m x.mon.c, .slice x.day.A x.day.m x.day.c]
theorem lcC_len (x : LcH) : (lcC x).length = 16 := rfl
def tabL (ls : List LcH) : TabL := ls.map fun x => (x.tag, x.par)
/-- Locales in memory. -/
abbrev LcsW (w : World) (h : SlH) (ls : List LcH) : Prop := HW lcC 16 296 (fun x => x.tag.length ≤ 120 ∧ x.par.length ≤ 120) w h ls
/-- A table with its slices. -/
structure TabH where
  ls : List LcH
  al : List AlP
  nr : List NrP
  hl : SlH
  ha : SlH
  hn : SlH
abbrev tbV (t : TabH) : Value := .agg #[.slice t.hl.A t.hl.m t.hl.c, .slice t.ha.A t.ha.m t.ha.c, .slice t.hn.A t.hn.m t.hn.c]
structure TabW (w : World) (t : TabH) : Prop where
  ls : LcsW w t.hl t.ls
  al : AlsW w t.ha t.al
  nr : NrW w t.hn t.nr
  l12 : t.ls.length ≤ 12
  a12 : t.al.length ≤ 12
  n30 : t.nr.length ≤ 30
theorem TabW.ext {w w' : World} {t : TabH} (h : TabW w t) (hE : Ext w w') : TabW w' t := ⟨h.ls.ext hE, h.al.ext hE, h.nr.ext hE, h.l12, h.a12, h.n30⟩
def findZ (l : TabL) (s : List UInt8) : Int := match findC l s with
  | some i => i
  | none => -1
theorem findC_yes {ls : List LcH} {s : List UInt8} {q : Nat} (hq : q < ls.length) (h : ls[q].tag = s) (hn : ∀ j (_ : j < q) (h : j < ls.length), ls[j].tag ≠ s) : findC (tabL ls) s = some q := by
  unfold findC tabL
  rw [List.findIdx?_eq_some_iff_getElem]
  refine ⟨by rw [List.length_map]; exact hq, by simpa using h, fun j hj => ?_⟩
  have := hn j hj (by omega)
  simpa using this
theorem findC_no {ls : List LcH} {s : List UInt8} (hn : ∀ j (h : j < ls.length), ls[j].tag ≠ s) : findC (tabL ls) s = none := by
  unfold findC tabL
  rw [List.findIdx?_eq_none_iff]
  intro x hx
  obtain ⟨y, hy, rfl⟩ := List.mem_map.1 hx
  obtain ⟨j, hj, rfl⟩ := List.getElem_of_mem hy
  simpa using hn j hj
section
variable {w : World}
set_option maxHeartbeats 1600000 in
theorem find1_any {gs : Nat} {s : List UInt8} (hs : w.cell? ⟨gs, 0, none⟩ = some (.string (str s))) (x : LcH) :
    Calls Tryz.prog 108 #[lcV x, .pointer (some ⟨gs, 0, none⟩)] w fun e w' => e = .returned (.bool (decide (x.tag = s))) ∧ Ext w w' := by
  have hlt := World.block_lt_of_cell? w _ hs
  have HB := Lib.hid (str_eqB x.tag s)
  obtain ⟨tag, par, dir, card, ord, dec, grp, min, pct, p1, p2, lst, unt, dat, mon, day⟩ := x
  unfold lcV
  dsimp only at *
  obtain ⟨y, hy⟩ : ∃ y, y = str tag := ⟨_, rfl⟩
  obtain ⟨z, hz⟩ : ∃ y, y = str s := ⟨_, rfl⟩
  rw [← hy, ← hz] at HB
  rw [← hz] at hs
  rw [← hy]
  obtain ⟨b, hb⟩ : ∃ b, b = decide (tag = s) := ⟨_, rfl⟩
  rw [← hb] at HB ⊢
  have e1 := HB.out
  clear hy hz hb HB
  have hE1 : Ext w (w.alloc (.cells (lcV ⟨tag, par, dir, card, ord, dec, grp, min, pct, p1, p2, lst, unt, dat, mon, day⟩ |> fun v => #[v]) 38)) := (Ext.refl w).alloc _
  clear hE1
  go_enter Tryz.func108, Tryz.ntmps108
  cases b with
  | true =>
    go_wp2
    go_ret
    exact ⟨rfl, (Ext.refl w).alloc _⟩
  | false =>
    go_wp2
    go_ret
    exact ⟨rfl, (Ext.refl w).alloc _⟩
set_option maxHeartbeats 3200000 in
theorem idxL_any {h : SlH} {ls : List LcH} (hs : LcsW w h ls) {gs : Nat} {s : List UInt8} (hb : w.cell? ⟨gs, 0, none⟩ = some (.string (str s))) :
    Calls Tryz.prog 107 #[.slice h.A h.m h.c, .func (.func 108) #[] #[.pointer (some ⟨gs, 0, none⟩)]] w fun e w' => e = .returned (.int .i64 (findZ (tabL ls) s)) ∧ Ext w w' := by
  obtain ⟨A, m, c⟩ := h
  dsimp only
  have HL : Hid (m = ls.length) := hs.sl.len
  have hle : m < 2 ^ 44 := by have := hs.bd; dsimp only at this; omega
  have HS := Lib.hid hs
  have HBC := Lib.hid hb
  clear hb hs
  go_enter Tryz.func107, Tryz.ntmps107
  go_wp2
  go_loopw [5, 8] (fun _ i wr => ∃ q : Nat, q ≤ m ∧ i = .int .i64 q ∧ Ext w wr ∧ Hid (∀ j (_ : j < q) (h : j < ls.length), ls[j].tag ≠ s)) (fun _ i _ => m - (intOf i).toNat)
  case atStart => exact ⟨0, Nat.zero_le _, rfl, Ext.refl _, fun j hj _ => absurd hj (by omega)⟩
  case round =>
    obtain ⟨q, hq, rfl, hE, HC⟩ := hrel
    by_cases hlt : q < m
    · obtain ⟨b, off, e0, hbl, hcs⟩ := (HS.out.sl.ext hE).at_ hlt (by omega)
      dsimp only at e0
      subst e0
      have hlt1 : q < ls.length := by rw [← HL.out]; exact hlt
      obtain ⟨y, hyq⟩ : ∃ y, y = ls[q] := ⟨_, rfl⟩
      have y0 := hcs q hlt1 0 (by omega)
      have y1 := hcs q hlt1 1 (by omega)
      have y2 := hcs q hlt1 2 (by omega)
      have y3 := hcs q hlt1 3 (by omega)
      have y4 := hcs q hlt1 4 (by omega)
      have y5 := hcs q hlt1 5 (by omega)
      have y6 := hcs q hlt1 6 (by omega)
      have y7 := hcs q hlt1 7 (by omega)
      have y8 := hcs q hlt1 8 (by omega)
      have y9 := hcs q hlt1 9 (by omega)
      have y10 := hcs q hlt1 10 (by omega)
      have y11 := hcs q hlt1 11 (by omega)
      have y12 := hcs q hlt1 12 (by omega)
      have y13 := hcs q hlt1 13 (by omega)
      have y14 := hcs q hlt1 14 (by omega)
      have y15 := hcs q hlt1 15 (by omega)
      simp only [← hyq, lcC, List.getElem_cons_zero, List.getElem_cons_succ, Nat.add_zero, ← Nat.add_assoc] at y0 y1 y2 y3 y4 y5 y6 y7 y8 y9 y10 y11 y12 y13 y14 y15
      have hi1 : (q : Int) < (m : Int) := by omega
      have HY := Lib.hid hyq
      clear hcs hyq
      go_wp2_with (first
        | (go_at_call 108; refine Hid.out ?_))
      refine Hid.mk_ ((find1_any (later hE HBC.out) y).mono ?_)
      rintro e w2 ⟨rfl, hE2⟩
      by_cases hp : y.tag = s
      · have HF : Hid (findZ (tabL ls) s = (q : Int)) := by
          show findZ _ _ = _
          unfold findZ
          rw [findC_yes hlt1 (by rw [← HY.out]; exact hp) HC.out]
        rw [decide_eq_true hp]
        clear hp
        go_wp2
        go_ret
        exact ⟨by rw [HF.out]; rfl, hE.trans hE2⟩
      · have HN : Hid (∀ j (_ : j < q + 1) (h : j < ls.length), ls[j].tag ≠ s) := fun j hj h => by
          rcases Nat.lt_or_ge j q with h2 | h2
          · exact HC.out j h2 h
          · obtain rfl : j = q := by omega
            rw [← HY.out]; exact hp
        rw [decide_eq_false hp]
        clear hp
        go_wp2
        go_roundw
        case rel => exact ⟨q + 1, by omega, by go_num, hE.trans hE2, HN⟩
        case measure => simp [intOf]; omega
    · have hi1 : ¬ (q : Int) < (m : Int) := by omega
      have HF : Hid (findZ (tabL ls) s = -1) := by
        show findZ _ _ = _
        unfold findZ
        rw [findC_no fun j hj => HC.out j (by have := HL.out; omega) hj]
      go_wp2
      go_ret
      exact ⟨by rw [HF.out]; rfl, hE⟩
set_option maxHeartbeats 1600000 in
theorem find_any {t : TabH} (ht : TabW w t) (s : List UInt8) :
    Calls Tryz.prog 79 #[tbV t, .string (str s)] w fun e w' => e = .returned (.int .i64 (findZ (tabL t.ls) s)) ∧ Ext w w' := by
  obtain ⟨ls, al, nr, ⟨A1, m1, c1⟩, ⟨A2, m2, c2⟩, ⟨A3, m3, c3⟩⟩ := t
  have HT := Lib.hid ht
  unfold tbV
  dsimp only at HT ⊢
  clear ht
  have hE1 : Ext w ((w.alloc (Obj.cells #[.slice A1 m1 c1, .slice A2 m2 c2, .slice A3 m3 c3] 26)).alloc (Obj.cells #[.string (str s)] 9)) := ((Ext.refl w).alloc _).alloc _
  have hb := Blk.new (w.alloc (Obj.cells #[.slice A1 m1 c1, .slice A2 m2 c2, .slice A3 m3 c3] 26)) 9 #[.string (str s)]
  rw [show (w.alloc (Obj.cells #[.slice A1 m1 c1, .slice A2 m2 c2, .slice A3 m3 c3] 26)).heap.size = w.heap.size + 1 by simp] at hb
  have HBB := Lib.hid hb
  have HE1 := Lib.hid hE1
  clear hb hE1
  go_enter Tryz.func79, Tryz.ntmps79
  go_wp2_with (first
    | (go_at_call 107; refine Hid.out ?_))
  refine Hid.mk_ ((idxL_any (h := ⟨A1, m1, c1⟩) (HT.out.ls.ext HE1.out) (s := s) (HBB.out.cell 0)).mono ?_)
  rintro e w2 ⟨rfl, hE2⟩
  go_wp2
  go_ret
  exact ⟨rfl, HE1.out.trans hE2⟩
end
end Go.Proofs.YtdgppdiickmofaaGreatDoor

/- The program's effective locales: rules, patterns in memory with all that they hold; clones. -/
namespace Go.Proofs.YtdgppdiickmofaaGreatDoor
open Go.RowKit
set_option maxRecDepth 100000
attribute [local go_sem] ext_refl_t ext_alloc_t ext_drew_t ext_drewN_t ext_alloc2_t ext_alloc3_t ext_alloc4_t ext_alloc5_t ext_alloc6_t ext_alloc7_t ext_alloc8_t ext_alloc1d_t ext_alloc2d_t ext_alloc3d_t ext_alloc4d_t
/-- A slice as an element. -/
def shC (x : SlH) : List Value := [.slice x.A x.m x.c]
theorem shC_len (x : SlH) : (shC x).length = 1 := rfl
theorem shC_cell : ∀ x : SlH, ∀ u ∈ shC x, u.oneCell' = true := by
  intro x u hu
  simp only [shC, List.mem_cons, List.not_mem_nil, or_false] at hu
  subst hu
  rfl
def spC (x : Int × Int) : List Value := [.int .i64 x.1, .int .i64 x.2]
/-- A relation, with what its spans are. -/
structure RlH where
  op : Int
  md : Int
  neg : Bool
  sp : SlH
  l : List (Int × Int)
def rlC (x : RlH) : List Value := [.int .i64 x.op, .int .i64 x.md, .bool x.neg, .slice x.sp.A x.sp.m x.sp.c]
/-- A row of relations. -/
structure RwH where
  h : SlH
  l : List RlH
def rwC (x : RwH) : List Value := [.slice x.h.A x.h.m x.h.c]
/-- A rule with its condition. -/
structure RxH where
  cls : List UInt8
  h : SlH
  l : List RwH
def rxC (x : RxH) : List Value := [.string (str x.cls), .slice x.h.A x.h.m x.h.c]
theorem spC_len (x : Int × Int) : (spC x).length = 2 := rfl
theorem rlC_len (x : RlH) : (rlC x).length = 4 := rfl
theorem rwC_len (x : RwH) : (rwC x).length = 1 := rfl
theorem rxC_len (x : RxH) : (rxC x).length = 2 := rfl
theorem spC_cell : ∀ x : Int × Int, ∀ u ∈ spC x, u.oneCell' = true := by
  intro x u hu
  simp only [spC, List.mem_cons, List.not_mem_nil, or_false] at hu
  rcases hu with rfl | rfl <;> rfl
theorem rlC_cell : ∀ x : RlH, ∀ u ∈ rlC x, u.oneCell' = true := by
  intro x u hu
  simp only [rlC, List.mem_cons, List.not_mem_nil, or_false] at hu
  rcases hu with rfl | rfl | rfl | rfl <;> rfl
theorem rwC_cell : ∀ x : RwH, ∀ u ∈ rwC x, u.oneCell' = true := by
  intro x u hu
  simp only [rwC, List.mem_cons, List.not_mem_nil, or_false] at hu
  subst hu
  rfl
theorem rxC_cell : ∀ x : RxH, ∀ u ∈ rxC x, u.oneCell' = true := by
  intro x u hu
  simp only [rxC, List.mem_cons, List.not_mem_nil, or_false] at hu
  rcases hu with rfl | rfl <;> rfl
theorem einfo_sp : EInfo 118 123 2 16 := EInfo.mk_ (z := .agg #[.int .i64 0, .int .i64 0]) Tryz.underlying118 (by kernel_rfl) rfl (by omega) (by omega)
theorem einfo_rl : EInfo 116 120 4 48 := EInfo.mk_ (z := .agg #[.int .i64 0, .int .i64 0, .bool false, .slice none 0 0]) Tryz.underlying116 (by kernel_rfl) rfl (by omega) (by omega)
theorem einfo_rw : EInfo 59 116 1 24 := EInfo.mk_ (z := .slice none 0 0) Tryz.underlying59 (by kernel_rfl) rfl (by omega) (by omega)
theorem einfo_rx : EInfo 31 61 2 40 := EInfo.mk_ (z := .agg #[.string ⟨#[]⟩, .slice none 0 0]) Tryz.underlying31 (by kernel_rfl) rfl (by omega) (by omega)
theorem eql_nil_sp (w : World) (A : Option Addr) (n c n' c' : Nat) : (binOp .eql 118 (.slice A n c) (.slice none n' c')).run Tryz.prog w = .ok (.bool A.isNone) w :=
  Lib.run_eql_slice_nil w _ 123 A n c n' c' Tryz.underlying118
theorem eql_nil_rl (w : World) (A : Option Addr) (n c n' c' : Nat) : (binOp .eql 116 (.slice A n c) (.slice none n' c')).run Tryz.prog w = .ok (.bool A.isNone) w :=
  Lib.run_eql_slice_nil w _ 120 A n c n' c' Tryz.underlying116
theorem eql_nil_rw (w : World) (A : Option Addr) (n c n' c' : Nat) : (binOp .eql 59 (.slice A n c) (.slice none n' c')).run Tryz.prog w = .ok (.bool A.isNone) w :=
  Lib.run_eql_slice_nil w _ 116 A n c n' c' Tryz.underlying59
theorem eql_nil_rx (w : World) (A : Option Addr) (n c n' c' : Nat) : (binOp .eql 31 (.slice A n c) (.slice none n' c')).run Tryz.prog w = .ok (.bool A.isNone) w :=
  Lib.run_eql_slice_nil w _ 61 A n c n' c' Tryz.underlying31
attribute [local go_sem] eql_nil_sp eql_nil_rl eql_nil_rw eql_nil_rx
def plRl (x : RlH) : Int × Int × Bool × List (Int × Int) := (x.op, x.md, x.neg, x.l)
def plRw (x : RwH) : List (Int × Int × Bool × List (Int × Int)) := x.l.map plRl
abbrev RuleP := List UInt8 × List (List (Int × Int × Bool × List (Int × Int)))
def plRx (x : RxH) : RuleP := (x.cls, x.l.map plRw)
/-- What lies in memory with all that it holds, and none of it in S. -/
def DRl (w : World) (S : Nat → Prop) (x : RlH) : Prop := HW spC 2 16 (fun _ => True) w x.sp x.l ∧ ApS S x.sp
def DRw (w : World) (S : Nat → Prop) (x : RwH) : Prop := HW rlC 4 48 (fun _ => True) w x.h x.l ∧ ApS S x.h ∧ ∀ y ∈ x.l, DRl w S y
def DRx (w : World) (S : Nat → Prop) (x : RxH) : Prop := HW rwC 1 24 (fun _ => True) w x.h x.l ∧ ApS S x.h ∧ ∀ y ∈ x.l, DRw w S y
def DRs (w : World) (S : Nat → Prop) (h : SlH) (l : List RxH) : Prop := HW rxC 2 40 (fun _ => True) w h l ∧ ApS S h ∧ ∀ y ∈ l, DRx w S y
section
variable {w w' : World} {S S' : Nat → Prop}
theorem DRl.kp {x : RlH} (h : DRl w S x) (hk : KpS S w w') : DRl w' S x := ⟨HW.kp hk h.1 h.2, h.2⟩
theorem DRw.kp {x : RwH} (h : DRw w S x) (hk : KpS S w w') : DRw w' S x := ⟨HW.kp hk h.1 h.2.1, h.2.1, fun y hy => (h.2.2 y hy).kp hk⟩
theorem DRx.kp {x : RxH} (h : DRx w S x) (hk : KpS S w w') : DRx w' S x := ⟨HW.kp hk h.1 h.2.1, h.2.1, fun y hy => (h.2.2 y hy).kp hk⟩
theorem DRs.kp {a : SlH} {l : List RxH} (h : DRs w S a l) (hk : KpS S w w') : DRs w' S a l := ⟨HW.kp hk h.1 h.2.1, h.2.1, fun y hy => (h.2.2 y hy).kp hk⟩
theorem DRl.ext {x : RlH} (h : DRl w S x) (hE : Ext w w') : DRl w' S x := h.kp (KpS.of_ext S hE)
theorem DRw.ext {x : RwH} (h : DRw w S x) (hE : Ext w w') : DRw w' S x := h.kp (KpS.of_ext S hE)
theorem DRx.ext {x : RxH} (h : DRx w S x) (hE : Ext w w') : DRx w' S x := h.kp (KpS.of_ext S hE)
theorem DRs.ext {a : SlH} {l : List RxH} (h : DRs w S a l) (hE : Ext w w') : DRs w' S a l := h.kp (KpS.of_ext S hE)
/-- More is forbidden, beyond the world. -/
theorem DRl.more {x : RlH} (h : DRl w S x) (hS : ∀ g, S' g → S g ∨ w.heap.size ≤ g) : DRl w S' x := ⟨h.1, ApS.lt h.1 h.2 hS⟩
theorem DRw.more {x : RwH} (h : DRw w S x) (hS : ∀ g, S' g → S g ∨ w.heap.size ≤ g) : DRw w S' x := ⟨h.1, ApS.lt h.1 h.2.1 hS, fun y hy => (h.2.2 y hy).more hS⟩
theorem DRx.more {x : RxH} (h : DRx w S x) (hS : ∀ g, S' g → S g ∨ w.heap.size ≤ g) : DRx w S' x := ⟨h.1, ApS.lt h.1 h.2.1 hS, fun y hy => (h.2.2 y hy).more hS⟩
theorem DRs.more {a : SlH} {l : List RxH} (h : DRs w S a l) (hS : ∀ g, S' g → S g ∨ w.heap.size ≤ g) : DRs w S' a l := ⟨h.1, ApS.lt h.1 h.2.1 hS, fun y hy => (h.2.2 y hy).more hS⟩
set_option maxHeartbeats 400000 in
theorem spclone_any {A : Option Addr} {m c : Nat} {l : List _} (h0 : SlC spC 2 w A m l) (hbd : m * 16 ≤ 140737488351232) :
    Calls Tryz.prog 55 #[.slice A m c] w fun e w' => ∃ h' : SlH, e = .returned (.slice h'.A h'.m h'.c) ∧ OsC spC 123 2 w' w.heap.size h'.A h'.m h'.c l ∧ Ext w w' := by
  go_enter Tryz.func55, Tryz.ntmps55
  rcases A with _ | ad
  · have hl : l = [] := by
      rcases Nat.eq_zero_or_pos m with hm | hm
      · exact List.eq_nil_of_length_eq_zero (by rw [← h0.len, hm])
      · obtain ⟨ad, h, _⟩ := h0.rd.2 hm
        cases h
    subst hl
    go_wp2
    go_ret
    exact ⟨⟨none, 0, 0⟩, rfl, OsC.nil_ spC_len spC_cell, Ext.refl _⟩
  · have hm8 : m ≤ 17592186044416 := by have := Nat.mul_le_mul_left m (show 8 ≤ 16 by omega); omega
    have hb0 : (0 + m) * 16 ≤ 140737488355328 := by rw [Nat.zero_add]; omega
    go_wp2_with (first
      | (at_builtin; refine appC einfo_sp rfl _ _ rfl (OsC.new0 w w.heap.size (Nat.le_refl _) spC_len spC_cell) rfl (h0.ext ((Ext.refl w).alloc _)) rfl hb0 (by simp) ?_; intro A' m' c' w1 ho hg hat))
    go_ret
    exact ⟨⟨A', m', c'⟩, rfl, ho, ((Ext.refl w).alloc _).grown hg (by simp [ob])⟩
set_option maxHeartbeats 400000 in
theorem rlclone_any {A : Option Addr} {m c : Nat} {l : List _} (h0 : SlC rlC 4 w A m l) (hbd : m * 48 ≤ 140737488351232) :
    Calls Tryz.prog 54 #[.slice A m c] w fun e w' => ∃ h' : SlH, e = .returned (.slice h'.A h'.m h'.c) ∧ OsC rlC 120 4 w' w.heap.size h'.A h'.m h'.c l ∧ Ext w w' := by
  go_enter Tryz.func54, Tryz.ntmps54
  rcases A with _ | ad
  · have hl : l = [] := by
      rcases Nat.eq_zero_or_pos m with hm | hm
      · exact List.eq_nil_of_length_eq_zero (by rw [← h0.len, hm])
      · obtain ⟨ad, h, _⟩ := h0.rd.2 hm
        cases h
    subst hl
    go_wp2
    go_ret
    exact ⟨⟨none, 0, 0⟩, rfl, OsC.nil_ rlC_len rlC_cell, Ext.refl _⟩
  · have hm8 : m ≤ 17592186044416 := by have := Nat.mul_le_mul_left m (show 8 ≤ 48 by omega); omega
    have hb0 : (0 + m) * 48 ≤ 140737488355328 := by rw [Nat.zero_add]; omega
    go_wp2_with (first
      | (at_builtin; refine appC einfo_rl rfl _ _ rfl (OsC.new0 w w.heap.size (Nat.le_refl _) rlC_len rlC_cell) rfl (h0.ext ((Ext.refl w).alloc _)) rfl hb0 (by simp) ?_; intro A' m' c' w1 ho hg hat))
    go_ret
    exact ⟨⟨A', m', c'⟩, rfl, ho, ((Ext.refl w).alloc _).grown hg (by simp [ob])⟩
set_option maxHeartbeats 400000 in
theorem rwclone_any {A : Option Addr} {m c : Nat} {l : List _} (h0 : SlC rwC 1 w A m l) (hbd : m * 24 ≤ 140737488351232) :
    Calls Tryz.prog 53 #[.slice A m c] w fun e w' => ∃ h' : SlH, e = .returned (.slice h'.A h'.m h'.c) ∧ OsC rwC 116 1 w' w.heap.size h'.A h'.m h'.c l ∧ Ext w w' := by
  go_enter Tryz.func53, Tryz.ntmps53
  rcases A with _ | ad
  · have hl : l = [] := by
      rcases Nat.eq_zero_or_pos m with hm | hm
      · exact List.eq_nil_of_length_eq_zero (by rw [← h0.len, hm])
      · obtain ⟨ad, h, _⟩ := h0.rd.2 hm
        cases h
    subst hl
    go_wp2
    go_ret
    exact ⟨⟨none, 0, 0⟩, rfl, OsC.nil_ rwC_len rwC_cell, Ext.refl _⟩
  · have hm8 : m ≤ 17592186044416 := by have := Nat.mul_le_mul_left m (show 8 ≤ 24 by omega); omega
    have hb0 : (0 + m) * 24 ≤ 140737488355328 := by rw [Nat.zero_add]; omega
    go_wp2_with (first
      | (at_builtin; refine appC einfo_rw rfl _ _ rfl (OsC.new0 w w.heap.size (Nat.le_refl _) rwC_len rwC_cell) rfl (h0.ext ((Ext.refl w).alloc _)) rfl hb0 (by simp) ?_; intro A' m' c' w1 ho hg hat))
    go_ret
    exact ⟨⟨A', m', c'⟩, rfl, ho, ((Ext.refl w).alloc _).grown hg (by simp [ob])⟩
set_option maxHeartbeats 400000 in
theorem rxclone_any {A : Option Addr} {m c : Nat} {l : List _} (h0 : SlC rxC 2 w A m l) (hbd : m * 40 ≤ 140737488351232) :
    Calls Tryz.prog 52 #[.slice A m c] w fun e w' => ∃ h' : SlH, e = .returned (.slice h'.A h'.m h'.c) ∧ OsC rxC 61 2 w' w.heap.size h'.A h'.m h'.c l ∧ Ext w w' := by
  go_enter Tryz.func52, Tryz.ntmps52
  rcases A with _ | ad
  · have hl : l = [] := by
      rcases Nat.eq_zero_or_pos m with hm | hm
      · exact List.eq_nil_of_length_eq_zero (by rw [← h0.len, hm])
      · obtain ⟨ad, h, _⟩ := h0.rd.2 hm
        cases h
    subst hl
    go_wp2
    go_ret
    exact ⟨⟨none, 0, 0⟩, rfl, OsC.nil_ rxC_len rxC_cell, Ext.refl _⟩
  · have hm8 : m ≤ 17592186044416 := by have := Nat.mul_le_mul_left m (show 8 ≤ 40 by omega); omega
    have hb0 : (0 + m) * 40 ≤ 140737488355328 := by rw [Nat.zero_add]; omega
    go_wp2_with (first
      | (at_builtin; refine appC einfo_rx rfl _ _ rfl (OsC.new0 w w.heap.size (Nat.le_refl _) rxC_len rxC_cell) rfl (h0.ext ((Ext.refl w).alloc _)) rfl hb0 (by simp) ?_; intro A' m' c' w1 ho hg hat))
    go_ret
    exact ⟨⟨A', m', c'⟩, rfl, ho, ((Ext.refl w).alloc _).grown hg (by simp [ob])⟩
end
end Go.Proofs.YtdgppdiickmofaaGreatDoor

/- The program's effective locales: each. -/
namespace Go.Proofs.YtdgppdiickmofaaGreatDoor
open Go.RowKit
set_option maxRecDepth 100000
attribute [local go_sem] ext_refl_t ext_alloc_t ext_drew_t ext_drewN_t ext_alloc2_t ext_alloc3_t ext_alloc4_t ext_alloc5_t ext_alloc6_t ext_alloc7_t ext_alloc8_t ext_alloc1d_t ext_alloc2d_t ext_alloc3d_t ext_alloc4d_t
attribute [local go_sem] yielded_undef
section
variable {w : World}
set_option maxHeartbeats 400000 in
theorem clo1_any (y : LcH) : Calls Tryz.prog 20 #[lcV y] w fun e w' => e = .returned (.slice y.card.A y.card.m y.card.c) ∧ Ext w w' := by
  have hE1 : Ext w (w.alloc (.cells #[.string (str y.tag), .string (str y.par), .string (str y.dir), .slice y.card.A y.card.m y.card.c, .slice y.ord.A y.ord.m y.ord.c, .string (str y.dec), .string (str y.grp), .string (str y.min), .string (str y.pct), .int .i64 y.p1, .int .i64 y.p2, .slice y.lst.A y.lst.m y.lst.c, .slice y.unt.A y.unt.m y.unt.c, .slice y.dat.A y.dat.m y.dat.c, .slice y.mon.A y.mon.m y.mon.c, .slice y.day.A y.day.m y.day.c] 38)) := (Ext.refl w).alloc _
  unfold lcV
  go_enter Tryz.func20, Tryz.ntmps20
  go_wp2
  go_ret
  exact ⟨rfl, hE1⟩
set_option maxHeartbeats 400000 in
theorem clo2_any (y : LcH) : Calls Tryz.prog 21 #[lcV y] w fun e w' => e = .returned (.slice y.ord.A y.ord.m y.ord.c) ∧ Ext w w' := by
  have hE1 : Ext w (w.alloc (.cells #[.string (str y.tag), .string (str y.par), .string (str y.dir), .slice y.card.A y.card.m y.card.c, .slice y.ord.A y.ord.m y.ord.c, .string (str y.dec), .string (str y.grp), .string (str y.min), .string (str y.pct), .int .i64 y.p1, .int .i64 y.p2, .slice y.lst.A y.lst.m y.lst.c, .slice y.unt.A y.unt.m y.unt.c, .slice y.dat.A y.dat.m y.dat.c, .slice y.mon.A y.mon.m y.mon.c, .slice y.day.A y.day.m y.day.c] 38)) := (Ext.refl w).alloc _
  unfold lcV
  go_enter Tryz.func21, Tryz.ntmps21
  go_wp2
  go_ret
  exact ⟨rfl, hE1⟩
set_option maxHeartbeats 400000 in
theorem clo3_any (y : LcH) : Calls Tryz.prog 24 #[lcV y] w fun e w' => e = .returned (.slice y.mon.A y.mon.m y.mon.c) ∧ Ext w w' := by
  have hE1 : Ext w (w.alloc (.cells #[.string (str y.tag), .string (str y.par), .string (str y.dir), .slice y.card.A y.card.m y.card.c, .slice y.ord.A y.ord.m y.ord.c, .string (str y.dec), .string (str y.grp), .string (str y.min), .string (str y.pct), .int .i64 y.p1, .int .i64 y.p2, .slice y.lst.A y.lst.m y.lst.c, .slice y.unt.A y.unt.m y.unt.c, .slice y.dat.A y.dat.m y.dat.c, .slice y.mon.A y.mon.m y.mon.c, .slice y.day.A y.day.m y.day.c] 38)) := (Ext.refl w).alloc _
  unfold lcV
  go_enter Tryz.func24, Tryz.ntmps24
  go_wp2
  go_ret
  exact ⟨rfl, hE1⟩
set_option maxHeartbeats 400000 in
theorem clo4_any (y : LcH) : Calls Tryz.prog 25 #[lcV y] w fun e w' => e = .returned (.slice y.day.A y.day.m y.day.c) ∧ Ext w w' := by
  have hE1 : Ext w (w.alloc (.cells #[.string (str y.tag), .string (str y.par), .string (str y.dir), .slice y.card.A y.card.m y.card.c, .slice y.ord.A y.ord.m y.ord.c, .string (str y.dec), .string (str y.grp), .string (str y.min), .string (str y.pct), .int .i64 y.p1, .int .i64 y.p2, .slice y.lst.A y.lst.m y.lst.c, .slice y.unt.A y.unt.m y.unt.c, .slice y.dat.A y.dat.m y.dat.c, .slice y.mon.A y.mon.m y.mon.c, .slice y.day.A y.day.m y.day.c] 38)) := (Ext.refl w).alloc _
  unfold lcV
  go_enter Tryz.func25, Tryz.ntmps25
  go_wp2
  go_ret
  exact ⟨rfl, hE1⟩
set_option maxHeartbeats 400000 in
theorem clo5_any (y : LcH) : Calls Tryz.prog 28 #[lcV y] w fun e w' => e = .returned (.slice y.lst.A y.lst.m y.lst.c) ∧ Ext w w' := by
  have hE1 : Ext w (w.alloc (.cells #[.string (str y.tag), .string (str y.par), .string (str y.dir), .slice y.card.A y.card.m y.card.c, .slice y.ord.A y.ord.m y.ord.c, .string (str y.dec), .string (str y.grp), .string (str y.min), .string (str y.pct), .int .i64 y.p1, .int .i64 y.p2, .slice y.lst.A y.lst.m y.lst.c, .slice y.unt.A y.unt.m y.unt.c, .slice y.dat.A y.dat.m y.dat.c, .slice y.mon.A y.mon.m y.mon.c, .slice y.day.A y.day.m y.day.c] 38)) := (Ext.refl w).alloc _
  unfold lcV
  go_enter Tryz.func28, Tryz.ntmps28
  go_wp2
  go_ret
  exact ⟨rfl, hE1⟩
set_option maxHeartbeats 400000 in
theorem clo7_any (y : LcH) : Calls Tryz.prog 33 #[lcV y] w fun e w' => e = .returned (.slice y.unt.A y.unt.m y.unt.c) ∧ Ext w w' := by
  have hE1 : Ext w (w.alloc (.cells #[.string (str y.tag), .string (str y.par), .string (str y.dir), .slice y.card.A y.card.m y.card.c, .slice y.ord.A y.ord.m y.ord.c, .string (str y.dec), .string (str y.grp), .string (str y.min), .string (str y.pct), .int .i64 y.p1, .int .i64 y.p2, .slice y.lst.A y.lst.m y.lst.c, .slice y.unt.A y.unt.m y.unt.c, .slice y.dat.A y.dat.m y.dat.c, .slice y.mon.A y.mon.m y.mon.c, .slice y.day.A y.day.m y.day.c] 38)) := (Ext.refl w).alloc _
  unfold lcV
  go_enter Tryz.func33, Tryz.ntmps33
  go_wp2
  go_ret
  exact ⟨rfl, hE1⟩
set_option maxHeartbeats 400000 in
theorem clo10_any (y : LcH) : Calls Tryz.prog 39 #[lcV y] w fun e w' => e = .returned (.slice y.dat.A y.dat.m y.dat.c) ∧ Ext w w' := by
  have hE1 : Ext w (w.alloc (.cells #[.string (str y.tag), .string (str y.par), .string (str y.dir), .slice y.card.A y.card.m y.card.c, .slice y.ord.A y.ord.m y.ord.c, .string (str y.dec), .string (str y.grp), .string (str y.min), .string (str y.pct), .int .i64 y.p1, .int .i64 y.p2, .slice y.lst.A y.lst.m y.lst.c, .slice y.unt.A y.unt.m y.unt.c, .slice y.dat.A y.dat.m y.dat.c, .slice y.mon.A y.mon.m y.mon.c, .slice y.day.A y.day.m y.day.c] 38)) := (Ext.refl w).alloc _
  unfold lcV
  go_enter Tryz.func39, Tryz.ntmps39
  go_wp2
  go_ret
  exact ⟨rfl, hE1⟩
theorem einfo_rlst : EInfo 62 31 1 24 := EInfo.mk_ (z := .slice none 0 0) Tryz.underlying62 (by kernel_rfl) rfl (by omega) (by omega)
theorem einfo_slst : EInfo 66 27 1 24 := EInfo.mk_ (z := .slice none 0 0) Tryz.underlying66 (by kernel_rfl) rfl (by omega) (by omega)
theorem einfo_llst : EInfo 72 34 1 24 := EInfo.mk_ (z := .slice none 0 0) Tryz.underlying72 (by kernel_rfl) rfl (by omega) (by omega)
theorem einfo_ulst : EInfo 81 35 1 24 := EInfo.mk_ (z := .slice none 0 0) Tryz.underlying81 (by kernel_rfl) rfl (by omega) (by omega)
theorem einfo_dlst : EInfo 90 36 1 24 := EInfo.mk_ (z := .slice none 0 0) Tryz.underlying90 (by kernel_rfl) rfl (by omega) (by omega)
end
end Go.Proofs.YtdgppdiickmofaaGreatDoor

/- The program's effective locales: first. -/
namespace Go.Proofs.YtdgppdiickmofaaGreatDoor
open Go.RowKit
set_option maxRecDepth 100000
attribute [local go_sem] ext_refl_t ext_alloc_t ext_drew_t ext_drewN_t ext_alloc2_t ext_alloc3_t ext_alloc4_t ext_alloc5_t ext_alloc6_t ext_alloc7_t ext_alloc8_t ext_alloc1d_t ext_alloc2d_t ext_alloc3d_t ext_alloc4d_t
def firstP {α : Type} : List (List α) → List α
  | [] => []
  | [] :: r => firstP r
  | (a :: l) :: _ => a :: l
theorem firstP_nil {α : Type} {r : List (List α)} : firstP ([] :: r) = firstP r := rfl
theorem firstP_cons {α : Type} {x : List α} {r : List (List α)} (h : x ≠ []) : firstP (x :: r) = x := by
  cases x with
  | nil => exact absurd rfl h
  | cons a l => rfl
section
variable {w : World}
set_option maxHeartbeats 3200000 in
theorem first1_any {A : Option Addr} {m c : Nat} {L : List (SlH × List _)} (hs : SlC shC 1 w A m (L.map Prod.fst)) (hl : L.length ≤ 12) (hc : ∀ x ∈ L, SlC rxC 2 w x.1.A x.1.m x.2 ∧ x.1.m * 40 ≤ 140737488351232) :
    Calls Tryz.prog 18 #[.slice A m c] w fun e w' => (∃ h : SlH, e = .returned (.slice h.A h.m h.c) ∧ OsC rxC 61 2 w' w.heap.size h.A h.m h.c (firstP (L.map Prod.snd))) ∧ Ext w w' := by
  have HL : Hid (m = L.length) := by have := hs.len; rw [List.length_map] at this; exact this
  have hm12 : m ≤ 12 := by have := HL.out; omega
  have HS := Lib.hid hs
  have HC := Lib.hid hc
  clear hs hl hc
  go_enter Tryz.func18, Tryz.ntmps18
  go_wp2
  go_loopw [4, 7] (fun _ i wr => ∃ q : Nat, q ≤ m ∧ i = .int .i64 q ∧ wr = w ∧ Hid (firstP (L.map Prod.snd) = firstP ((L.drop q).map Prod.snd))) (fun _ i _ => m - (intOf i).toNat)
  case atStart => exact ⟨0, Nat.zero_le _, rfl, rfl, Lib.hid (by rw [List.drop_zero])⟩
  case round =>
    obtain ⟨q, hq, rfl, rfl, HF⟩ := hrel
    by_cases hlt : q < m
    · obtain ⟨b, off, rfl, hbl, hcs⟩ := HS.out.at_ hlt (by omega)
      have hil : q < L.length := by rw [← HL.out]; exact hlt
      have x0 := hcs q (by rw [List.length_map]; exact hil) 0 (by omega)
      obtain ⟨⟨⟨TA, tm, tc⟩, l⟩, hyq⟩ : ∃ y, y = L[q] := ⟨_, rfl⟩
      simp only [List.getElem_map, ← hyq, shC, List.getElem_cons_zero, Nat.add_zero, Nat.mul_one] at x0
      have hcc := HC.out _ (List.getElem_mem hil)
      rw [← hyq] at hcc
      dsimp only at hcc
      have HCC := Lib.hid hcc
      have HTL : Hid (tm = l.length) := hcc.1.len
      have htle : tm < 2 ^ 44 := by have := hcc.1.le; omega
      have HFD : Hid (firstP (L.map Prod.snd) = firstP (l :: (L.drop (q + 1)).map Prod.snd)) := by
        show _ = _
        rw [HF.out, List.drop_eq_getElem_cons hil, List.map_cons, ← hyq]
      have hi1 : (q : Int) < (m : Int) := by omega
      clear hcs hbl hyq hcc
      rcases Nat.eq_zero_or_pos tm with h0 | h0
      · subst h0
        have hl0 : l = [] := List.eq_nil_of_length_eq_zero HTL.out.symm
        have HFN : Hid (firstP (L.map Prod.snd) = firstP ((L.drop (q + 1)).map Prod.snd)) := by show _ = _; rw [HFD.out, hl0]; rfl
        clear hl0
        go_wp2
        go_roundw
        case rel => exact ⟨q + 1, by omega, by go_num, by first | rfl | trivial, HFN⟩
        case measure => simp [intOf]; omega
      · have hi2 : (tm : Int) > 0 := by omega
        have HFN : Hid (firstP (L.map Prod.snd) = l) := by show _ = _; rw [HFD.out]; exact firstP_cons (fun e => by have := HTL.out; rw [e] at this; simp at this; omega)
        go_wp2_with (first
          | (go_at_call 52; refine Hid.out ?_))
        refine Hid.mk_ ((rxclone_any HCC.out.1 HCC.out.2).mono ?_)
        rintro e w5 ⟨h', rfl, ho, hE⟩
        have HOO := Lib.hid ho
        clear ho
        go_wp2
        go_ret
        exact ⟨⟨h', rfl, by rw [HFN.out]; exact HOO.out⟩, hE⟩
    · have hi1 : ¬ (q : Int) < (m : Int) := by omega
      have HFN : Hid (firstP (L.map Prod.snd) = []) := by show _ = _; rw [HF.out, List.drop_eq_nil_of_le (by have := HL.out; omega)]; rfl
      go_wp2
      go_ret
      exact ⟨⟨⟨none, 0, 0⟩, rfl, by rw [HFN.out]; exact OsC.nil_ rxC_len rxC_cell⟩, Ext.refl _⟩
set_option maxHeartbeats 3200000 in
theorem first2_any {A : Option Addr} {m c : Nat} {L : List (SlH × List _)} (hs : SlC shC 1 w A m (L.map Prod.fst)) (hl : L.length ≤ 12) (hc : ∀ x ∈ L, SlC strF 1 w x.1.A x.1.m x.2 ∧ x.1.m * 16 ≤ 140737488351232) :
    Calls Tryz.prog 22 #[.slice A m c] w fun e w' => (∃ h : SlH, e = .returned (.slice h.A h.m h.c) ∧ OsC strF 9 1 w' w.heap.size h.A h.m h.c (firstP (L.map Prod.snd))) ∧ Ext w w' := by
  have HL : Hid (m = L.length) := by have := hs.len; rw [List.length_map] at this; exact this
  have hm12 : m ≤ 12 := by have := HL.out; omega
  have HS := Lib.hid hs
  have HC := Lib.hid hc
  clear hs hl hc
  go_enter Tryz.func22, Tryz.ntmps22
  go_wp2
  go_loopw [4, 7] (fun _ i wr => ∃ q : Nat, q ≤ m ∧ i = .int .i64 q ∧ wr = w ∧ Hid (firstP (L.map Prod.snd) = firstP ((L.drop q).map Prod.snd))) (fun _ i _ => m - (intOf i).toNat)
  case atStart => exact ⟨0, Nat.zero_le _, rfl, rfl, Lib.hid (by rw [List.drop_zero])⟩
  case round =>
    obtain ⟨q, hq, rfl, rfl, HF⟩ := hrel
    by_cases hlt : q < m
    · obtain ⟨b, off, rfl, hbl, hcs⟩ := HS.out.at_ hlt (by omega)
      have hil : q < L.length := by rw [← HL.out]; exact hlt
      have x0 := hcs q (by rw [List.length_map]; exact hil) 0 (by omega)
      obtain ⟨⟨⟨TA, tm, tc⟩, l⟩, hyq⟩ : ∃ y, y = L[q] := ⟨_, rfl⟩
      simp only [List.getElem_map, ← hyq, shC, List.getElem_cons_zero, Nat.add_zero, Nat.mul_one] at x0
      have hcc := HC.out _ (List.getElem_mem hil)
      rw [← hyq] at hcc
      dsimp only at hcc
      have HCC := Lib.hid hcc
      have HTL : Hid (tm = l.length) := hcc.1.len
      have htle : tm < 2 ^ 44 := by have := hcc.1.le; omega
      have HFD : Hid (firstP (L.map Prod.snd) = firstP (l :: (L.drop (q + 1)).map Prod.snd)) := by
        show _ = _
        rw [HF.out, List.drop_eq_getElem_cons hil, List.map_cons, ← hyq]
      have hi1 : (q : Int) < (m : Int) := by omega
      clear hcs hbl hyq hcc
      rcases Nat.eq_zero_or_pos tm with h0 | h0
      · subst h0
        have hl0 : l = [] := List.eq_nil_of_length_eq_zero HTL.out.symm
        have HFN : Hid (firstP (L.map Prod.snd) = firstP ((L.drop (q + 1)).map Prod.snd)) := by show _ = _; rw [HFD.out, hl0]; rfl
        clear hl0
        go_wp2
        go_roundw
        case rel => exact ⟨q + 1, by omega, by go_num, by first | rfl | trivial, HFN⟩
        case measure => simp [intOf]; omega
      · have hi2 : (tm : Int) > 0 := by omega
        have HFN : Hid (firstP (L.map Prod.snd) = l) := by show _ = _; rw [HFD.out]; exact firstP_cons (fun e => by have := HTL.out; rw [e] at this; simp at this; omega)
        go_wp2_with (first
          | (go_at_call 56; refine Hid.out ?_))
        refine Hid.mk_ ((tclone_any HCC.out.1 HCC.out.2).mono ?_)
        rintro e w5 ⟨h', rfl, ho, hE⟩
        have HOO := Lib.hid ho
        clear ho
        go_wp2
        go_ret
        exact ⟨⟨h', rfl, by rw [HFN.out]; exact HOO.out⟩, hE⟩
    · have hi1 : ¬ (q : Int) < (m : Int) := by omega
      have HFN : Hid (firstP (L.map Prod.snd) = []) := by show _ = _; rw [HF.out, List.drop_eq_nil_of_le (by have := HL.out; omega)]; rfl
      go_wp2
      go_ret
      exact ⟨⟨⟨none, 0, 0⟩, rfl, by rw [HFN.out]; exact OsC.nil_ strF_len strF_cell⟩, Ext.refl _⟩
end
end Go.Proofs.YtdgppdiickmofaaGreatDoor
