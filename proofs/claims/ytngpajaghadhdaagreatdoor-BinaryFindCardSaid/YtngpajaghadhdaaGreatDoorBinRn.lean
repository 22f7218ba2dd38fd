/- readEntry of the program. -/
import Derived.Test.YtngpajaghadhdaaGreatDoorBinRd
namespace Go.Proofs.YtngpajaghadhdaaGreatDoor
open Go.RowKit
set_option maxRecDepth 100000
attribute [local go_sem] ext_refl_t ext_alloc_t ext_drew_t ext_drewN_t ext_alloc2_t ext_alloc3_t ext_alloc4_t ext_alloc5_t ext_alloc6_t ext_alloc7_t ext_alloc8_t ext_alloc1d_t ext_alloc2d_t ext_alloc3d_t ext_alloc4d_t
theorem info_ent7 : (Tryz.prog.info? 37).map (·.size) = some 7 := by kernel_rfl
theorem OsS.cap {w : World} {base : Nat} {A : Option Addr} {m c : Nat} {l : List ByteArray} (h : OsS w base A m c l) : m ≤ c := by
  rcases h.own.2 with ⟨hv, h0⟩ | ⟨g, cap, cur, hv, _, _, hn, _⟩
  · injection hv with _ h1 h2
    omega
  · injection hv with _ h1 h2
    omega
theorem OsS.hw {w : World} {base : Nat} {A : Option Addr} {m c : Nat} {l : List ByteArray} (h : OsS w base A m c l) (hl : l.length ≤ 20) (hg : ∀ s ∈ l, GoodStr s) : StrsW w ⟨A, m, c⟩ l :=
  ⟨⟨by rw [flat_strF]; exact h.sl.rd, strF_len, h.len, by have h1 := h.len; show m ≤ _; omega⟩, h.cap, by have h1 := h.len; show m * 16 ≤ _; have h2 : m ≤ 20 := (by omega); omega, hg⟩
theorem OsC.fds {w : World} {base : Nat} {A : Option Addr} {m c : Nat} {l : List Fd} (h : OsC fdC 85 2 w base A m c l) (hl : l.length ≤ 20) (hg : ∀ s ∈ l, GoodFd s) : FdsW w ⟨A, m, c⟩ l :=
  ⟨h.sl, h.cap, by have h1 := h.len; show m * 32 ≤ _; have h2 : m ≤ 20 := (by omega); omega, hg⟩
theorem apart_ge {h : SlH} {b j : Nat} (hg : ∀ k, ob h.A = some k → b ≤ k) (hj : j < b) : Apart (some j) h := by
  cases hA : ob h.A with
  | none => exact .inr (.inl hA)
  | some k => exact .inr (.inr (fun e => by rw [e] at hA; have := hg j e; omega))
theorem grown_set1 (w : World) (p : Addr) (u : Value) : w.grownBy (w.setCell p u) (some p.block) :=
  ⟨rfl, rfl, rfl, by simp [World.setCell], fun k _ hk => Below.heap_setCell w p u k (fun e => hk (by rw [e]))⟩
/-- The value that is being read, and the reader. -/
structure RdSt (TR T : TypeId) (w W : World) (g g3 : Nat) (cells : Array Value) (A : Option Addr) (m c : Nat) (bs : List UInt8) (p : Nat) (f : Bool) : Prop where
  blk : Blk W g3 T cells
  rd : RdrT TR W g A m c bs p f
  gr : w.grownBy W (some g)
  ge : w.heap.size ≤ g3
  lt : g < w.heap.size
  alt : ∀ k, obm m A = some k → k < w.heap.size
section
variable {TR T : TypeId} {w W W' : World} {g g3 : Nat} {cells : Array Value} {A : Option Addr} {m c : Nat} {bs : List UInt8} {p p' : Nat} {f f' : Bool}
theorem RdSt.call (h : RdSt TR T w W g g3 cells A m c bs p f) (hR : RdrT TR W' g A m c bs p' f') (hg : W.grownBy W' (some g)) : RdSt TR T w W' g g3 cells A m c bs p' f' :=
  ⟨h.blk.grown hg (fun e => by injection e with e; have := h.ge; have := h.lt; omega), hR, h.gr.trans hg, h.ge, h.lt, h.alt⟩
theorem RdSt.set_ (h : RdSt TR T w W g g3 cells A m c bs p f) (k : Nat) (v : Value) : RdSt TR T w (W.setCell ⟨g3, k, none⟩ v) g g3 (cells.setIfInBounds k v) A m c bs p f :=
  ⟨h.blk.set_ k v, h.rd.kept (grown_set1 W ⟨g3, k, none⟩ v) (fun e => by injection e with e; have := h.ge; have := h.lt; simp only at e; omega) (by
    cases hm : obm m A with
    | none => exact .inl rfl
    | some j => exact .inr (fun e => by injection e with e; have h1 := h.alt j hm; have h2 := h.ge; simp only at e; omega)), grown_step h.gr (grown_set1 W ⟨g3, k, none⟩ v) (fun j hj => .inl (by injection hj with hj; have h2 := h.ge; simp only at hj; omega)), h.ge, h.lt, h.alt⟩
/-- A slice that has been made since w. -/
structure NewH {α : Type} (cs : α → List Value) (k by_ : Nat) (good : α → Prop) (b : Nat) (W : World) (g3 : Nat) (h : SlH) (l : List α) : Prop where
  hw : HW cs k by_ good W h l
  ne : Apart (some g3) h
  ge : ∀ k, ob h.A = some k → b ≤ k
variable {α : Type} {cs : α → List Value} {k by_ : Nat} {good : α → Prop} {b : Nat} {h : SlH} {l : List α}
theorem NewH.call (hh : NewH cs k by_ good b W g3 h l) (hg : W.grownBy W' (some g)) (hb : g < b) : NewH cs k by_ good b W' g3 h l := ⟨hh.hw.kept hg (apart_ge hh.ge hb), hh.ne, hh.ge⟩
theorem NewH.set_ (hh : NewH cs k by_ good b W g3 h l) (i : Nat) (v : Value) : NewH cs k by_ good b (W.setCell ⟨g3, i, none⟩ v) g3 h l := ⟨hh.hw.kept (grown_set1 W ⟨g3, i, none⟩ v) hh.ne, hh.ne, hh.ge⟩
end
section
variable {w : World} {g : Nat} {A : Option Addr} {m c : Nat} {bs : List UInt8} {at_ : Nat} {f : Bool}
set_option maxHeartbeats 12800000 in
theorem breadE_any (hR : Rdr w g A m c bs at_ f) (hm : m ≤ 8796093000000) :
    Calls Tryz.prog 24 #[.pointer (some ⟨g, 0, none⟩)] w fun e w' => (∃ x : Ent, e = .returned (entV x) ∧ x.p = (stepE (stepB 0 4) bs at_ f).1 ∧ EntW w' x ∧ ∀ j, j < w.heap.size → EntA (some j) x) ∧
      Rdr w' g A m c bs (stepE (stepB 0 4) bs at_ f).2.1 (stepE (stepB 0 4) bs at_ f).2.2 ∧ w.grownBy w' (some g) := by
  have hgl := hR.blk.lt
  have HALT := Lib.hid hR.alt
  obtain ⟨W0, hW0⟩ : ∃ W0, W0 = w.alloc (Obj.cells #[.string ⟨#[]⟩, .string ⟨#[]⟩, .string ⟨#[]⟩, .slice none 0 0, .slice none 0 0, .int .i64 0, .slice none 0 0] 37) := ⟨_, rfl⟩
  have hb0 : Blk W0 w.heap.size 37 #[.string ⟨#[]⟩, .string ⟨#[]⟩, .string ⟨#[]⟩, .slice none 0 0, .slice none 0 0, .int .i64 0, .slice none 0 0] := by rw [hW0]; exact Blk.new w _ _
  have hE0 : Ext w W0 := by rw [hW0]; exact (Ext.refl w).alloc _
  obtain ⟨gr, hgr⟩ : ∃ gr, gr = w.heap.size := ⟨_, rfl⟩
  have HGR := Lib.hid hgr
  have hggr : g < gr := by omega
  go_enter Tryz.func24, Tryz.ntmps24
  go_wp2_with (first
    | (go_at_call 19; refine Hid.out ?_))
  rw [← hW0, ← hgr]
  rw [← hgr] at hb0
  refine Hid.mk_ ((rString (hR.ext hE0)).mono ?_)
  rintro e w1 ⟨rfl, hR1, hg1⟩
  obtain ⟨s1, p1, f1, hS⟩ : ∃ s p' f', stepS bs at_ f = (s, p', f') := ⟨_, _, _, rfl⟩
  rw [hS] at hR1 ⊢
  dsimp only at hR1 ⊢
  have HS1 := Lib.hid hS
  clear hS
  have hE1 : Ext w1 (w1.alloc (Obj.cells #[.string (str s1), .string ⟨#[]⟩, .string ⟨#[]⟩, .slice none 0 0, .slice none 0 0, .int .i64 0, .slice none 0 0] 37)) := (Ext.refl _).alloc _
  have hsz : W0.heap.size = gr + 1 := by rw [hW0, hgr]; simp
  have hI : RdSt 78 37 W0 (w1.alloc (Obj.cells #[.string (str s1), .string ⟨#[]⟩, .string ⟨#[]⟩, .slice none 0 0, .slice none 0 0, .int .i64 0, .slice none 0 0] 37)) g w1.heap.size #[.string (str s1), .string ⟨#[]⟩, .string ⟨#[]⟩, .slice none 0 0, .slice none 0 0, .int .i64 0, .slice none 0 0] A m c bs p1 f1 :=
    ⟨Blk.new w1 _ _, hR1.ext hE1, hg1.trans (hE1.grownBy _), hg1.size, by omega, fun k hk => by have := HALT.out k hk; omega⟩
  have hbr : Blk w1 gr 37 _ := hb0.grown hg1 (fun e => by injection e with e; omega)
  have HSZ := Lib.hid hsz
  have HGW : Hid (g < W0.heap.size) := by show _ < _; omega
  have hgne : some gr ≠ some g := fun e => by injection e with e; omega
  have HBL : Hid (bs.length ≤ 140737488351232) := by show _ ≤ _; have h1 := hR.rd.len; omega
  have HST1 : Hid (∀ l : List UInt8, l.length ≤ bs.length → GoodStr (str l)) := fun l hl => by
    show (str l).size ≤ _
    rw [str_size]
    exact Nat.le_trans hl HBL.out
  have HOB : Hid (obm m A = none ∨ obm m A ≠ some gr) := by
    cases hm : obm m A with
    | none => exact .inl rfl
    | some k => exact .inr (fun e => by injection e with e; have := HALT.out k hm; omega)
  have HSTR : Hid (∀ l : List (List UInt8), (∀ s ∈ l, s.length ≤ bs.length) → ∀ s ∈ l.map str, GoodStr s) := fun l hl s hs => by
    obtain ⟨t, ht, rfl⟩ := List.mem_map.1 hs
    show (str t).size ≤ _
    rw [str_size]
    exact Nat.le_trans (hl t ht) HBL.out
  obtain ⟨g3, hg3⟩ : ∃ g3, g3 = w1.heap.size := ⟨_, rfl⟩
  have hgr3 : gr < g3 := by rw [hg3]; exact hbr.lt
  have hbr1 := hbr.below hE1 hbr.lt
  rw [← hg3] at hI
  have HGN : Hid (gr ≠ g3) := by show _ ≠ _; omega
  clear hW0 hgr hb0 hbr hE1 hsz
  go_wp2_with (first
    | (go_at_call 19; refine Hid.out ?_))
  rw [← hg3]
  refine Hid.mk_ ((rString hI.rd).mono ?_)
  clear hg3
  rintro e w2 ⟨rfl, hR2, hg2⟩
  obtain ⟨s2, p2, f2, hS⟩ : ∃ s p' f', stepS bs p1 f1 = (s, p', f') := ⟨_, _, _, rfl⟩
  rw [hS] at hR2 ⊢
  dsimp only at hR2 ⊢
  have HS2 := Lib.hid hS
  clear hS
  have hI2 := hI.call hR2 hg2
  have hbr2 := hbr1.grown hg2 hgne
  clear hI hR2 hg2 hbr1 hR1 hg1
  have s_ : _ = some (.string ⟨#[]⟩ : Value) := hI2.blk.cell 1
  have t_ := hI2.blk.frozen 1
  have hJ2 := hI2.set_ 1 (.string (str s2) : Value)
  replace hbr2 := hbr2.far (p := ⟨g3, 1, none⟩) HGN.out (.string (str s2))
  clear hI2
  go_wp2_with (first
    | (go_at_call 19; refine Hid.out ?_))
  clear s_ t_
  refine Hid.mk_ ((rString hJ2.rd).mono ?_)
  rintro e w3 ⟨rfl, hR3, hg3⟩
  obtain ⟨s3, p3, f3, hS⟩ : ∃ s p' f', stepS bs p2 f2 = (s, p', f') := ⟨_, _, _, rfl⟩
  rw [hS] at hR3 ⊢
  dsimp only at hR3 ⊢
  have HS3 := Lib.hid hS
  have hI3 := hJ2.call hR3 hg3
  have hbr3 := hbr2.grown hg3 hgne
  clear hS hR3 hg3 hJ2 hbr2
  have s_ : _ = some (.string ⟨#[]⟩ : Value) := hI3.blk.cell 2
  have t_ := hI3.blk.frozen 2
  have hJ3 := hI3.set_ 2 (.string (str s3) : Value)
  replace hbr3 := hbr3.far (p := ⟨g3, 2, none⟩) HGN.out (.string (str s3))
  clear hI3
  go_wp2_with (first
    | (go_at_call 20; refine Hid.out ?_))
  clear s_ t_
  refine Hid.mk_ ((rStrings 20 hJ3.rd hm).mono ?_)
  rintro e w4 ⟨A4, m4, c4, rfl, ho4, hR4, hg4⟩
  have hle := stepL_le bs p3 f3 20
  obtain ⟨l4, p4, f4, hS⟩ : ∃ s p' f', stepL 20 bs p3 f3 = (s, p', f') := ⟨_, _, _, rfl⟩
  rw [show ((20 : Nat) : Int) = 20 from rfl, hS] at hle
  rw [hS] at hR4 ho4
  dsimp only at hR4 ho4 hle
  have HS4 := Lib.hid hS
  have hH4 : NewH strF 1 16 GoodStr W0.heap.size w4 g3 ⟨A4, m4, c4⟩ (l4.map str) := ⟨ho4.hw (by rw [List.length_map]; exact hle.1) (HSTR.out _ hle.2), apart_ge ho4.ge hJ3.blk.lt, fun k hk => Nat.le_trans hJ3.gr.size (ho4.ge k hk)⟩
  have hI4 := hJ3.call hR4 hg4
  have hbr4 := hbr3.grown hg4 hgne
  clear hS hle hR4 ho4 hg4 hJ3 hbr3
  have s_ : _ = some (.slice none 0 0 : Value) := hI4.blk.cell 3
  have t_ := hI4.blk.frozen 3
  have hJ4 := hI4.set_ 3 (.slice A4 m4 c4 : Value)
  replace hbr4 := hbr4.far (p := ⟨g3, 3, none⟩) HGN.out (.slice A4 m4 c4)
  clear hI4
  have hH4 := hH4.set_ 3 (.slice A4 m4 c4)
  go_wp2_with (first
    | (go_at_call 20; refine Hid.out ?_))
  clear s_ t_
  refine Hid.mk_ ((rStrings 20 hJ4.rd hm).mono ?_)
  rintro e w5 ⟨A5, m5, c5, rfl, ho5, hR5, hg5⟩
  have hle := stepL_le bs p4 f4 20
  obtain ⟨l5, p5, f5, hS⟩ : ∃ s p' f', stepL 20 bs p4 f4 = (s, p', f') := ⟨_, _, _, rfl⟩
  rw [show ((20 : Nat) : Int) = 20 from rfl, hS] at hle
  rw [hS] at hR5 ho5
  dsimp only at hR5 ho5 hle
  have HS5 := Lib.hid hS
  have hH5 : NewH strF 1 16 GoodStr W0.heap.size w5 g3 ⟨A5, m5, c5⟩ (l5.map str) := ⟨ho5.hw (by rw [List.length_map]; exact hle.1) (HSTR.out _ hle.2), apart_ge ho5.ge hJ4.blk.lt, fun k hk => Nat.le_trans hJ4.gr.size (ho5.ge k hk)⟩
  have hI5 := hJ4.call hR5 hg5
  have hbr5 := hbr4.grown hg5 hgne
  have hH4 := hH4.call hg5 HGW.out
  clear hS hle hR5 ho5 hg5 hJ4 hbr4
  have s_ : _ = some (.slice none 0 0 : Value) := hI5.blk.cell 4
  have t_ := hI5.blk.frozen 4
  have hJ5 := hI5.set_ 4 (.slice A5 m5 c5 : Value)
  replace hbr5 := hbr5.far (p := ⟨g3, 4, none⟩) HGN.out (.slice A5 m5 c5)
  clear hI5
  have hH4 := hH4.set_ 4 (.slice A5 m5 c5)
  have hH5 := hH5.set_ 4 (.slice A5 m5 c5)
  go_wp2_with (first
    | (go_at_call 22; refine Hid.out ?_))
  clear s_ t_
  refine Hid.mk_ ((rBounded 0 4 hJ5.rd).mono ?_)
  rintro e w6 ⟨rfl, hR6, hg6⟩
  have hbd := stepB_bd bs p5 f5 4
  obtain ⟨n6, p6, f6, hS⟩ : ∃ s p' f', stepB 0 4 bs p5 f5 = (s, p', f') := ⟨_, _, _, rfl⟩
  rw [show ((4 : Nat) : Int) = 4 from rfl, hS] at hbd
  rw [hS] at hR6 ⊢
  dsimp only at hR6 hbd ⊢
  have HS6 := Lib.hid hS
  have HBD := Lib.hid hbd
  have hI6 := hJ5.call hR6 hg6
  have hbr6 := hbr5.grown hg6 hgne
  have hH4 := hH4.call hg6 HGW.out
  have hH5 := hH5.call hg6 HGW.out
  clear hS hbd hR6 hg6 hJ5 hbr5
  have s_ : _ = some (.int .i64 0 : Value) := hI6.blk.cell 5
  have t_ := hI6.blk.frozen 5
  have hJ6 := hI6.set_ 5 (.int .i64 n6 : Value)
  replace hbr6 := hbr6.far (p := ⟨g3, 5, none⟩) HGN.out (.int .i64 n6)
  clear hI6
  have hH4 := hH4.set_ 5 (.int .i64 n6)
  have hH5 := hH5.set_ 5 (.int .i64 n6)
  go_wp2_with (first
    | (go_at_call 21; refine Hid.out ?_))
  clear s_ t_
  refine Hid.mk_ ((breadF_any hJ6.rd).mono ?_)
  rintro e w7 ⟨⟨A7, m7, c7, rfl, ho7⟩, hR7, hg7⟩
  have hle := stepF_le bs p6 f6
  obtain ⟨l7, p7, f7, hS⟩ : ∃ s p' f', stepF bs p6 f6 = (s, p', f') := ⟨_, _, _, rfl⟩
  rw [hS] at hle hR7 ho7
  dsimp only at hR7 ho7 hle
  have HS7 := Lib.hid hS
  have hH7 : NewH fdC 2 32 GoodFd W0.heap.size w7 g3 ⟨A7, m7, c7⟩ l7 := ⟨ho7.fds hle.1 (fun x hx => ⟨Nat.le_trans (hle.2 x hx).1 HBL.out, Nat.le_trans (hle.2 x hx).2 HBL.out⟩), apart_ge ho7.ge hJ6.blk.lt, fun k hk => Nat.le_trans hJ6.gr.size (ho7.ge k hk)⟩
  have hI7 := hJ6.call hR7 hg7
  have hbr7 := hbr6.grown hg7 hgne
  have hH4 := hH4.call hg7 HGW.out
  have hH5 := hH5.call hg7 HGW.out
  clear hS hle hR7 ho7 hg7 hJ6 hbr6
  have s0 : _ = some (.string (str s1) : Value) := hI7.blk.cell 0
  have s1_ : _ = some (.string (str s2) : Value) := hI7.blk.cell 1
  have s2_ : _ = some (.string (str s3) : Value) := hI7.blk.cell 2
  have s3_ : _ = some (.slice A4 m4 c4 : Value) := hI7.blk.cell 3
  have s4_ : _ = some (.slice A5 m5 c5 : Value) := hI7.blk.cell 4
  have s5_ : _ = some (.int .i64 n6 : Value) := hI7.blk.cell 5
  have r0 : _ = some (.string ⟨#[]⟩ : Value) := hbr7.cell 0
  have r1 : _ = some (.string ⟨#[]⟩ : Value) := hbr7.cell 1
  have r2 : _ = some (.string ⟨#[]⟩ : Value) := hbr7.cell 2
  have r3 : _ = some (.slice none 0 0 : Value) := hbr7.cell 3
  have r4 : _ = some (.slice none 0 0 : Value) := hbr7.cell 4
  have r5 : _ = some (.int .i64 0 : Value) := hbr7.cell 5
  have r6 : _ = some (.slice none 0 0 : Value) := hbr7.cell 6
  have q0 := hbr7.frozen 0
  have q1 := hbr7.frozen 1
  have q2 := hbr7.frozen 2
  have q3 := hbr7.frozen 3
  have q4 := hbr7.frozen 4
  have q5 := hbr7.frozen 5
  have q6 := hbr7.frozen 6
  have s_ : _ = some (.slice none 0 0 : Value) := hI7.blk.cell 6
  have t_ := hI7.blk.frozen 6
  have hJ7 := hI7.set_ 6 (.slice A7 m7 c7 : Value)
  replace hbr7 := hbr7.far (p := ⟨g3, 6, none⟩) HGN.out (.slice A7 m7 c7)
  clear hI7
  have hH4 := hH4.set_ 6 (.slice A7 m7 c7)
  have hH5 := hH5.set_ 6 (.slice A7 m7 c7)
  have hH7 := hH7.set_ 6 (.slice A7 m7 c7)
  obtain ⟨x, hx⟩ : ∃ x : Ent, x = ⟨⟨str s1, str s2, str s3, l4.map str, l5.map str, n6, l7⟩, ⟨A4, m4, c4⟩, ⟨A5, m5, c5⟩, ⟨A7, m7, c7⟩⟩ := ⟨_, rfl⟩
  have HX := Lib.hid hx
  have hge4 := hH4.ge
  have hge5 := hH5.ge
  have hge7 := hH7.ge
  have HEN : Hid (∀ j, j < W0.heap.size → EntA (some j) x) := fun j hj => by rw [hx]; exact ⟨apart_ge hge4 hj, apart_ge hge5 hj, apart_ge hge7 hj⟩
  have HEW : Hid (EntW (w7.setCell ⟨g3, 6, none⟩ (.slice A7 m7 c7)) x) := by
    show EntW _ _
    rw [hx]
    exact ⟨hH4.hw, hH5.hw, hH7.hw, HST1.out _ (by have h9 := stepS_le bs at_ f; rw [HS1.out] at h9; exact h9), HST1.out _ (by have h9 := stepS_le bs p1 f1; rw [HS2.out] at h9; exact h9), HST1.out _ (by have h9 := stepS_le bs p2 f2; rw [HS3.out] at h9; exact h9), by have h9 := HBD.out; show -9223372036854775808 ≤ n6 ∧ n6 ≤ _; omega⟩
  have HSTE : Hid (stepE (stepB 0 4) bs at_ f = (x.p, p7, f7)) := by
    show _ = _
    unfold stepE
    rw [HS1.out]; dsimp only
    rw [HS2.out]; dsimp only
    rw [HS3.out]; dsimp only
    rw [HS4.out]; dsimp only
    rw [HS5.out]; dsimp only
    rw [HS6.out]; dsimp only
    rw [HS7.out, hx]
  have HBR : Hid (Blk _ gr 37 _) := hbr7
  have HJ := Lib.hid hJ7
  clear hx hge4 hge5 hge7 hH4 hH5 hH7 hbr7 hJ7
  go_wp2
  refine bodyPost_ret (results_cell_row rfl _ _ gr 37 #[.string (str s1), .string (str s2), .string (str s3), .slice A4 m4 c4, .slice A5 m5 c5, .int .i64 n6, .slice A7 m7 c7] (0, 0) _ rfl (((((((HBR.out.set_ 0 _).set_ 1 _).set_ 2 _).set_ 3 _).set_ 4 _).set_ 5 _).set_ 6 _) Tryz.underlying37 rfl info_ent7) rfl ?_
  rw [HSTE.out]
  have hapg : ∀ j, j < w.heap.size → j < W0.heap.size := fun j hj => Nat.lt_of_lt_of_le hj hE0.size_le
  have hgrW : gr < W0.heap.size := by rw [HSZ.out]; omega
  refine ⟨⟨x, by rw [HX.out]; rfl, rfl, ?_, fun j hj => HEN.out j (hapg j hj)⟩, ?_, ?_⟩
  · iterate 7 refine EntW.kept ?_ (grown_set1 _ _ _) (HEN.out gr hgrW)
    exact HEW.out
  · iterate 7 refine RdrT.kept ?_ (grown_set1 _ _ _) hgne (HOB.out)
    exact HJ.out.rd
  · iterate 7 refine grown_step ?_ (grown_set1 _ _ _) (fun k hk => .inl (by injection hk with hk; simp only at hk; rw [← hk, HGR.out]; exact Nat.le_refl _))
    exact (hE0.grownBy _).trans HJ.out.gr
end
end Go.Proofs.YtngpajaghadhdaaGreatDoor
