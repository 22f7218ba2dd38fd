/- Decode of the program. -/
import Derived.Test.YtngpajaghadhdaaGreatDoorBinDe
namespace Go.Proofs.YtngpajaghadhdaaGreatDoor
open Go.RowKit
set_option maxRecDepth 100000
attribute [local go_sem] ext_refl_t ext_alloc_t ext_drew_t ext_drewN_t ext_alloc2_t ext_alloc3_t ext_alloc4_t ext_alloc5_t ext_alloc6_t ext_alloc7_t ext_alloc8_t ext_alloc1d_t ext_alloc2d_t ext_alloc3d_t ext_alloc4d_t
section
variable {w : World}
set_option maxHeartbeats 25600000 in
theorem bdecode_any {A : Option Addr} {m : Nat} (c : Nat) {l : List UInt8} (hs : SlB w A m l) (hmc : m ≤ c) (hmb : m ≤ 1000000000) (hT : Tabs w) :
    Calls Tryz.prog 6 #[.slice A m c] w fun e w' => (∃ (y : Cat) (code : Int), e = .returned (.tuple #[catV y, .int .i64 code]) ∧ DecR l y.p code ∧ CatW w' y ∧ ∀ z ∈ y.es, ∀ j, j < w.heap.size → EntA (some j) z) ∧ Ext w w' := by
  have HL : Hid (m = l.length) := hs.len
  obtain ⟨W0, hW0⟩ : ∃ W0, W0 = w.alloc (Obj.cells #[.string ⟨#[]⟩, .slice none 0 0, .slice none 0 0, .slice none 0 0] 28) := ⟨_, rfl⟩
  have hb0 : Blk W0 w.heap.size 28 #[.string ⟨#[]⟩, .slice none 0 0, .slice none 0 0, .slice none 0 0] := by rw [hW0]; exact Blk.new w _ _
  have hE0 : Ext w W0 := by rw [hW0]; exact (Ext.refl w).alloc _
  obtain ⟨gr, hgr⟩ : ∃ gr, gr = w.heap.size := ⟨_, rfl⟩
  have HGR := Lib.hid hgr
  go_enter Tryz.func6, Tryz.ntmps6
  go_wp2_with (first
    | (go_at_call 8; refine Hid.out ?_))
  rw [← hW0, ← hgr]
  rw [← hgr] at hb0
  refine Hid.mk_ ((blength_any c (hs.ext hE0) hmc).mono ?_)
  rintro e w1 ⟨rfl, hE1⟩
  obtain ⟨z, ok, hLR⟩ : ∃ z ok, LenR l = (z, ok) := ⟨_, _, rfl⟩
  rw [hLR]
  dsimp only
  clear hW0 hgr
  have HLR := Lib.hid hLR
  clear hLR
  by_cases hzz : ok = true ∧ z = (m : Int)
  case neg =>
    have HD : Hid (DecR l ⟨⟨#[]⟩, [], [], []⟩ 4) := dec_no fun d hv he hd => hzz (by
      have h9 := hd.len
      rw [HLR.out] at h9
      injection h9 with h1 h2
      exact ⟨h2, by rw [h1, HL.out]⟩)
    cases ok with
    | false =>
      clear hzz
      have hrb := hb0.below hE1 hb0.lt
      have k0 := hrb.cell 0
      have k1 := hrb.cell 1
      have k2 := hrb.cell 2
      have k3 := hrb.cell 3
      have k4 := hrb.frozen 0
      have k5 := hrb.frozen 1
      have k6 := hrb.frozen 2
      have k7 := hrb.frozen 3
      have HBR : Hid (Blk _ gr 28 _) := hrb
      have HEZ : Hid (Ext w _) := hE0.trans hE1
      clear hrb hb0
      go_wp2
      refine bodyPost_ret (results_cell_row_tmpD rfl _ _ gr 28 #[.string ⟨#[]⟩, .slice none 0 0, .slice none 0 0, .slice none 0 0] (0, 0) _ rfl ((((HBR.out.set_ 0 _).set_ 1 _).set_ 2 _).set_ 3 _) Tryz.underlying28 rfl info_cat4D) rfl ?_
      refine ⟨⟨catZ, 4, rfl, HD.out, catZ_W _, fun z hz => (by cases hz)⟩, ?_⟩
      iterate 4 refine Ext.set_ ?_ (by show w.heap.size ≤ gr; rw [HGR.out]; exact Nat.le_refl _) _
      exact HEZ.out
    | true =>
      have hz : (z != (m : Int)) = true := by
        rw [bne_iff_ne]
        exact fun e => hzz ⟨rfl, e⟩
      clear hzz
      have hrb := hb0.below hE1 hb0.lt
      have k0 := hrb.cell 0
      have k1 := hrb.cell 1
      have k2 := hrb.cell 2
      have k3 := hrb.cell 3
      have k4 := hrb.frozen 0
      have k5 := hrb.frozen 1
      have k6 := hrb.frozen 2
      have k7 := hrb.frozen 3
      have HBR : Hid (Blk _ gr 28 _) := hrb
      have HEZ : Hid (Ext w _) := hE0.trans hE1
      clear hrb hb0
      go_wp2
      refine bodyPost_ret (results_cell_row_tmpD rfl _ _ gr 28 #[.string ⟨#[]⟩, .slice none 0 0, .slice none 0 0, .slice none 0 0] (0, 0) _ rfl ((((HBR.out.set_ 0 _).set_ 1 _).set_ 2 _).set_ 3 _) Tryz.underlying28 rfl info_cat4D) rfl ?_
      refine ⟨⟨catZ, 4, rfl, HD.out, catZ_W _, fun z hz => (by cases hz)⟩, ?_⟩
      iterate 4 refine Ext.set_ ?_ (by show w.heap.size ≤ gr; rw [HGR.out]; exact Nat.le_refl _) _
      exact HEZ.out
  case pos =>
  obtain ⟨rfl, rfl⟩ := hzz
  have hm8 : 8 ≤ m := by
    have h9 := HLR.out
    unfold LenR at h9
    split at h9
    · rename_i h8; rw [HL.out]; exact h8.1
    · injection h9 with h1 h2; cases h2
  obtain ⟨A8, hx1, hr8, hx2, hs8, hx3⟩ := cut_run (hs.ext (hE0.trans hE1)) (i := 8) (j := m) hm8 (Nat.le_refl _) hmc
  have q1 : ∀ W, (Instr.sliceAt 22 (.slice A m c) (some (.int .i64 8)) none none).run Tryz.prog W = .ok (.slice A8 (m - 8) (c - 8)) W := fun W => (hr8 W .i64 8 rfl rfl).1
  have q2 : ∀ W, (Instr.slice 22 (.slice A m c) (some (.int .i64 8)) none none).run Tryz.prog W = .ok (.slice A8 (m - 8) (c - 8)) W := fun W => (hr8 W .i64 8 rfl rfl).2
  rw [List.take_of_length_le (by rw [← HL.out]; exact Nat.le_refl _)] at hs8
  clear hr8 hx1 hx2 hx3
  go_wp2_with (first
    | (go_at_call 18; refine Hid.out ?_))
  refine Hid.mk_ ((read_any (c - 8) hs8).mono ?_)
  rintro e w2 ⟨g1, A1, m1, c1, rfl, hR2, hE2, hg1, _⟩
  have hm1 : m1 ≤ 8796093000000 := by
    have h1 := hR2.rd.len
    have h2 := hs8.len
    omega
  clear q1 q2
  go_wp2_with (first
    | (go_at_call 19; refine Hid.out ?_))
  refine Hid.mk_ ((rString hR2).mono ?_)
  rintro e w3 ⟨rfl, hR3, hg3⟩
  have hE13 : Ext w1 w3 := hE2.grown hg3 (fun k hk => by cases hk; exact hg1)
  have HBL : Hid ((l.drop 8).length ≤ 140737488351232) := by show _ ≤ _; have h1 := hs8.len; omega
  obtain ⟨s1, p1, f1, hS⟩ : ∃ s p' f', hdT l = (s, p', f') := ⟨_, _, _, rfl⟩
  have HS1 := Lib.hid hS
  unfold hdT at hS
  rw [hS] at hR3 ⊢
  dsimp only at hR3 ⊢
  have HG1 : Hid (GoodStr (str s1)) := by
    have h9 := stepS_le (l.drop 8) 0 false
    rw [hS] at h9
    show (str s1).size ≤ _
    rw [str_size]
    exact Nat.le_trans h9 HBL.out
  obtain ⟨bs, hbs⟩ : ∃ bs, bs = l.drop 8 := ⟨_, rfl⟩
  rw [← hbs] at hR3 HBL
  have HBS := Lib.hid hbs
  have HSTR : Hid (∀ l : List (List UInt8), (∀ s ∈ l, s.length ≤ bs.length) → ∀ s ∈ l.map str, GoodStr s) := fun l hl s hs => by
    obtain ⟨t, ht, rfl⟩ := List.mem_map.1 hs
    show (str t).size ≤ _
    rw [str_size]
    exact Nat.le_trans (hl t ht) HBL.out
  have hE3a : Ext w3 (w3.alloc (Obj.cells #[.string (str s1), .slice none 0 0, .slice none 0 0, .slice none 0 0] 28)) := (Ext.refl _).alloc _
  have hI : RdSt 78 28 w3 (w3.alloc (Obj.cells #[.string (str s1), .slice none 0 0, .slice none 0 0, .slice none 0 0] 28)) g1 w3.heap.size #[.string (str s1), .slice none 0 0, .slice none 0 0, .slice none 0 0] A1 m1 c1 bs p1 f1 :=
    ⟨Blk.new w3 _ _, hR3.ext hE3a, hE3a.grownBy _, Nat.le_refl _, hR3.blk.lt, hR3.alt⟩
  obtain ⟨g7, hg7⟩ : ∃ g7, g7 = w3.heap.size := ⟨_, rfl⟩
  rw [← hg7] at hI
  clear hS hbs hs8 hR2 hE2 hg3 hE3a
  go_wp2_with (first
    | (go_at_call 20; refine Hid.out ?_))
  rw [← hg7]
  refine Hid.mk_ ((rStrings 20 hI.rd hm1).mono ?_)
  clear hR3 hg7
  rintro e w4 ⟨A4, m4, c4, rfl, ho4, hR4, hg4⟩
  have hle := stepL_le bs p1 f1 20
  obtain ⟨l4, p4, f4, hS⟩ : ∃ s p' f', stepL 20 bs p1 f1 = (s, p', f') := ⟨_, _, _, rfl⟩
  rw [show ((20 : Nat) : Int) = 20 from rfl, hS] at hle
  rw [hS] at hR4 ho4
  dsimp only at hR4 ho4 hle
  have HS4 : Hid (hdC l = (l4, p4, f4)) := by show _ = _; unfold hdC; rw [HS1.out, ← HBS.out]; exact hS
  have hH4 : NewH strF 1 16 GoodStr w3.heap.size w4 g7 ⟨A4, m4, c4⟩ (l4.map str) := ⟨ho4.hw (by rw [List.length_map]; exact hle.1) (HSTR.out _ hle.2), apart_ge ho4.ge hI.blk.lt, fun k hk => Nat.le_trans hI.gr.size (ho4.ge k hk)⟩
  have hl4 : ∀ k, ob A4 = some k → k < w4.heap.size := ho4.lt
  have hI4 := hI.call hR4 hg4
  have s_ : w4.cell? ⟨g7, 1, none⟩ = some (.slice none 0 0 : Value) := hI4.blk.cell 1
  have t_ := hI4.blk.frozen 1
  have hJ4 := hI4.set_ 1 (.slice A4 m4 c4)
  have hH4 := hH4.set_ 1 (.slice A4 m4 c4)
  clear hI hS hle ho4 hR4 hg4
  go_wp2_with (first
    | (go_at_call 21; refine Hid.out ?_))
  clear s_ t_ hI4
  refine Hid.mk_ ((breadF_any hJ4.rd).mono ?_)
  rintro e w5 ⟨⟨A5, m5, c5, rfl, ho5⟩, hR5, hg5⟩
  have hle := stepF_le bs p4 f4
  obtain ⟨l5, p5, f5, hS⟩ : ∃ s p' f', stepF bs p4 f4 = (s, p', f') := ⟨_, _, _, rfl⟩
  rw [hS] at hle hR5 ho5
  dsimp only at hR5 ho5 hle
  have HS5 : Hid (hdF l = (l5, p5, f5)) := by show _ = _; unfold hdF; rw [HS4.out, ← HBS.out]; exact hS
  have hH5 : NewH fdC 2 32 GoodFd w3.heap.size w5 g7 ⟨A5, m5, c5⟩ l5 := ⟨ho5.fds hle.1 (fun x hx => ⟨Nat.le_trans (hle.2 x hx).1 HBL.out, Nat.le_trans (hle.2 x hx).2 HBL.out⟩), apart_ge ho5.ge hJ4.blk.lt, fun k hk => Nat.le_trans hJ4.gr.size (ho5.ge k hk)⟩
  have hl5 : ∀ k, ob A5 = some k → k < w5.heap.size := ho5.lt
  have hl45 : ∀ k, ob A4 = some k → k < w5.heap.size := fun k hk => by have h1 := hl4 k hk; have h2 := hg5.size; simp only [World.setCell] at h2; simp at h2; omega
  have hI5 := hJ4.call hR5 hg5
  have hH4 := hH4.call hg5 hJ4.lt
  have s_ : w5.cell? ⟨g7, 2, none⟩ = some (.slice none 0 0 : Value) := hI5.blk.cell 2
  have t_ := hI5.blk.frozen 2
  have hJ5 := hI5.set_ 2 (.slice A5 m5 c5)
  have hH4 := hH4.set_ 2 (.slice A5 m5 c5)
  have hH5 := hH5.set_ 2 (.slice A5 m5 c5)
  clear hS hle ho5 hR5 hg5 hJ4
  go_wp2_with (first
    | (go_at_call 22; refine Hid.out ?_))
  clear s_ t_ hI5
  refine Hid.mk_ ((rBounded 0 1000 hJ5.rd).mono ?_)
  rintro e w6 ⟨rfl, hR6, hg6⟩
  have hbd := stepB_bd bs p5 f5 1000
  obtain ⟨n6, p6, f6, hS⟩ : ∃ n p' f', stepB 0 1000 bs p5 f5 = (n, p', f') := ⟨_, _, _, rfl⟩
  rw [show ((1000 : Nat) : Int) = 1000 from rfl, hS] at hbd
  rw [hS] at hR6 ⊢
  dsimp only at hR6 hbd ⊢
  obtain ⟨n, rfl⟩ : ∃ n : Nat, n6 = n := ⟨n6.toNat, by omega⟩
  have hn : n ≤ 1000 := by omega
  have HS6 : Hid (hdN l = ((n : Int), p6, f6)) := by show _ = _; unfold hdN; rw [HS5.out, ← HBS.out]; exact hS
  have HAT : Hid (hdA l = 8 + p6 + 8 * n) := by show _ = _; unfold hdA; rw [HS6.out]; rfl
  have hI6 := hJ5.call hR6 hg6
  have hH4 := hH4.call hg6 hJ5.lt
  have hH5 := hH5.call hg6 hJ5.lt
  have hw56 : w5.heap.size ≤ w6.heap.size := by have h2 := hg6.size; simpa [World.setCell] using h2
  have hl46 : ∀ k, ob A4 = some k → k < w6.heap.size := fun k hk => Nat.lt_of_lt_of_le (hl45 k hk) hw56
  have hl56 : ∀ k, ob A5 = some k → k < w6.heap.size := fun k hk => Nat.lt_of_lt_of_le (hl5 k hk) hw56
  have hp6 : p6 ≤ 1000000000 := by have h1 := hI6.rd.at_le; have h2 := hI6.rd.rd.len; rw [HBS.out, List.length_drop, ← HL.out] at h2; omega
  have hE06 : Ext W0 w6 := (hE1.trans hE13).grown hI6.gr (fun k hk => by cases hk; exact Nat.le_trans hE1.size_le hg1)
  clear hbd hS hR6 hg6 hJ5 hl4 hl5 hl45 hw56
  go_wp2_with (first
    | (go_at_call 23; refine Hid.out ?_))
  refine Hid.mk_ ((offset_any hI6.rd).mono ?_)
  rintro e w7 ⟨rfl, rfl⟩
  by_cases hov : m < 8 + p6 + 8 * n
  · have hi : (m : Int) < 8 + (p6 : Int) + 8 * (n : Int) := by omega
    have HD : Hid (DecR l ⟨⟨#[]⟩, [], [], []⟩ 4) := dec_no fun d hv he hd => by
      have h9 := hd.at_
      rw [HAT.out, ← HL.out] at h9
      omega
    clear hI6 hH4 hH5
    have hrb := hb0.below hE06 hb0.lt
    have k0 := hrb.cell 0
    have k1 := hrb.cell 1
    have k2 := hrb.cell 2
    have k3 := hrb.cell 3
    have k4 := hrb.frozen 0
    have k5 := hrb.frozen 1
    have k6 := hrb.frozen 2
    have k7 := hrb.frozen 3
    have HBR : Hid (Blk _ gr 28 _) := hrb
    have HEZ : Hid (Ext w _) := hE0.trans hE06
    clear hrb hb0
    go_wp2
    refine bodyPost_ret (results_cell_row_tmpD rfl _ _ gr 28 #[.string ⟨#[]⟩, .slice none 0 0, .slice none 0 0, .slice none 0 0] (0, 0) _ rfl ((((HBR.out.set_ 0 _).set_ 1 _).set_ 2 _).set_ 3 _) Tryz.underlying28 rfl info_cat4D) rfl ?_
    refine ⟨⟨catZ, 4, rfl, HD.out, catZ_W _, fun z hz => (by cases hz)⟩, ?_⟩
    iterate 4 refine Ext.set_ ?_ (by show w.heap.size ≤ gr; rw [HGR.out]; exact Nat.le_refl _) _
    exact HEZ.out
  have hi : ¬ (m : Int) < 8 + (p6 : Int) + 8 * (n : Int) := by omega
  obtain ⟨A9, hx1, hr9, hx2, hs9, hx3⟩ := cut_run (hs.ext (hE0.trans hE06)) (i := 8 + p6 + 8 * n) (j := m) (by omega) (Nat.le_refl _) hmc
  rw [List.take_of_length_le (by rw [← HL.out]; exact Nat.le_refl _)] at hs9
  obtain ⟨m9, hm9⟩ : ∃ x, x = m - (8 + p6 + 8 * n) := ⟨_, rfl⟩
  obtain ⟨c9, hc9⟩ : ∃ x, x = c - (8 + p6 + 8 * n) := ⟨_, rfl⟩
  rw [← hm9] at hr9 hs9
  rw [← hc9] at hr9
  have q1 : ∀ W, (Instr.sliceAt 22 (.slice A m c) (some (.int .i64 (8 + (p6 : Int) + 8 * (n : Int)))) none none).run Tryz.prog W = .ok (.slice A9 m9 c9) W := fun W => (hr9 W .i64 _ (by omega) rfl).1
  have q2 : ∀ W, (Instr.slice 22 (.slice A m c) (some (.int .i64 (8 + (p6 : Int) + 8 * (n : Int)))) none none).run Tryz.prog W = .ok (.slice A9 m9 c9) W := fun W => (hr9 W .i64 _ (by omega) rfl).2
  have hi2 : 8 + (p6 : Int) + 8 * (n : Int) ≤ (m : Int) := by omega
  have HM9 := Lib.hid hm9
  have hm9le : m9 ≤ m := by omega
  clear hr9 hx1 hx2 hx3 hm9 hc9 hov
  go_wp2_with (first
    | (go_at_call 18; refine Hid.out ?_))
  refine Hid.mk_ ((read_any c9 hs9).mono ?_)
  rintro e w8 ⟨g2, A2, m2, c2, rfl, hR8, hE8, hg2, hA2⟩
  obtain ⟨b2, hb2⟩ : ∃ b2, b2 = l.drop (8 + p6 + 8 * n) := ⟨_, rfl⟩
  rw [← hb2] at hR8 hs9
  have HB2 : Hid (b2 = l.drop (hdA l)) := by show _ = _; rw [HAT.out]; exact hb2
  have hm2 : m2 ≤ 8796093000000 := by
    have h1 := hR8.rd.len
    have h2 := hs9.len
    omega
  have HB2L : Hid (b2.length = l.length - hdA l) := by show _ = _; rw [HB2.out, List.length_drop]
  have hg7lt := hI6.blk.lt
  have hb7 : Blk w8 g7 28 #[.string (str s1), .slice A4 m4 c4, .slice A5 m5 c5, .slice none 0 0] := hI6.blk.below hE8 hg7lt
  have HN4 := Lib.hid hH4.ne
  have HGE4 := Lib.hid hH4.ge
  have HGE5 := Lib.hid hH5.ge
  have HGR3 : Hid (gr < w3.heap.size) := by show _ < _; exact Nat.lt_of_lt_of_le hb0.lt (Nat.le_trans hE1.size_le hE13.size_le)
  have HW8 : Hid (w.heap.size ≤ w8.heap.size) := Nat.le_trans hE0.size_le (Nat.le_trans hE06.size_le hE8.size_le)
  have HGR8 : Hid (gr < w8.heap.size) := by show _ < _; exact Nat.lt_of_lt_of_le hb0.lt (Nat.le_trans hE06.size_le hE8.size_le)
  have HN5 := Lib.hid hH5.ne
  have hE16 : Ext w1 w6 := hE13.grown hI6.gr (fun k hk => by cases hk; exact hg1)
  have HE16 := Lib.hid hE16
  have HL17 : Hid (w1.heap.size ≤ g7) := Nat.le_trans hE13.size_le hI6.ge
  have hH4 := hH4.hw.ext hE8
  have hH5 := hH5.hw.ext hE8
  have hap4 : ∀ r : Option Nat, (∀ j, r = some j → w6.heap.size ≤ j) → Apart r ⟨A4, m4, c4⟩ := fun r hr => apart_of_lt hl46 hr
  have hap5 : ∀ r : Option Nat, (∀ j, r = some j → w6.heap.size ≤ j) → Apart r ⟨A5, m5, c5⟩ := fun r hr => apart_of_lt hl56 hr
  have hne27 : g2 ≠ g7 := by omega
  have hlt2 : g2 < w8.heap.size := hR8.blk.lt
  have hlt7 : g7 < w8.heap.size := hb7.lt
  have hE68 := Lib.hid hE8
  have HS68 : Hid (w6.heap.size ≤ w8.heap.size) := hE8.size_le
  have hD0 : DLoop 78 (stepB 0 4) b2 w8.heap.size g2 g7 A2 m2 c2 w8 0 none 0 0 [] 0 false := ⟨rfl, OsC.nil_ entC_len entC_cell, hR8, (fun z hz => by cases hz), Nat.le_refl _, hlt2, hlt7, hne27, fun k hk => ⟨hR8.alt k hk, fun e => by have h1 := hA2 k (obm_ob hk); omega⟩⟩
  clear hb2 q1 q2 hi2 hs9 hR8 hA2 hI6 hm9le HM9
  go_wp2
  go_loopw [56] (fun i wr => ∃ (q : Nat) (Ae : Option Addr) (me ce : Nat) (es : List Ent) (p : Nat) (f : Bool), q ≤ n ∧ i = .int .i64 q ∧ Hid (DLoop 78 (stepB 0 4) b2 w8.heap.size g2 g7 A2 m2 c2 wr q Ae me ce es p f) ∧ Hid (Blk wr g7 28 #[.string (str s1), .slice A4 m4 c4, .slice A5 m5 c5, .slice Ae me ce]) ∧
      Hid (StrsW wr ⟨A4, m4, c4⟩ (l4.map str)) ∧ Hid (FdsW wr ⟨A5, m5, c5⟩ l5) ∧ Hid (Ext w1 wr)) (fun i _ => n - (intOf i).toNat)
  case atStart => exact ⟨0, none, 0, 0, [], 0, false, Nat.zero_le _, rfl, hD0, hb7, hH4, hH5, HE16.out.trans hE8⟩
  case round =>
    obtain ⟨q, Ae, me, ce, es, p, f, hq, rfl, HDL, HB7, HH4, HH5, HEr⟩ := hrel
    by_cases hlt : q < n
    · have hi1 : (q : Int) < (n : Int) := by omega
      have hme : me ≤ 1000 := by rw [HDL.out.len]; omega
      have X3 : wr.cell? ⟨g7, 3, none⟩ = some (.slice Ae me ce) := HB7.out.cell 3
      have hEd : Ext wr wr.drew := (Ext.refl _).drew
      have hEr0 : Ext wr wr := Ext.refl _
      have hP1 : Hid (∀ W, Ext wr W → Calls Tryz.prog 24 #[.pointer (some ⟨g2, 0, none⟩)] W fun e w' => (∃ x : Ent, e = .returned (.agg #[.string x.p.id, .string x.p.src, .string x.p.tgt, .slice x.c.A x.c.m x.c.c, .slice x.f.A x.f.m x.f.c, .int .i64 x.p.st, .slice x.d.A x.d.m x.d.c]) ∧ x.p = (stepE (stepB 0 4) b2 p f).1 ∧ EntW w' x ∧ ∀ j, j < wr.heap.size → EntA (some j) x) ∧
          Rdr w' g2 A2 m2 c2 b2 (stepE (stepB 0 4) b2 p f).2.1 (stepE (stepB 0 4) b2 p f).2.2 ∧ wr.grownBy w' (some g2)) := fun W hW => (breadE_any (HDL.out.rd.ext hW) hm2).mono (by
        rintro e w' ⟨⟨x, rfl, h1, h2, h3⟩, h4, h5⟩
        exact ⟨⟨x, rfl, h1, h2, fun j hj => h3 j (Nat.lt_of_lt_of_le hj hW.size_le)⟩, h4, (hW.grownBy _).trans h5⟩)
      have hn72 : some g7 ≠ some g2 := fun e => by injection e with e; exact hne27 e.symm
      have hszr := HDL.out.sz
      go_wp2
      go_region_law
        (first
          | (go_simp
             go_at_call 24
             (with_reducible refine (hP1.out _ (by assumption)).mono ?_)
             rintro e w9 ⟨⟨x, rfl, hxp, hxW, hxA⟩, hR9, hg9⟩
             have HXP := Lib.hid hxp
             clear hxp
             have X4 : w9.cell? ⟨g7, 3, none⟩ = some (.slice Ae me ce) := (HB7.out.grown hg9 hn72).cell 3
             have hEa : Ext w9 (w9.alloc (Obj.cells #[.string x.p.id, .string x.p.src, .string x.p.tgt, .slice x.c.A x.c.m x.c.c, .slice x.f.A x.f.m x.f.c, .int .i64 x.p.st, .slice x.d.A x.d.m x.d.c] 37)) := (Ext.refl _).alloc _
             have X5 := laters X4 _ hEa
             have hoa := (HDL.out.own.kept hg9 HDL.out.ne2).ext hEa
             have hnew : SlC entC 7 (w9.alloc (Obj.cells #[.string x.p.id, .string x.p.src, .string x.p.tgt, .slice x.c.A x.c.m x.c.c, .slice x.f.A x.f.m x.f.c, .int .i64 x.p.st, .slice x.d.A x.d.m x.d.c] 37)) (some ⟨w9.heap.size, 0, none⟩) 1 [x] := SlC.new_ (cs := entC) w9 [x] entC_len (by simp) _ rfl (0, 0) 1 rfl 37
             have hba := Nat.le_trans hszr (Nat.le_trans hg9.size hEa.size_le))
          | (refine step_appC einfo_ent rfl _ _ rfl hoa rfl hnew rfl (by omega) hba ?_
             intro A6 m6 c6 w4 ho6 hg6 hN6
             have hb6 := ((HB7.out.grown hg9 hn72).below hEa (HB7.out.grown hg9 hn72).lt).grown hg6 (fun e => HDL.out.ne7 e.symm)
             have s4 : w4.cell? ⟨g7, 3, none⟩ = some (.slice Ae me ce) := hb6.cell 3
             have t4 := hb6.frozen 3)
          | fail)
      all_goals
        have HDX : Hid (DLoop 78 (stepB 0 4) b2 w8.heap.size g2 g7 A2 m2 c2 (w4.setCell ⟨g7, 3, none⟩ (.slice A6 m6 c6)) (q + 1) A6 m6 c6 (es ++ [x]) (stepE (stepB 0 4) b2 p f).2.1 (stepE (stepB 0 4) b2 p f).2.2) := HDL.out.step (Ext.refl _) hR9 hg9 HXP.out hxW hxA hEa ho6 hg6 hN6 (grown_set1 w4 ⟨g7, 3, none⟩ (.slice A6 m6 c6))
        have HBX : Hid (Blk (w4.setCell ⟨g7, 3, none⟩ (.slice A6 m6 c6)) g7 28 #[.string (str s1), .slice A4 m4 c4, .slice A5 m5 c5, .slice A6 m6 c6]) := hb6.set_ 3 (.slice A6 m6 c6)
        have hr2 : ∀ j, some g2 = some j → w6.heap.size ≤ j := fun j hj => by cases hj; exact hg2
        have hrA : ∀ j, ob Ae = some j → w6.heap.size ≤ j := fun j hj => Nat.le_trans HS68.out (HDL.out.own.ge j hj)
        have HX4 : Hid (StrsW (w4.setCell ⟨g7, 3, none⟩ (.slice A6 m6 c6)) ⟨A4, m4, c4⟩ (l4.map str)) := (((HH4.out.kept hg9 (hap4 _ hr2)).ext hEa).kept hg6 (hap4 _ hrA)).kept (grown_set1 w4 ⟨g7, 3, none⟩ (.slice A6 m6 c6)) HN4.out
        have HX5 : Hid (FdsW (w4.setCell ⟨g7, 3, none⟩ (.slice A6 m6 c6)) ⟨A5, m5, c5⟩ l5) := (((HH5.out.kept hg9 (hap5 _ hr2)).ext hEa).kept hg6 (hap5 _ hrA)).kept (grown_set1 w4 ⟨g7, 3, none⟩ (.slice A6 m6 c6)) HN5.out
        have HXE : Hid (Ext w1 (w4.setCell ⟨g7, 3, none⟩ (.slice A6 m6 c6))) := ((((HEr.out.grown hg9 (fun j hj => Nat.le_trans HE16.out.size_le (hr2 j hj))).trans hEa).grown hg6 (fun j hj => Nat.le_trans HE16.out.size_le (hrA j hj))).grown (grown_set1 w4 ⟨g7, 3, none⟩ (.slice A6 m6 c6)) (fun j hj => by cases hj; exact HL17.out))
        clear hb6 hoa hnew hba s4 t4 X3 X4 X5 hR9 hg9 hxW hxA hEa ho6 hg6 hN6 hr2 hrA
        go_wp2
        go_roundw
        case rel => exact ⟨q + 1, A6, m6, c6, es ++ [x], _, _, by omega, by go_num, HDX, HBX, HX4, HX5, HXE⟩
        case measure => simp [intOf]; omega
    · have hi1 : ¬ (q : Int) < (n : Int) := by omega
      have hqe : q = n := by omega
      have hme : me ≤ 1000 := by rw [HDL.out.len]; omega
      obtain ⟨y, hy⟩ : ∃ y : Cat, y = ⟨str s1, l4.map str, l5, es, ⟨A4, m4, c4⟩, ⟨A5, m5, c5⟩, ⟨Ae, me, ce⟩⟩ := ⟨_, rfl⟩
      have hyW : CatW wr y := by
        rw [hy]
        exact ⟨HG1.out, HH4.out, HH5.out, ⟨HDL.out.own.sl, HDL.out.own.cap, by show me * 128 ≤ _; omega, fun z hz => (HDL.out.each z hz).1⟩⟩
      have HBD : Hid (bdE l = (y.es.map Ent.p, p, f)) := by
        show _ = _
        unfold bdE
        rw [HS6.out, ← HB2.out]
        show stepEs (stepB 0 4) b2 0 false (n : Int).toNat = _
        rw [Int.toNat_natCast, ← hqe, HDL.out.st, hy]
      have HDC : Hid (decC l = y.p) := by
        show _ = _
        unfold decC
        rw [HBD.out, HS1.out, HS4.out, HS5.out, hy]
        rfl
      have HIDY : Hid (catV y = .agg #[.string (str s1), .slice A4 m4 c4, .slice A5 m5 c5, .slice Ae me ce]) := by show _ = _; rw [hy]; rfl
      have henc := bencode_any hyW (hT.ext ((hE0.trans hE1).trans HEr.out))
      rw [HIDY.out] at henc
      have e0 : wr.cell? ⟨g7, 0, none⟩ = some (.string (str s1)) := HB7.out.cell 0
      have e1 : wr.cell? ⟨g7, 1, none⟩ = some (.slice A4 m4 c4) := HB7.out.cell 1
      have e2 : wr.cell? ⟨g7, 2, none⟩ = some (.slice A5 m5 c5) := HB7.out.cell 2
      have e3 : wr.cell? ⟨g7, 3, none⟩ = some (.slice Ae me ce) := HB7.out.cell 3
      have HY := Lib.hid hy
      clear hqe hy
      go_wp2_with (first
        | (go_at_call 17; refine Hid.out ?_))
      refine Hid.mk_ (henc.mono ?_)
      rintro e w10 ⟨⟨AX, mX, cX, code, L, rfl, hoX, hRX⟩, hE10⟩
      clear henc e0 e1 e2 e3
      have HRX := Lib.hid hRX
      have hE0X : Ext W0 w10 := (hE1.trans HEr.out).trans hE10
      clear hRX
      go_wp2_with (first
        | (go_at_call 25; refine Hid.out ?_))
      refine Hid.mk_ ((end_any (HDL.out.rd.ext hE10)).mono ?_)
      rintro e w11 ⟨hE11, rfl⟩
      obtain ⟨ze, hze⟩ : ∃ z, z = endE b2.length p f := ⟨_, rfl⟩
      rw [← hze]
      have HZE := Lib.hid hze
      clear hze
      have hE0Y := hE0X.trans hE11
      by_cases hz0 : ze = 0
      case neg =>
        have HD : Hid (DecR l ⟨⟨#[]⟩, [], [], []⟩ 4) := dec_no fun d hv he hd => hz0 (by
          have h9 := hd.end_
          rw [HBD.out] at h9
          rw [HZE.out, HB2L.out]
          exact h9)
        have hzb : (ze != 0) = true := by rw [bne_iff_ne]; exact hz0
        clear hz0
        have hrb := hb0.below hE0Y hb0.lt
        have k0 := hrb.cell 0
        have k1 := hrb.cell 1
        have k2 := hrb.cell 2
        have k3 := hrb.cell 3
        have k4 := hrb.frozen 0
        have k5 := hrb.frozen 1
        have k6 := hrb.frozen 2
        have k7 := hrb.frozen 3
        have HBR : Hid (Blk _ gr 28 _) := hrb
        have HEZ : Hid (Ext w _) := hE0.trans hE0Y
        clear hrb hb0
        go_wp2
        refine bodyPost_ret (results_cell_row_tmpD rfl _ _ gr 28 #[.string ⟨#[]⟩, .slice none 0 0, .slice none 0 0, .slice none 0 0] (0, 0) _ rfl ((((HBR.out.set_ 0 _).set_ 1 _).set_ 2 _).set_ 3 _) Tryz.underlying28 rfl info_cat4D) rfl ?_
        refine ⟨⟨catZ, 4, rfl, HD.out, catZ_W _, fun z hz => (by cases hz)⟩, ?_⟩
        iterate 4 refine Ext.set_ ?_ (by show w.heap.size ≤ gr; rw [HGR.out]; exact Nat.le_refl _) _
        exact HEZ.out
      case pos =>
      subst hz0
      rcases HRX.out with ⟨hv, hcode, hLc⟩ | ⟨hv, hcode, hLc⟩
      case inr =>
        subst hcode
        have HD : Hid (DecR l ⟨⟨#[]⟩, [], [], []⟩ 4) := dec_no fun d hv2 he hd => by
          have h9 := hd.dec
          rw [HDC.out] at h9
          rw [← h9, hv] at hv2
          cases hv2
        clear hv hLc
        have hrb := hb0.below hE0Y hb0.lt
        have k0 := hrb.cell 0
        have k1 := hrb.cell 1
        have k2 := hrb.cell 2
        have k3 := hrb.cell 3
        have k4 := hrb.frozen 0
        have k5 := hrb.frozen 1
        have k6 := hrb.frozen 2
        have k7 := hrb.frozen 3
        have HBR : Hid (Blk _ gr 28 _) := hrb
        have HEZ : Hid (Ext w _) := hE0.trans hE0Y
        clear hrb hb0
        go_wp2
        refine bodyPost_ret (results_cell_row_tmpD rfl _ _ gr 28 #[.string ⟨#[]⟩, .slice none 0 0, .slice none 0 0, .slice none 0 0] (0, 0) _ rfl ((((HBR.out.set_ 0 _).set_ 1 _).set_ 2 _).set_ 3 _) Tryz.underlying28 rfl info_cat4D) rfl ?_
        refine ⟨⟨catZ, 4, rfl, HD.out, catZ_W _, fun z hz => (by cases hz)⟩, ?_⟩
        iterate 4 refine Ext.set_ ?_ (by show w.heap.size ≤ gr; rw [HGR.out]; exact Nat.le_refl _) _
        exact HEZ.out
      case inl =>
      subst hcode
      have HV := Lib.hid hv
      have HLC := Lib.hid hLc
      clear hv hLc
      go_wp2_with (first
        | (go_at_call 26; refine Hid.out ?_))
      refine Hid.mk_ ((bytesEq_any cX c (hoX.sl.ext hE11) (hs.ext (hE0.trans hE0Y))).mono ?_)
      rintro e w12 ⟨rfl, hE12⟩
      have hE0Z := hE0Y.trans hE12
      by_cases hq2 : L = l
      case neg =>
        rw [decide_eq_false hq2]
        have HD : Hid (DecR l ⟨⟨#[]⟩, [], [], []⟩ 4) := dec_no fun d hv2 he hd => by
          have h9 := hd.dec
          rw [HDC.out] at h9
          rw [← h9, ← HLC.out] at he
          exact hq2 he
        clear hq2
        have hrb := hb0.below hE0Z hb0.lt
        have k0 := hrb.cell 0
        have k1 := hrb.cell 1
        have k2 := hrb.cell 2
        have k3 := hrb.cell 3
        have k4 := hrb.frozen 0
        have k5 := hrb.frozen 1
        have k6 := hrb.frozen 2
        have k7 := hrb.frozen 3
        have HBR : Hid (Blk _ gr 28 _) := hrb
        have HEZ : Hid (Ext w _) := hE0.trans hE0Z
        clear hrb hb0
        go_wp2
        refine bodyPost_ret (results_cell_row_tmpD rfl _ _ gr 28 #[.string ⟨#[]⟩, .slice none 0 0, .slice none 0 0, .slice none 0 0] (0, 0) _ rfl ((((HBR.out.set_ 0 _).set_ 1 _).set_ 2 _).set_ 3 _) Tryz.underlying28 rfl info_cat4D) rfl ?_
        refine ⟨⟨catZ, 4, rfl, HD.out, catZ_W _, fun z hz => (by cases hz)⟩, ?_⟩
        iterate 4 refine Ext.set_ ?_ (by show w.heap.size ≤ gr; rw [HGR.out]; exact Nat.le_refl _) _
        exact HEZ.out
      case pos =>
      rw [decide_eq_true hq2]
      have HD : Hid (DecR l y.p 0) := .inl ⟨rfl, HV.out, by rw [← HLC.out, hq2]⟩
      have hErz := (hE10.trans hE11).trans hE12
      have hb7z := HB7.out.below hErz HB7.out.lt
      have e0 : w12.cell? ⟨g7, 0, none⟩ = some (.string (str s1)) := hb7z.cell 0
      have e1 : w12.cell? ⟨g7, 1, none⟩ = some (.slice A4 m4 c4) := hb7z.cell 1
      have e2 : w12.cell? ⟨g7, 2, none⟩ = some (.slice A5 m5 c5) := hb7z.cell 2
      have e3 : w12.cell? ⟨g7, 3, none⟩ = some (.slice Ae me ce) := hb7z.cell 3
      have hrb := hb0.below hE0Z hb0.lt
      have k0 := hrb.cell 0
      have k1 := hrb.cell 1
      have k2 := hrb.cell 2
      have k3 := hrb.cell 3
      have k4 := hrb.frozen 0
      have k5 := hrb.frozen 1
      have k6 := hrb.frozen 2
      have k7 := hrb.frozen 3
      have HBR : Hid (Blk _ gr 28 _) := hrb
      have HEZ : Hid (Ext w w12) := hE0.trans hE0Z
      have HYZ : Hid (CatW w12 y) := hyW.ext hErz
      have HYE : Hid (y.c = ⟨A4, m4, c4⟩ ∧ y.d = ⟨A5, m5, c5⟩ ∧ y.e = ⟨Ae, me, ce⟩ ∧ y.es = es) := by show _ ∧ _; rw [HY.out]; exact ⟨rfl, rfl, rfl, rfl⟩
      clear hrb hb0 hb7z hq2 hyW
      have hrow : ob Ae ≠ some gr := fun e => by have h1 := HDL.out.own.ge gr e; have h2 := HGR8.out; omega
      have HRE : Hid (Apart (some gr) (⟨Ae, me, ce⟩ : SlH)) := .inr (.inr hrow)
      clear hrow
      go_wp2
      refine bodyPost_ret (results_cell_row_tmpD rfl _ _ gr 28 #[.string (str s1), .slice A4 m4 c4, .slice A5 m5 c5, .slice Ae me ce] (0, 0) _ rfl ((((HBR.out.set_ 0 _).set_ 1 _).set_ 2 _).set_ 3 _) Tryz.underlying28 rfl info_cat4D) rfl ?_
      refine ⟨⟨y, 0, by rw [HIDY.out]; rfl, HD.out, ?_, fun z hz j hj => (HDL.out.each z (by rw [← HYE.out.2.2.2]; exact hz)).2.1 j (Nat.lt_of_lt_of_le hj HW8.out)⟩, ?_⟩
      · iterate 4 refine CatW.keptD ?_ (grown_set1 _ _ _) (by rw [HYE.out.1]; exact apart_ge HGE4.out HGR3.out) (by rw [HYE.out.2.1]; exact apart_ge HGE5.out HGR3.out) (by rw [HYE.out.2.2.1]; exact HRE.out) (by rw [HYE.out.2.2.2]; exact fun z hz => (HDL.out.each z hz).2.1 gr HGR8.out)
        exact HYZ.out
      · iterate 4 refine Ext.set_ ?_ (by show w.heap.size ≤ gr; rw [HGR.out]; exact Nat.le_refl _) _
        exact HEZ.out
end
end Go.Proofs.YtngpajaghadhdaaGreatDoor
