/- Decode of the reference. -/
import Derived.Test.YtngpajaghadhdaaGreatDoorBinQd
import Derived.Test.YtngpajaghadhdaaGreatDoorBinRE
namespace Go.Proofs.YtngpajaghadhdaaGreatDoor
open Go.RowKit
set_option maxRecDepth 100000
attribute [local go_sem] ext_refl_t ext_alloc_t ext_drew_t ext_drewN_t ext_alloc2_t ext_alloc3_t ext_alloc4_t ext_alloc5_t ext_alloc6_t ext_alloc7_t ext_alloc8_t ext_alloc1d_t ext_alloc2d_t ext_alloc3d_t ext_alloc4d_t

/- append([]byte{}, part...): a new reader of what it holds. -/
section
variable {w : World}
set_option maxHeartbeats 25600000 in
theorem rdecode_any {A : Option Addr} {m : Nat} (c : Nat) {l : List UInt8} (hs : SlB w A m l) (hmc : m ≤ c) (hmb : m ≤ 1000000000) :
    Calls Tryz.prog 7 #[.slice A m c] w fun e w' => (∃ (y : Cat) (code : Int), e = .returned (.tuple #[catV y, .int .i64 code]) ∧ DecR l y.p code ∧ CatW w' y ∧ ∀ z ∈ y.es, ∀ j, j < w.heap.size → EntA (some j) z) ∧ Ext w w' := by
  have HL : Hid (m = l.length) := hs.len
  obtain ⟨W0, hW0⟩ : ∃ W0, W0 = w.alloc (Obj.cells #[.string ⟨#[]⟩, .slice none 0 0, .slice none 0 0, .slice none 0 0] 28) := ⟨_, rfl⟩
  have hb0 : Blk W0 w.heap.size 28 #[.string ⟨#[]⟩, .slice none 0 0, .slice none 0 0, .slice none 0 0] := by rw [hW0]; exact Blk.new w _ _
  have hE0 : Ext w W0 := by rw [hW0]; exact (Ext.refl w).alloc _
  obtain ⟨gr, hgr⟩ : ∃ gr, gr = w.heap.size := ⟨_, rfl⟩
  have HGR := Lib.hid hgr
  rw [← hgr] at hb0
  go_enter Tryz.func7, Tryz.ntmps7
  by_cases h8 : m < 8
  · have hi : (m : Int) < 8 := by omega
    have HD : Hid (DecR l ⟨⟨#[]⟩, [], [], []⟩ 4) := rdec_no fun d hv he hd => by
      have h9 := hd.l8
      rw [← HL.out] at h9
      omega
    go_wp2_with fail
    rw [← hW0, ← hgr]
    refine bodyPost_ret (results_cell_row_tmpD rfl _ _ gr 28 #[.string ⟨#[]⟩, .slice none 0 0, .slice none 0 0, .slice none 0 0] (0, 0) _ rfl hb0 Tryz.underlying28 rfl info_cat4D) rfl ?_
    exact ⟨⟨catZ, 4, rfl, HD.out, catZ_W _, fun z hz => (by cases hz)⟩, hE0⟩
  have hi : ¬ (m : Int) < 8 := by omega
  have hm8 : 8 ≤ m := by omega
  obtain ⟨A2, hx1, hx2, hr3, hs3, hx3⟩ := cut_run (hs.ext hE0) (i := 0) (j := 4) (by omega) (by omega) hmc
  simp only [Nat.sub_zero, List.drop_zero] at hr3 hs3
  have q1 : ∀ W, (Instr.sliceAt 22 (.slice A m c) none (some (.int .i64 4)) none).run Tryz.prog W = .ok (.slice A2 4 c) W := fun W => (hr3 W .i64 4 trivial rfl).1
  have q2 : ∀ W, (Instr.slice 22 (.slice A m c) none (some (.int .i64 4)) none).run Tryz.prog W = .ok (.slice A2 4 c) W := fun W => (hr3 W .i64 4 trivial rfl).2
  have hcv := conv_str hs3 c
  have i4 : (4 : Int) ≤ (m : Int) := by omega
  clear hr3 hs3 hx1 hx2 hx3
  by_cases hmg : l.take 4 = magicB
  case neg =>
    have HD : Hid (DecR l ⟨⟨#[]⟩, [], [], []⟩ 4) := rdec_no fun d hv he hd => hmg hd.mag
    obtain ⟨s, hse⟩ : ∃ s, s = str (l.take 4) := ⟨_, rfl⟩
    have hne : (s.toList == [67, 81, 66, 49]) = false := by
      rw [beq_eq_false_iff_ne]
      intro e
      refine hmg ?_
      rw [hse] at e
      rw [ByteArray.toList_eq, show (str (l.take 4)).data.toList = l.take 4 from bys_str _] at e
      exact e
    rw [← hse, hW0] at hcv
    clear hmg hse
    go_wp2_with fail
    rw [← hW0, ← hgr]
    refine bodyPost_ret (results_cell_row_tmpD rfl _ _ gr 28 #[.string ⟨#[]⟩, .slice none 0 0, .slice none 0 0, .slice none 0 0] (0, 0) _ rfl hb0 Tryz.underlying28 rfl info_cat4D) rfl ?_
    exact ⟨⟨catZ, 4, rfl, HD.out, catZ_W _, fun z hz => (by cases hz)⟩, hE0⟩
  case pos =>
  rw [hmg, show str magicB = ⟨#[67, 81, 66, 49]⟩ from rfl, hW0] at hcv
  clear hmg
  obtain ⟨A8, hx1, hr8, hx2, hs8, hx3⟩ := cut_run (hs.ext hE0) (i := 8) (j := m) hm8 (Nat.le_refl _) hmc
  have q3 : ∀ W, (Instr.sliceAt 22 (.slice A m c) (some (.int .i64 8)) none none).run Tryz.prog W = .ok (.slice A8 (m - 8) (c - 8)) W := fun W => (hr8 W .i64 8 rfl rfl).1
  have q4 : ∀ W, (Instr.slice 22 (.slice A m c) (some (.int .i64 8)) none none).run Tryz.prog W = .ok (.slice A8 (m - 8) (c - 8)) W := fun W => (hr8 W .i64 8 rfl rfl).2
  rw [List.take_of_length_le (by rw [← HL.out]; exact Nat.le_refl _)] at hs8
  have hszW : W0.heap.size = gr + 1 := by rw [hW0, hgr]; simp
  have hn0 : OsB (W0.alloc (.cells #[] 5)) W0.heap.size (some ⟨gr + 1, 0, none⟩) 0 0 [] := by
    have h9 := OsB.new_ W0 W0.heap.size (Nat.le_refl _) [] (by simp) _ rfl 0 rfl
    rw [show (⟨W0.heap.size, 0, none⟩ : Addr) = ⟨gr + 1, 0, none⟩ by rw [hszW]] at h9
    exact h9
  clear hr8 hx1 hx2 hx3 hszW
  go_wp2_with (first
    | (at_builtin; refine Hid.out ?_))
  rw [← hW0, ← hgr]
  clear hW0 hgr hcv q1 q2 q3 q4
  refine Hid.mk_ ?_
  refine appB rfl _ _ rfl hn0 rfl (hs8.ext ((Ext.refl _).alloc _)) rfl (by omega) (by simp) ?_
  intro A1 m1 c1 wa ho1 hga hata
  have hEa : Ext W0 wa := ((Ext.refl W0).alloc _).grown hga hn0.ge
  rw [List.nil_append] at ho1
  have hm1e : m1 = m - 8 := by rw [ho1.len, ← hs8.len]
  have hm1 : m1 ≤ 8796093000000 := by omega
  have hm1m : m1 ≤ m := by omega
  clear hga hata hn0 hs8 hm1e
  obtain ⟨wq, hwq⟩ : ∃ wq, wq = wa.alloc (Obj.cells #[.slice A1 m1 c1, .int .i64 0, .bool false] 58) := ⟨_, rfl⟩
  obtain ⟨g1, hg1e⟩ : ∃ g1, g1 = wa.heap.size := ⟨_, rfl⟩
  have hEq : Ext wa wq := by rw [hwq]; exact (Ext.refl _).alloc _
  have hRq : RRdr wq g1 A1 m1 c1 (l.drop 8) 0 false := by
    refine ⟨by rw [hwq, hg1e]; exact Blk.new wa _ _, ho1.sl.ext hEq, ?_, Nat.zero_le _, ho1.cap, fun k hk => by have h1 := ho1.lt k (obm_ob hk); have h2 := hEq.size_le; omega⟩
    cases hA : obm m1 A1 with
    | none => exact .inl rfl
    | some k => exact .inr (fun e => by injection e with e; have := ho1.lt k (obm_ob hA); omega)
  have hE0q := hEa.trans hEq
  have hg1 : W0.heap.size ≤ g1 := by rw [hg1e]; exact hEa.size_le
  clear ho1
  go_wp2_with (first
    | (go_at_call 27; refine Hid.out ?_))
  rw [← hwq, ← hg1e]
  clear hwq hg1e
  refine Hid.mk_ ((refString_any hRq).mono ?_)
  rintro e w3 ⟨rfl, hR3, hg3⟩
  have hE03 : Ext W0 w3 := hE0q.grown hg3 (fun k hk => by cases hk; exact hg1)
  have HBL : Hid ((l.drop 8).length ≤ 140737488351232) := by show _ ≤ _; rw [List.length_drop, ← HL.out]; omega
  obtain ⟨s1, p1, f1, hS⟩ : ∃ s p' f', hdT l = (s, p', f') := ⟨_, _, _, rfl⟩
  have HS1 := Lib.hid hS
  unfold hdT at hS
  rw [hS] at hR3 ⊢
  dsimp only at hR3 ⊢
  have HG1 : Hid (GoodStr (str s1)) := by
    have h9 := stepS_le (l.drop 8) 0 false
    rw [hS] at h9
    show (str s1).size ≤ _
    rw [str_size]
    exact Nat.le_trans h9 HBL.out
  obtain ⟨bs, hbs⟩ : ∃ bs, bs = l.drop 8 := ⟨_, rfl⟩
  rw [← hbs] at hR3 HBL
  have HBS := Lib.hid hbs
  have HST1 : Hid (∀ l : List UInt8, l.length ≤ 140737488351232 → GoodStr (str l)) := fun l hl => by
    show (str l).size ≤ _
    rw [str_size]
    exact hl
  have HSTR : Hid (∀ l : List (List UInt8), (∀ s ∈ l, s.length ≤ 140737488351232) → ∀ s ∈ l.map str, GoodStr s) := fun l hl s hs => by
    obtain ⟨t, ht, rfl⟩ := List.mem_map.1 hs
    exact HST1.out t (hl t ht)
  clear hS hbs hRq hg3
  go_wp2_with (first
    | (go_at_call 28; refine Hid.out ?_))
  refine Hid.mk_ ((refStrings_any 20 hR3 hm1).mono ?_)
  rintro e w4 ⟨A4, m4, c4, rfl, ho4, hR4, hg4⟩
  have hle := stepL_le bs p1 f1 20
  obtain ⟨l4, p4, f4, hS⟩ : ∃ s p' f', stepL 20 bs p1 f1 = (s, p', f') := ⟨_, _, _, rfl⟩
  rw [show ((20 : Nat) : Int) = 20 from rfl, hS] at hle
  rw [hS] at hR4 ho4
  dsimp only at hR4 ho4 hle
  have HS4 : Hid (hdC l = (l4, p4, f4)) := by show _ = _; unfold hdC; rw [HS1.out, ← HBS.out]; exact hS
  have hw34 := hg4.size
  have hE04 : Ext W0 w4 := hE03.grown hg4 (fun k hk => by cases hk; exact hg1)
  have hg13 : g1 < w3.heap.size := hR3.blk.lt
  have hEb : Ext w4 (w4.alloc (Obj.cells #[.string (str s1), .slice A4 m4 c4, .slice none 0 0, .slice none 0 0] 28)) := (Ext.refl _).alloc _
  have hI : RdSt 58 28 w4 (w4.alloc (Obj.cells #[.string (str s1), .slice A4 m4 c4, .slice none 0 0, .slice none 0 0] 28)) g1 w4.heap.size #[.string (str s1), .slice A4 m4 c4, .slice none 0 0, .slice none 0 0] A1 m1 c1 bs p4 f4 :=
    ⟨Blk.new w4 _ _, hR4.ext hEb, hEb.grownBy _, Nat.le_refl _, hR4.blk.lt, hR4.alt⟩
  have hH4 : NewH strF 1 16 GoodStr w3.heap.size (w4.alloc (Obj.cells #[.string (str s1), .slice A4 m4 c4, .slice none 0 0, .slice none 0 0] 28)) w4.heap.size ⟨A4, m4, c4⟩ (l4.map str) :=
    ⟨(ho4.hw (by rw [List.length_map]; exact hle.1) (HSTR.out _ fun s hs => Nat.le_trans (hle.2 s hs) HBL.out)).ext hEb, apart_of_lt ho4.lt (fun j hj => by cases hj; exact Nat.le_refl _), ho4.ge⟩
  have hl4 : ∀ k, ob A4 = some k → k < w4.heap.size := ho4.lt
  obtain ⟨g7, hg7⟩ : ∃ g7, g7 = w4.heap.size := ⟨_, rfl⟩
  rw [← hg7] at hI hH4
  have HG7 : Hid (W0.heap.size ≤ g7) := by show _ ≤ _; have h9 := hE03.size_le; omega
  clear hS hle ho4 hR4 hg4 hR3
  go_wp2_with (first
    | (go_at_call 29; refine Hid.out ?_))
  rw [← hg7]
  refine Hid.mk_ ((rreadF_any hI.rd).mono ?_)
  clear hg7
  rintro e w5 ⟨⟨A5, m5, c5, rfl, ho5⟩, hR5, hg5⟩
  have hle := stepF_le bs p4 f4
  obtain ⟨l5, p5, f5, hS⟩ : ∃ s p' f', stepF bs p4 f4 = (s, p', f') := ⟨_, _, _, rfl⟩
  rw [hS] at hle hR5 ho5
  dsimp only at hR5 ho5 hle
  have HS5 : Hid (hdF l = (l5, p5, f5)) := by show _ = _; unfold hdF; rw [HS4.out, ← HBS.out]; exact hS
  have hH5 : NewH fdC 2 32 GoodFd w3.heap.size w5 g7 ⟨A5, m5, c5⟩ l5 := ⟨ho5.fds hle.1 (fun x hx => ⟨Nat.le_trans (hle.2 x hx).1 HBL.out, Nat.le_trans (hle.2 x hx).2 HBL.out⟩), apart_ge ho5.ge hI.blk.lt, fun k hk => Nat.le_trans hw34 (Nat.le_trans hEb.size_le (ho5.ge k hk))⟩
  have hl5 : ∀ k, ob A5 = some k → k < w5.heap.size := ho5.lt
  have hw45 : w4.heap.size ≤ w5.heap.size := Nat.le_trans hEb.size_le hg5.size
  have hl45 : ∀ k, ob A4 = some k → k < w5.heap.size := fun k hk => Nat.lt_of_lt_of_le (hl4 k hk) hw45
  have hI5 := hI.call hR5 hg5
  have hH4 := hH4.call hg5 hg13
  have s_ : w5.cell? ⟨g7, 2, none⟩ = some (.slice none 0 0 : Value) := hI5.blk.cell 2
  have t_ := hI5.blk.frozen 2
  have hJ5 := hI5.set_ 2 (.slice A5 m5 c5)
  have hH4 := hH4.set_ 2 (.slice A5 m5 c5)
  have hH5 := hH5.set_ 2 (.slice A5 m5 c5)
  clear hS hle ho5 hR5 hg5 hI hEb hw45
  go_wp2_with (first
    | (go_at_call 30; refine Hid.out ?_))
  clear s_ t_ hI5
  refine Hid.mk_ ((refBounded_any 0 1000 hJ5.rd).mono ?_)
  rintro e w6 ⟨rfl, hR6, hg6⟩
  have hbd := stepB_bd bs p5 f5 1000
  obtain ⟨n6, p6, f6, hS⟩ : ∃ n p' f', stepB 0 1000 bs p5 f5 = (n, p', f') := ⟨_, _, _, rfl⟩
  rw [show ((1000 : Nat) : Int) = 1000 from rfl, hS] at hbd
  rw [hS] at hR6 ⊢
  dsimp only at hR6 hbd ⊢
  obtain ⟨n, rfl⟩ : ∃ n : Nat, n6 = n := ⟨n6.toNat, by omega⟩
  have hn : n ≤ 1000 := by omega
  have HS6 : Hid (hdN l = ((n : Int), p6, f6)) := by show _ = _; unfold hdN; rw [HS5.out, ← HBS.out]; exact hS
  have HRB : Hid (rhdB l = restB bs p6 f6) := by show _ = _; unfold rhdB; rw [HS6.out, HBS.out]
  have HRS : Hid (rbs l = (restB bs p6 f6).drop (8 * n)) := by show _ = _; unfold rbs; rw [HRB.out, HS6.out]; rfl
  have hI6 := hJ5.call hR6 hg6
  have hH4 := hH4.call hg6 hg13
  have hH5 := hH5.call hg6 hg13
  have hw56 : w5.heap.size ≤ w6.heap.size := by have h2 := hg6.size; simpa [World.setCell] using h2
  have hl46 : ∀ k, ob A4 = some k → k < w6.heap.size := fun k hk => Nat.lt_of_lt_of_le (hl45 k hk) hw56
  have hl56 : ∀ k, ob A5 = some k → k < w6.heap.size := fun k hk => Nat.lt_of_lt_of_le (hl5 k hk) hw56
  have hE06 : Ext W0 w6 := hE04.grown hI6.gr (fun k hk => by cases hk; exact hg1)
  clear hbd hS hR6 hg6 hJ5 hl4 hl5 hl45 hw56
  go_wp2_with (first
    | (go_at_call 31; refine Hid.out ?_))
  refine Hid.mk_ ((rest_any hI6.rd).mono ?_)
  rintro e w7 ⟨AT, mT, cT, rfl, hsT, hmTc, hmTm, hE7⟩
  by_cases hov : mT < 8 * n
  · have hi : (mT : Int) < 8 * (n : Int) := by omega
    have HD : Hid (DecR l ⟨⟨#[]⟩, [], [], []⟩ 4) := rdec_no fun d hv he hd => by
      have h9 := hd.rest
      rw [HRB.out, HS6.out, ← hsT.len] at h9
      dsimp only at h9
      rw [Int.toNat_natCast] at h9
      omega
    have hE07 := hE06.trans hE7
    clear hI6 hH4 hH5 hsT hmTc hmTm hov
    have hrb := hb0.below hE07 hb0.lt
    have k0 := hrb.cell 0
    have k1 := hrb.cell 1
    have k2 := hrb.cell 2
    have k3 := hrb.cell 3
    have k4 := hrb.frozen 0
    have k5 := hrb.frozen 1
    have k6 := hrb.frozen 2
    have k7 := hrb.frozen 3
    have HBR : Hid (Blk _ gr 28 _) := hrb
    have HEZ : Hid (Ext w _) := hE0.trans hE07
    clear hrb hb0
    go_wp2
    refine bodyPost_ret (results_cell_row_tmpD rfl _ _ gr 28 #[.string ⟨#[]⟩, .slice none 0 0, .slice none 0 0, .slice none 0 0] (0, 0) _ rfl ((((HBR.out.set_ 0 _).set_ 1 _).set_ 2 _).set_ 3 _) Tryz.underlying28 rfl info_cat4D) rfl ?_
    refine ⟨⟨catZ, 4, rfl, HD.out, catZ_W _, fun z hz => (by cases hz)⟩, ?_⟩
    iterate 4 refine Ext.set_ ?_ (by show w.heap.size ≤ gr; rw [HGR.out]; exact Nat.le_refl _) _
    exact HEZ.out
  have hi : ¬ (mT : Int) < 8 * (n : Int) := by omega
  obtain ⟨A9, hx1, hr9, hx2, hs9, hx3⟩ := cut_run hsT (i := 8 * n) (j := mT) (by omega) (Nat.le_refl _) hmTc
  rw [List.take_of_length_le (by rw [← hsT.len]; exact Nat.le_refl _), ← HRS.out] at hs9
  obtain ⟨m9, hm9⟩ : ∃ x, x = mT - 8 * n := ⟨_, rfl⟩
  obtain ⟨c9, hc9⟩ : ∃ x, x = cT - 8 * n := ⟨_, rfl⟩
  rw [← hm9] at hr9 hs9
  rw [← hc9] at hr9
  have q1 : ∀ W, (Instr.sliceAt 22 (.slice AT mT cT) (some (.int .i64 (8 * (n : Int)))) none none).run Tryz.prog W = .ok (.slice A9 m9 c9) W := fun W => (hr9 W .i64 _ (by omega) rfl).1
  have q2 : ∀ W, (Instr.slice 22 (.slice AT mT cT) (some (.int .i64 (8 * (n : Int)))) none none).run Tryz.prog W = .ok (.slice A9 m9 c9) W := fun W => (hr9 W .i64 _ (by omega) rfl).2
  have hi2 : 8 * (n : Int) ≤ (mT : Int) := by omega
  have hm9le : m9 ≤ m := by omega
  clear hr9 hx1 hx2 hx3 hm9 hc9 hov hmTc hmTm hsT
  go_wp2_with (first
    | (at_builtin; refine Hid.out ?_))
  refine Hid.mk_ ?_
  refine appB rfl _ _ rfl (OsB.new_ w7 w7.heap.size (Nat.le_refl _) [] (by simp) _ rfl 0 rfl) rfl (hs9.ext ((Ext.refl _).alloc _)) rfl (by omega) (by simp) ?_
  intro A2 m2 c2 wn hon hgn hatn
  have hEn : Ext w7 wn := ((Ext.refl w7).alloc _).grown hgn (by intro k hk; simp [ob] at hk; omega)
  rw [List.nil_append] at hon
  have hm2e : m2 = m9 := by rw [hon.len, ← hs9.len]
  have hm2 : m2 ≤ 8796093000000 := by omega
  clear hgn hatn hm2e hs9 q1 q2 hi2
  obtain ⟨w8, hw8⟩ : ∃ w8, w8 = wn.alloc (Obj.cells #[.slice A2 m2 c2, .int .i64 0, .bool false] 58) := ⟨_, rfl⟩
  obtain ⟨g2, hg2e⟩ : ∃ g2, g2 = wn.heap.size := ⟨_, rfl⟩
  have hE8n : Ext wn w8 := by rw [hw8]; exact (Ext.refl _).alloc _
  have hA2 : ∀ k, ob A2 = some k → w6.heap.size ≤ k ∧ k < g2 := fun k hk => ⟨Nat.le_trans hE7.size_le (hon.ge k hk), by rw [hg2e]; exact hon.lt k hk⟩
  obtain ⟨b2, hb2⟩ : ∃ b2, b2 = rbs l := ⟨_, rfl⟩
  rw [← hb2] at hon
  have HB2 := Lib.hid hb2
  have hR8 : RRdr w8 g2 A2 m2 c2 b2 0 false := by
    refine ⟨by rw [hw8, hg2e]; exact Blk.new wn _ _, hon.sl.ext hE8n, ?_, Nat.zero_le _, hon.cap, fun k hk => by have h1 := hon.lt k (obm_ob hk); have h2 := hE8n.size_le; omega⟩
    cases hA : obm m2 A2 with
    | none => exact .inl rfl
    | some k => exact .inr (fun e => by injection e with e; have := (hA2 k (obm_ob hA)).2; omega)
  have hE8 : Ext w6 w8 := (hE7.trans hEn).trans hE8n
  have hg2 : w6.heap.size ≤ g2 := by rw [hg2e]; exact (hE7.trans hEn).size_le
  have hg7lt := hI6.blk.lt
  have hb7 : Blk w8 g7 28 #[.string (str s1), .slice A4 m4 c4, .slice A5 m5 c5, .slice none 0 0] := hI6.blk.below hE8 hg7lt
  have HN4 := Lib.hid hH4.ne
  have HN5 := Lib.hid hH5.ne
  have HGE4 := Lib.hid hH4.ge
  have HGE5 := Lib.hid hH5.ge
  have HGR3 : Hid (gr < w3.heap.size) := by show _ < _; exact Nat.lt_of_lt_of_le hb0.lt hE03.size_le
  have HW8 : Hid (w.heap.size ≤ w8.heap.size) := Nat.le_trans hE0.size_le (Nat.le_trans hE06.size_le hE8.size_le)
  have HGR8 : Hid (gr < w8.heap.size) := by show _ < _; exact Nat.lt_of_lt_of_le hb0.lt (Nat.le_trans hE06.size_le hE8.size_le)
  have HE06 := Lib.hid hE06
  have hH4 := hH4.hw.ext hE8
  have hH5 := hH5.hw.ext hE8
  have hap4 : ∀ r : Option Nat, (∀ j, r = some j → w6.heap.size ≤ j) → Apart r ⟨A4, m4, c4⟩ := fun r hr => apart_of_lt hl46 hr
  have hap5 : ∀ r : Option Nat, (∀ j, r = some j → w6.heap.size ≤ j) → Apart r ⟨A5, m5, c5⟩ := fun r hr => apart_of_lt hl56 hr
  have hne27 : g2 ≠ g7 := by omega
  have hlt2 : g2 < w8.heap.size := hR8.blk.lt
  have hlt7 : g7 < w8.heap.size := hb7.lt
  have HS68 : Hid (w6.heap.size ≤ w8.heap.size) := hE8.size_le
  have hD0 : DLoop 58 stepI b2 w8.heap.size g2 g7 A2 m2 c2 w8 0 none 0 0 [] 0 false := ⟨rfl, OsC.nil_ entC_len entC_cell, hR8, (fun z hz => by cases hz), Nat.le_refl _, hlt2, hlt7, hne27, fun k hk => ⟨hR8.alt k hk, fun e => by have h1 := (hA2 k (obm_ob hk)).1; omega⟩⟩
  go_wp2_with fail
  rw [← hw8, ← hg2e]
  clear hb2 hw8 hg2e hon hR8 hA2 hI6 hm9le hE7 hEn hE8n
  go_loopw [8, 9] (fun i _ wr => ∃ (q : Nat) (Ae : Option Addr) (me ce : Nat) (es : List Ent) (p : Nat) (f : Bool), q ≤ n ∧ i = .int .i64 q ∧ Hid (DLoop 58 stepI b2 w8.heap.size g2 g7 A2 m2 c2 wr q Ae me ce es p f) ∧ Hid (Blk wr g7 28 #[.string (str s1), .slice A4 m4 c4, .slice A5 m5 c5, .slice Ae me ce]) ∧
      Hid (StrsW wr ⟨A4, m4, c4⟩ (l4.map str)) ∧ Hid (FdsW wr ⟨A5, m5, c5⟩ l5) ∧ Hid (Ext W0 wr)) (fun i _ _ => n - (intOf i).toNat)
  case atStart => exact ⟨0, none, 0, 0, [], 0, false, Nat.zero_le _, rfl, hD0, hb7, hH4, hH5, HE06.out.trans hE8⟩
  case round =>
    obtain ⟨q, Ae, me, ce, es, p, f, hq, rfl, HDL, HB7, HH4, HH5, HEr⟩ := hrel
    by_cases hlt : q < n
    · have hi1 : (q : Int) < (n : Int) := by omega
      have hme : me ≤ 1000 := by rw [HDL.out.len]; omega
      have hszr := HDL.out.sz
      have hg2r : g2 < wr.heap.size := Nat.lt_of_lt_of_le hlt2 hszr
      have HBL2 : Hid (b2.length ≤ 140737488351232) := by show _ ≤ _; have h1 := HDL.out.rd.rd.len; omega
      go_wp2_with (first
        | (go_at_call 27; refine Hid.out ?_))
      refine Hid.mk_ ((refString_any HDL.out.rd).mono ?_)
      rintro e x1 ⟨rfl, hR1, hq1⟩
      obtain ⟨t1, u1, k1, hS⟩ : ∃ s p' f', stepS b2 p f = (s, p', f') := ⟨_, _, _, rfl⟩
      rw [hS] at hR1 ⊢
      dsimp only at hR1 ⊢
      have HT1 := Lib.hid hS
      clear hS
      go_wp2_with (first
        | (go_at_call 27; refine Hid.out ?_))
      refine Hid.mk_ ((refString_any hR1).mono ?_)
      rintro e x2 ⟨rfl, hR2, hq2⟩
      obtain ⟨t2, u2, k2, hS⟩ : ∃ s p' f', stepS b2 u1 k1 = (s, p', f') := ⟨_, _, _, rfl⟩
      rw [hS] at hR2 ⊢
      dsimp only at hR2 ⊢
      have HT2 := Lib.hid hS
      clear hS hR1
      go_wp2_with (first
        | (go_at_call 27; refine Hid.out ?_))
      refine Hid.mk_ ((refString_any hR2).mono ?_)
      rintro e x3 ⟨rfl, hR3, hq3⟩
      obtain ⟨t3, u3, k3, hS⟩ : ∃ s p' f', stepS b2 u2 k2 = (s, p', f') := ⟨_, _, _, rfl⟩
      rw [hS] at hR3 ⊢
      dsimp only at hR3 ⊢
      have HT3 := Lib.hid hS
      have hgr3 := (hq1.trans hq2).trans hq3
      clear hS hR2 hq1 hq2 hq3
      go_wp2_with (first
        | (go_at_call 28; refine Hid.out ?_))
      refine Hid.mk_ ((refStrings_any 20 hR3 hm2).mono ?_)
      rintro e x4 ⟨B4, a4, d4, rfl, ho4, hR4, hq4⟩
      have hle := stepL_le b2 u3 k3 20
      obtain ⟨t4, u4, k4, hS⟩ : ∃ s p' f', stepL 20 b2 u3 k3 = (s, p', f') := ⟨_, _, _, rfl⟩
      rw [show ((20 : Nat) : Int) = 20 from rfl, hS] at hle
      rw [hS] at hR4 ho4
      dsimp only at hR4 ho4 hle
      have HT4 := Lib.hid hS
      have hV4 : StrsW x4 ⟨B4, a4, d4⟩ (t4.map str) := ho4.hw (by rw [List.length_map]; exact hle.1) (HSTR.out _ fun s hs => Nat.le_trans (hle.2 s hs) HBL2.out)
      have hV4g : ∀ k, ob B4 = some k → wr.heap.size ≤ k := fun k hk => Nat.le_trans hgr3.size (ho4.ge k hk)
      have hV4l : ∀ k, ob B4 = some k → k < x4.heap.size := ho4.lt
      have hgr4 := hgr3.trans hq4
      clear hS hR3 hle ho4 hq4 hgr3
      go_wp2_with (first
        | (go_at_call 28; refine Hid.out ?_))
      refine Hid.mk_ ((refStrings_any 20 hR4 hm2).mono ?_)
      rintro e x5 ⟨B5, a5, d5, rfl, ho5, hR5, hq5⟩
      have hle := stepL_le b2 u4 k4 20
      obtain ⟨t5, u5, k5, hS⟩ : ∃ s p' f', stepL 20 b2 u4 k4 = (s, p', f') := ⟨_, _, _, rfl⟩
      rw [show ((20 : Nat) : Int) = 20 from rfl, hS] at hle
      rw [hS] at hR5 ho5
      dsimp only at hR5 ho5 hle
      have HT5 := Lib.hid hS
      have hV5 : StrsW x5 ⟨B5, a5, d5⟩ (t5.map str) := ho5.hw (by rw [List.length_map]; exact hle.1) (HSTR.out _ fun s hs => Nat.le_trans (hle.2 s hs) HBL2.out)
      have hV5g : ∀ k, ob B5 = some k → wr.heap.size ≤ k := fun k hk => Nat.le_trans hgr4.size (ho5.ge k hk)
      have hV5l : ∀ k, ob B5 = some k → k < x5.heap.size := ho5.lt
      have hV4 := hV4.kept hq5 (apart_ge hV4g hg2r)
      have hV4l : ∀ k, ob B4 = some k → k < x5.heap.size := fun k hk => Nat.lt_of_lt_of_le (hV4l k hk) hq5.size
      have hgr5 := hgr4.trans hq5
      clear hS hR4 hle ho5 hq5 hgr4
      go_wp2_with (first
        | (go_at_call 32; refine Hid.out ?_))
      refine Hid.mk_ ((refInt_any hR5).mono ?_)
      rintro e x6 ⟨rfl, hR6, hq6⟩
      have hbd := stepI_bd b2 u5 k5
      obtain ⟨n6, u6, k6, hS⟩ : ∃ s p' f', stepI b2 u5 k5 = (s, p', f') := ⟨_, _, _, rfl⟩
      rw [hS] at hR6 hbd ⊢
      dsimp only at hR6 hbd ⊢
      have HT6 := Lib.hid hS
      have HBD := Lib.hid hbd
      have hV4 := hV4.kept hq6 (apart_ge hV4g hg2r)
      have hV5 := hV5.kept hq6 (apart_ge hV5g hg2r)
      have hV4l : ∀ k, ob B4 = some k → k < x6.heap.size := fun k hk => Nat.lt_of_lt_of_le (hV4l k hk) hq6.size
      have hV5l : ∀ k, ob B5 = some k → k < x6.heap.size := fun k hk => Nat.lt_of_lt_of_le (hV5l k hk) hq6.size
      have hgr6 := hgr5.trans hq6
      clear hS hbd hR5 hq6 hgr5
      have hE6 : Ext x6 (x6.alloc (Obj.cells #[.string (str t1), .string (str t2), .string (str t3), .slice B4 a4 d4, .slice B5 a5 d5, .int .i64 n6, .slice none 0 0] 37)) := (Ext.refl _).alloc _
      have hI : RdSt 58 37 wr (x6.alloc (Obj.cells #[.string (str t1), .string (str t2), .string (str t3), .slice B4 a4 d4, .slice B5 a5 d5, .int .i64 n6, .slice none 0 0] 37)) g2 x6.heap.size #[.string (str t1), .string (str t2), .string (str t3), .slice B4 a4 d4, .slice B5 a5 d5, .int .i64 n6, .slice none 0 0] A2 m2 c2 b2 u6 k6 :=
        ⟨Blk.new x6 _ _, hR6.ext hE6, hgr6.trans (hE6.grownBy _), hgr6.size, hg2r, fun k hk => Nat.lt_of_lt_of_le (HDL.out.alt k hk).1 hszr⟩
      have hN4 : NewH strF 1 16 GoodStr wr.heap.size (x6.alloc (Obj.cells #[.string (str t1), .string (str t2), .string (str t3), .slice B4 a4 d4, .slice B5 a5 d5, .int .i64 n6, .slice none 0 0] 37)) x6.heap.size ⟨B4, a4, d4⟩ (t4.map str) := ⟨hV4.ext hE6, apart_of_lt hV4l (fun j hj => by cases hj; exact Nat.le_refl _), hV4g⟩
      have hN5 : NewH strF 1 16 GoodStr wr.heap.size (x6.alloc (Obj.cells #[.string (str t1), .string (str t2), .string (str t3), .slice B4 a4 d4, .slice B5 a5 d5, .int .i64 n6, .slice none 0 0] 37)) x6.heap.size ⟨B5, a5, d5⟩ (t5.map str) := ⟨hV5.ext hE6, apart_of_lt hV5l (fun j hj => by cases hj; exact Nat.le_refl _), hV5g⟩
      obtain ⟨g9, hg9⟩ : ∃ g9, g9 = x6.heap.size := ⟨_, rfl⟩
      rw [← hg9] at hI hN4 hN5
      clear hV4 hV5 hV4g hV5g hV4l hV5l hE6 hR6 hgr6
      go_wp2_with (first
        | (go_at_call 29; refine Hid.out ?_))
      rw [← hg9]
      refine Hid.mk_ ((rreadF_any hI.rd).mono ?_)
      clear hg9
      rintro e x7 ⟨⟨B7, a7, d7, rfl, ho7⟩, hR7, hq7⟩
      have hle := stepF_le b2 u6 k6
      obtain ⟨t7, u7, k7, hS⟩ : ∃ s p' f', stepF b2 u6 k6 = (s, p', f') := ⟨_, _, _, rfl⟩
      rw [hS] at hle hR7 ho7
      dsimp only at hR7 ho7 hle
      have HT7 := Lib.hid hS
      have hN7 : NewH fdC 2 32 GoodFd wr.heap.size x7 g9 ⟨B7, a7, d7⟩ t7 := ⟨ho7.fds hle.1 (fun x hx => ⟨Nat.le_trans (hle.2 x hx).1 HBL2.out, Nat.le_trans (hle.2 x hx).2 HBL2.out⟩), apart_ge ho7.ge hI.blk.lt, fun k hk => Nat.le_trans hI.gr.size (ho7.ge k hk)⟩
      have hI7 := hI.call hR7 hq7
      have hN4 := (hN4.call hq7 hg2r).set_ 6 (.slice B7 a7 d7)
      have hN5 := (hN5.call hq7 hg2r).set_ 6 (.slice B7 a7 d7)
      have hN7 := hN7.set_ 6 (.slice B7 a7 d7)
      have v0 : _ = some (.string (str t1) : Value) := hI7.blk.cell 0
      have v1 : _ = some (.string (str t2) : Value) := hI7.blk.cell 1
      have v2 : _ = some (.string (str t3) : Value) := hI7.blk.cell 2
      have v3 : _ = some (.slice B4 a4 d4 : Value) := hI7.blk.cell 3
      have v4 : _ = some (.slice B5 a5 d5 : Value) := hI7.blk.cell 4
      have v5 : _ = some (.int .i64 n6 : Value) := hI7.blk.cell 5
      have v6 : _ = some (.slice none 0 0 : Value) := hI7.blk.cell 6
      have v7 := hI7.blk.frozen 6
      have hn72 : some g7 ≠ some g2 := fun e => by injection e with e; exact hne27 e.symm
      have X37 : x7.cell? ⟨g7, 3, none⟩ = some (.slice Ae me ce) := (HB7.out.grown hI7.gr hn72).cell 3
      have hg79 : g7 < g9 := Nat.lt_of_lt_of_le hlt7 (Nat.le_trans hszr hI7.ge)
      have hJ7 := hI7.set_ 6 (.slice B7 a7 d7)
      obtain ⟨x, hxd⟩ : ∃ x : Ent, x = ⟨⟨str t1, str t2, str t3, t4.map str, t5.map str, n6, t7⟩, ⟨B4, a4, d4⟩, ⟨B5, a5, d5⟩, ⟨B7, a7, d7⟩⟩ := ⟨_, rfl⟩
      have hxW : EntW (x7.setCell ⟨g9, 6, none⟩ (.slice B7 a7 d7)) x := by
        rw [hxd]
        exact ⟨hN4.hw, hN5.hw, hN7.hw, HST1.out _ (Nat.le_trans (by have h9 := stepS_le b2 p f; rw [HT1.out] at h9; exact h9) HBL2.out), HST1.out _ (Nat.le_trans (by have h9 := stepS_le b2 u1 k1; rw [HT2.out] at h9; exact h9) HBL2.out), HST1.out _ (Nat.le_trans (by have h9 := stepS_le b2 u2 k2; rw [HT3.out] at h9; exact h9) HBL2.out), HBD.out⟩
      have hge4 := hN4.ge
      have hge5 := hN5.ge
      have hge7 := hN7.ge
      have hxA : ∀ j, j < wr.heap.size → EntA (some j) x := fun j hj => by rw [hxd]; exact ⟨apart_ge hge4 hj, apart_ge hge5 hj, apart_ge hge7 hj⟩
      have HSTE : Hid (stepE stepI b2 p f = (x.p, u7, k7)) := by
        show _ = _
        unfold stepE
        rw [HT1.out]; dsimp only
        rw [HT2.out]; dsimp only
        rw [HT3.out]; dsimp only
        rw [HT4.out]; dsimp only
        rw [HT5.out]; dsimp only
        rw [HT6.out]; dsimp only
        rw [HT7.out, hxd]
      have hEa : Ext (x7.setCell ⟨g9, 6, none⟩ (.slice B7 a7 d7)) ((x7.setCell ⟨g9, 6, none⟩ (.slice B7 a7 d7)).alloc (Obj.cells #[.string (str t1), .string (str t2), .string (str t3), .slice B4 a4 d4, .slice B5 a5 d5, .int .i64 n6, .slice B7 a7 d7] 37)) := (Ext.refl _).alloc _
      have hoa := (HDL.out.own.kept hJ7.gr HDL.out.ne2).ext hEa
      have hnew : SlC entC 7 ((x7.setCell ⟨g9, 6, none⟩ (.slice B7 a7 d7)).alloc (Obj.cells #[.string (str t1), .string (str t2), .string (str t3), .slice B4 a4 d4, .slice B5 a5 d5, .int .i64 n6, .slice B7 a7 d7] 37)) (some ⟨x7.heap.size, 0, none⟩) 1 [x] := by
        have h9 := SlC.new_ (cs := entC) (x7.setCell ⟨g9, 6, none⟩ (.slice B7 a7 d7)) [x] entC_len (by simp) #[.string (str t1), .string (str t2), .string (str t3), .slice B4 a4 d4, .slice B5 a5 d5, .int .i64 n6, .slice B7 a7 d7] (by rw [hxd]; rfl) (0, 0) 1 rfl 37
        rw [show (x7.setCell ⟨g9, 6, none⟩ (.slice B7 a7 d7)).heap.size = x7.heap.size by simp [World.setCell]] at h9
        exact h9
      have hba := Nat.le_trans hszr (Nat.le_trans hJ7.gr.size hEa.size_le)
      have HJ7 := Lib.hid hJ7
      have HXA := Lib.hid hxA
      have HXW := Lib.hid hxW
      clear hS hle ho7 hR7 hq7 hI hI7 hN4 hN5 hN7 hge4 hge5 hge7 hxA hxd hJ7 hxW
      go_wp2_with (first
        | (at_builtin; refine Hid.out ?_))
      refine Hid.mk_ ?_
      clear v0 v1 v2 v3 v4 v5 v6 v7
      refine appC einfo_ent rfl _ _ rfl hoa rfl hnew rfl (by omega) hba ?_
      intro A6 m6 c6 y4 ho6 hg6 hN6
      have hb6 := ((HB7.out.grown HJ7.out.gr hn72).below hEa (HB7.out.grown HJ7.out.gr hn72).lt).grown hg6 (fun e => HDL.out.ne7 e.symm)
      have s4 : y4.cell? ⟨g7, 3, none⟩ = some (.slice Ae me ce) := hb6.cell 3
      have t4_ := hb6.frozen 3
      have HDX : Hid (DLoop 58 stepI b2 w8.heap.size g2 g7 A2 m2 c2 (y4.setCell ⟨g7, 3, none⟩ (.slice A6 m6 c6)) (q + 1) A6 m6 c6 (es ++ [x]) (stepE stepI b2 p f).2.1 (stepE stepI b2 p f).2.2) :=
        HDL.out.step (Ext.refl _) (by rw [HSTE.out]; exact HJ7.out.rd) HJ7.out.gr (by rw [HSTE.out]) HXW.out HXA.out hEa ho6 hg6 hN6 (grown_set1 y4 ⟨g7, 3, none⟩ (.slice A6 m6 c6))
      have HBX : Hid (Blk (y4.setCell ⟨g7, 3, none⟩ (.slice A6 m6 c6)) g7 28 #[.string (str s1), .slice A4 m4 c4, .slice A5 m5 c5, .slice A6 m6 c6]) := hb6.set_ 3 (.slice A6 m6 c6)
      have hr2 : ∀ j, some g2 = some j → w6.heap.size ≤ j := fun j hj => by cases hj; exact hg2
      have hrA : ∀ j, ob Ae = some j → w6.heap.size ≤ j := fun j hj => Nat.le_trans HS68.out (HDL.out.own.ge j hj)
      have HX4 : Hid (StrsW (y4.setCell ⟨g7, 3, none⟩ (.slice A6 m6 c6)) ⟨A4, m4, c4⟩ (l4.map str)) := (((HH4.out.kept HJ7.out.gr (hap4 _ hr2)).ext hEa).kept hg6 (hap4 _ hrA)).kept (grown_set1 y4 ⟨g7, 3, none⟩ (.slice A6 m6 c6)) HN4.out
      have HX5 : Hid (FdsW (y4.setCell ⟨g7, 3, none⟩ (.slice A6 m6 c6)) ⟨A5, m5, c5⟩ l5) := (((HH5.out.kept HJ7.out.gr (hap5 _ hr2)).ext hEa).kept hg6 (hap5 _ hrA)).kept (grown_set1 y4 ⟨g7, 3, none⟩ (.slice A6 m6 c6)) HN5.out
      have HXE : Hid (Ext W0 (y4.setCell ⟨g7, 3, none⟩ (.slice A6 m6 c6))) := ((((HEr.out.grown HJ7.out.gr (fun j hj => Nat.le_trans HE06.out.size_le (hr2 j hj))).trans hEa).grown hg6 (fun j hj => Nat.le_trans HE06.out.size_le (hrA j hj))).grown (grown_set1 y4 ⟨g7, 3, none⟩ (.slice A6 m6 c6)) (fun j hj => by cases hj; exact HG7.out))
      clear hb6 hoa hnew hba X37 hEa ho6 hg6 hN6 hr2 hrA HJ7 HXA HXW
      go_wp2
      go_roundw
      case rel => exact ⟨q + 1, A6, m6, c6, es ++ [x], _, _, by omega, by go_num, HDX, HBX, HX4, HX5, HXE⟩
      case measure => simp [intOf]; omega
    · have hi1 : ¬ (q : Int) < (n : Int) := by omega
      have hqe : q = n := by omega
      have hme : me ≤ 1000 := by rw [HDL.out.len]; omega
      obtain ⟨y, hy⟩ : ∃ y : Cat, y = ⟨str s1, l4.map str, l5, es, ⟨A4, m4, c4⟩, ⟨A5, m5, c5⟩, ⟨Ae, me, ce⟩⟩ := ⟨_, rfl⟩
      have hyW : CatW wr y := by
        rw [hy]
        exact ⟨HG1.out, HH4.out, HH5.out, ⟨HDL.out.own.sl, HDL.out.own.cap, by show me * 128 ≤ _; omega, fun z hz => (HDL.out.each z hz).1⟩⟩
      have HBD : Hid (rbdE l = (y.es.map Ent.p, p, f)) := by
        show _ = _
        unfold rbdE
        rw [HS6.out, ← HB2.out]
        show stepEs stepI b2 0 false (n : Int).toNat = _
        rw [Int.toNat_natCast, ← hqe, HDL.out.st, hy]
      have HDC : Hid (rdecC l = y.p) := by
        show _ = _
        unfold rdecC
        rw [HBD.out, HS1.out, HS4.out, HS5.out, hy]
        rfl
      have HIDY : Hid (catV y = .agg #[.string (str s1), .slice A4 m4 c4, .slice A5 m5 c5, .slice Ae me ce]) := by show _ = _; rw [hy]; rfl
      have henc := rencode_any hyW
      rw [HIDY.out] at henc
      have e0 : wr.cell? ⟨g7, 0, none⟩ = some (.string (str s1)) := HB7.out.cell 0
      have e1 : wr.cell? ⟨g7, 1, none⟩ = some (.slice A4 m4 c4) := HB7.out.cell 1
      have e2 : wr.cell? ⟨g7, 2, none⟩ = some (.slice A5 m5 c5) := HB7.out.cell 2
      have e3 : wr.cell? ⟨g7, 3, none⟩ = some (.slice Ae me ce) := HB7.out.cell 3
      have HY := Lib.hid hy
      clear hqe hy
      go_wp2_with (first
        | (go_at_call 33; refine Hid.out ?_))
      refine Hid.mk_ (henc.mono ?_)
      rintro e w10 ⟨⟨AX, mX, cX, code, L, rfl, hoX, hRX⟩, hE10⟩
      clear henc e0 e1 e2 e3
      have HRX := Lib.hid hRX
      have hE0Y : Ext W0 w10 := HEr.out.trans hE10
      clear hRX
      rcases HRX.out with ⟨hv, hcode, hLc⟩ | ⟨hv, hcode, hLc⟩
      case inr =>
        subst hcode
        have HD : Hid (DecR l ⟨⟨#[]⟩, [], [], []⟩ 4) := rdec_no fun d hv2 he hd => by
          have h9 := hd.dec
          rw [HDC.out] at h9
          rw [← h9, hv] at hv2
          cases hv2
        clear hv hLc
        have hrb := hb0.below hE0Y hb0.lt
        have k0 := hrb.cell 0
        have k1 := hrb.cell 1
        have k2 := hrb.cell 2
        have k3 := hrb.cell 3
        have k4 := hrb.frozen 0
        have k5 := hrb.frozen 1
        have k6 := hrb.frozen 2
        have k7 := hrb.frozen 3
        have HBR : Hid (Blk _ gr 28 _) := hrb
        have HEZ : Hid (Ext w _) := hE0.trans hE0Y
        clear hrb hb0
        go_wp2
        refine bodyPost_ret (results_cell_row_tmpD rfl _ _ gr 28 #[.string ⟨#[]⟩, .slice none 0 0, .slice none 0 0, .slice none 0 0] (0, 0) _ rfl ((((HBR.out.set_ 0 _).set_ 1 _).set_ 2 _).set_ 3 _) Tryz.underlying28 rfl info_cat4D) rfl ?_
        refine ⟨⟨catZ, 4, rfl, HD.out, catZ_W _, fun z hz => (by cases hz)⟩, ?_⟩
        iterate 4 refine Ext.set_ ?_ (by show w.heap.size ≤ gr; rw [HGR.out]; exact Nat.le_refl _) _
        exact HEZ.out
      case inl =>
      subst hcode
      have HV := Lib.hid hv
      have HLC := Lib.hid hLc
      clear hv hLc
      go_wp2_with (first
        | (go_at_call 34; refine Hid.out ?_))
      refine Hid.mk_ ((sameB cX c hoX.sl (hs.ext (hE0.trans hE0Y))).mono ?_)
      rintro e w12 ⟨rfl, hE12⟩
      have hE0Z := hE0Y.trans hE12
      by_cases hq2 : L = l
      case neg =>
        rw [decide_eq_false hq2]
        have HD : Hid (DecR l ⟨⟨#[]⟩, [], [], []⟩ 4) := rdec_no fun d hv2 he hd => by
          have h9 := hd.dec
          rw [HDC.out] at h9
          rw [← h9, ← HLC.out] at he
          exact hq2 he
        clear hq2
        have hrb := hb0.below hE0Z hb0.lt
        have k0 := hrb.cell 0
        have k1 := hrb.cell 1
        have k2 := hrb.cell 2
        have k3 := hrb.cell 3
        have k4 := hrb.frozen 0
        have k5 := hrb.frozen 1
        have k6 := hrb.frozen 2
        have k7 := hrb.frozen 3
        have HBR : Hid (Blk _ gr 28 _) := hrb
        have HEZ : Hid (Ext w _) := hE0.trans hE0Z
        clear hrb hb0
        go_wp2
        refine bodyPost_ret (results_cell_row_tmpD rfl _ _ gr 28 #[.string ⟨#[]⟩, .slice none 0 0, .slice none 0 0, .slice none 0 0] (0, 0) _ rfl ((((HBR.out.set_ 0 _).set_ 1 _).set_ 2 _).set_ 3 _) Tryz.underlying28 rfl info_cat4D) rfl ?_
        refine ⟨⟨catZ, 4, rfl, HD.out, catZ_W _, fun z hz => (by cases hz)⟩, ?_⟩
        iterate 4 refine Ext.set_ ?_ (by show w.heap.size ≤ gr; rw [HGR.out]; exact Nat.le_refl _) _
        exact HEZ.out
      case pos =>
      rw [decide_eq_true hq2]
      have HD : Hid (DecR l y.p 0) := .inl ⟨rfl, HV.out, by rw [← HLC.out, hq2]⟩
      have hErz := hE10.trans hE12
      have hb7z := HB7.out.below hErz HB7.out.lt
      have e0 : w12.cell? ⟨g7, 0, none⟩ = some (.string (str s1)) := hb7z.cell 0
      have e1 : w12.cell? ⟨g7, 1, none⟩ = some (.slice A4 m4 c4) := hb7z.cell 1
      have e2 : w12.cell? ⟨g7, 2, none⟩ = some (.slice A5 m5 c5) := hb7z.cell 2
      have e3 : w12.cell? ⟨g7, 3, none⟩ = some (.slice Ae me ce) := hb7z.cell 3
      have hrb := hb0.below hE0Z hb0.lt
      have k0 := hrb.cell 0
      have k1 := hrb.cell 1
      have k2 := hrb.cell 2
      have k3 := hrb.cell 3
      have k4 := hrb.frozen 0
      have k5 := hrb.frozen 1
      have k6 := hrb.frozen 2
      have k7 := hrb.frozen 3
      have HBR : Hid (Blk _ gr 28 _) := hrb
      have HEZ : Hid (Ext w w12) := hE0.trans hE0Z
      have HYZ : Hid (CatW w12 y) := hyW.ext hErz
      have HYE : Hid (y.c = ⟨A4, m4, c4⟩ ∧ y.d = ⟨A5, m5, c5⟩ ∧ y.e = ⟨Ae, me, ce⟩ ∧ y.es = es) := by show _ ∧ _; rw [HY.out]; exact ⟨rfl, rfl, rfl, rfl⟩
      clear hrb hb0 hb7z hq2 hyW
      have hrow : ob Ae ≠ some gr := fun e => by have h1 := HDL.out.own.ge gr e; have h2 := HGR8.out; omega
      have HRE : Hid (Apart (some gr) (⟨Ae, me, ce⟩ : SlH)) := .inr (.inr hrow)
      clear hrow
      go_wp2
      refine bodyPost_ret (results_cell_row_tmpD rfl _ _ gr 28 #[.string (str s1), .slice A4 m4 c4, .slice A5 m5 c5, .slice Ae me ce] (0, 0) _ rfl ((((HBR.out.set_ 0 _).set_ 1 _).set_ 2 _).set_ 3 _) Tryz.underlying28 rfl info_cat4D) rfl ?_
      refine ⟨⟨y, 0, by rw [HIDY.out]; rfl, HD.out, ?_, fun z hz j hj => (HDL.out.each z (by rw [← HYE.out.2.2.2]; exact hz)).2.1 j (Nat.lt_of_lt_of_le hj HW8.out)⟩, ?_⟩
      · iterate 4 refine CatW.keptD ?_ (grown_set1 _ _ _) (by rw [HYE.out.1]; exact apart_ge HGE4.out HGR3.out) (by rw [HYE.out.2.1]; exact apart_ge HGE5.out HGR3.out) (by rw [HYE.out.2.2.1]; exact HRE.out) (by rw [HYE.out.2.2.2]; exact fun z hz => (HDL.out.each z hz).2.1 gr HGR8.out)
        exact HYZ.out
      · iterate 4 refine Ext.set_ ?_ (by show w.heap.size ≤ gr; rw [HGR.out]; exact Nat.le_refl _) _
        exact HEZ.out
end
end Go.Proofs.YtngpajaghadhdaaGreatDoor
