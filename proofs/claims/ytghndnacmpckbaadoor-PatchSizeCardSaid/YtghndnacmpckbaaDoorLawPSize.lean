/- If one range of the old bytes is replaced by k bytes, the patch has at most 250 + k bytes; for any bytes, at most 250 more than the new ones. No condition. -/
import Derived.Test.YtghndnacmpckbaaDoorPatL
import Derived.Test.YtghndnacmpckbaaDoorPatR
import Derived.ProofKit
import Derived.OpenShut
import Derived.ShutString
import Derived.ChangeOld
import Derived.SizedLaws
namespace Go.Proofs.YtghndnacmpckbaaDoor
open Go.ChangeShapes Go.WideShapes Go.ChangeAt Go.RowKit
set_option maxRecDepth 100000
attribute [local go_sem] ext_refl_t ext_alloc_t ext_drew_t ext_drewN_t ext_alloc2_t ext_alloc3_t ext_alloc4_t ext_alloc5_t ext_alloc6_t ext_alloc7_t ext_alloc8_t ext_alloc1d_t ext_alloc2d_t ext_alloc3d_t ext_alloc4d_t
theorem mid_repl {x B : List UInt8} {f t b e : Nat} (hft : f ≤ t) (ht : t ≤ x.length) (h : MkR x (x.take f ++ B ++ x.drop t) b e) : (mkMid (x.take f ++ B ++ x.drop t) b e).length ≤ B.length := by
  rw [mkMid_len h.e2]
  have hl : (x.take f ++ B ++ x.drop t).length = f + B.length + (x.length - t) := by
    rw [List.length_append, List.length_append, List.length_take, List.length_drop, Nat.min_eq_left (by omega)]
  have h1 := h.e1
  have h2 := h.e2
  rw [hl] at h2 ⊢
  have hb : f ≤ b := by
    apply Nat.le_of_not_lt
    intro hlt
    have i1 : b < x.length := by omega
    have i2 : b < (x.take f ++ B ++ x.drop t).length := by rw [hl]; omega
    have h3 := h.bmax i1 i2
    apply h3
    rw [List.getElem_append_left (by rw [List.length_append, List.length_take, Nat.min_eq_left (by omega)]; omega), List.getElem_append_left (by rw [List.length_take, Nat.min_eq_left (by omega)]; exact hlt), List.getElem_take]
  by_cases he : x.length - t ≤ e
  · omega
  · by_cases h3 : b + e < x.length
    · by_cases h4 : b + e < f + B.length + (x.length - t)
      · exfalso
        have h5 := h.emax h3 (by rw [hl]; exact h4)
        apply h5
        rw [hl, List.getElem?_append_right (by rw [List.length_append, List.length_take, Nat.min_eq_left (by omega)]; omega), List.getElem?_drop]
        congr 1
        rw [List.length_append, List.length_take, Nat.min_eq_left (by omega)]
        omega
      · omega
    · omega

set_option maxHeartbeats 3200000 in
theorem psize_walk {w : World} {A B D : Option Addr} {m k n c d r : Nat} {x y BY : List UInt8} (p q : Nat) (_hp : p < 65536) (_hq : q < 65536) (ha : SlB w A m x) (hb : SlB w B k y) (hby : SlB w D n BY) (hmc : m ≤ c) (hkd : k ≤ d) (_hnr : n ≤ r) (hT : Tb w) :
    Calls Tryd.prog 5 #[.slice A m c, .slice B k d, .agg #[.int .u16 p, .int .u16 q, .slice D n r]] w fun e w' => e = .returned (.bool true) ∧ Ext w w' := by
  have HX := Lib.hid ha.len
  have HY := Lib.hid hb.len
  have hEb : Ext w (w.alloc (Obj.cells #[.int .u16 p, .int .u16 q, .slice D n r] 33)) := (Ext.refl w).alloc _
  have hbk := Blk.new w 33 #[.int .u16 p, .int .u16 q, .slice D n r]
  have HF := Lib.hid (fun W => few_pat (w := W) (A := A) (B := B) (m := m) (k := k) c d)
  by_cases hf : m ≤ 1000 ∧ k ≤ 1000
  case neg =>
    have hfe : (decide (m ≤ 1000) && decide (k ≤ 1000)) = false := by simp; omega
    rw [hfe] at HF
    clear hfe hf
    go_enter Tryd.func5, Tryd.ntmps5
    go_wp2_with (first
      | (go_at_call 8; refine Hid.out ?_))
    refine Hid.mk_ ((awake_pat (hT.ext hEb)).mono ?_)
    rintro e w1 ⟨rfl, hE1⟩
    go_wp2_with (first
      | (go_at_call 9; refine Hid.out ?_))
    refine Hid.mk_ ((HF.out _).mono ?_)
    rintro e w2 ⟨rfl, hE2⟩
    go_wp2_with (first
      | (go_at_call 8; refine Hid.out ?_))
    refine Hid.mk_ ((awake_pat (((hT.ext hEb).ext hE1).ext hE2)).mono ?_)
    rintro e w3 ⟨rfl, hE3⟩
    go_wp2
    go_ret
    exact ⟨rfl, ((hEb.trans hE1).trans hE2).trans hE3⟩
  case pos =>
    obtain ⟨hm, hk⟩ := hf
    rw [decide_eq_true hm, decide_eq_true hk] at HF
    go_enter Tryd.func5, Tryd.ntmps5
    go_wp2_with (first
      | (go_at_call 8; refine Hid.out ?_))
    refine Hid.mk_ ((awake_pat (hT.ext hEb)).mono ?_)
    rintro e w1 ⟨rfl, hE1⟩
    go_wp2_with (first
      | (go_at_call 9; refine Hid.out ?_))
    refine Hid.mk_ ((HF.out _).mono ?_)
    rintro e w2 ⟨rfl, hE2⟩
    have hE02 := (hEb.trans hE1).trans hE2
    have hb3 := hbk.below (hE1.trans hE2) hbk.lt
    obtain ⟨g, hg⟩ : ∃ g, g = w.heap.size := ⟨_, rfl⟩
    rw [← hg] at hb3 ⊢
    clear hg hbk HF
    have k0 : w2.cell? ⟨g, 0, none⟩ = some (.int .u16 p) := hb3.cell 0
    have k1 : w2.cell? ⟨g, 1, none⟩ = some (.int .u16 q) := hb3.cell 1
    have k2 : w2.cell? ⟨g, 2, none⟩ = some (.slice D n r) := hb3.cell 2
    by_cases hn : 1000 < n
    · have hn' : (1000 : Int) < (n : Int) := by omega
      go_wp2_with (first
        | (go_at_call 8; refine Hid.out ?_))
      refine Hid.mk_ ((awake_pat (hT.ext hE02)).mono ?_)
      rintro e w3 ⟨rfl, hE3⟩
      go_wp2
      go_ret
      exact ⟨rfl, hE02.trans hE3⟩
    have hn' : ¬ (1000 : Int) < (n : Int) := by omega
    obtain ⟨f0, hf0⟩ : ∃ f, f = p % (m + 1) := ⟨_, rfl⟩
    obtain ⟨t0, ht0⟩ : ∃ t, t = q % (m + 1) := ⟨_, rfl⟩
    have hf0m : f0 < m + 1 := by rw [hf0]; exact Nat.mod_lt _ (by omega)
    have ht0m : t0 < m + 1 := by rw [ht0]; exact Nat.mod_lt _ (by omega)
    have r1 : ((p : Int).tmod ((m : Int) + 1)) = (f0 : Int) := by rw [hf0, Int.tmod_eq_emod_of_nonneg (by omega)]; rfl
    have r2 : ((p : Int) % ((m : Int) + 1)) = (f0 : Int) := by rw [hf0]; rfl
    have r3 : ((q : Int).tmod ((m : Int) + 1)) = (t0 : Int) := by rw [ht0, Int.tmod_eq_emod_of_nonneg (by omega)]; rfl
    have r4 : ((q : Int) % ((m : Int) + 1)) = (t0 : Int) := by rw [ht0]; rfl
    have r5 : ((m : Int) + 1 == 0) = false := by rw [beq_eq_false_iff_ne]; omega
    have r6 : ¬ (m : Int) + 1 = 0 := by omega
    clear hf0 ht0
    by_cases hft : t0 < f0
    · have hgt : (t0 : Int) < (f0 : Int) := by omega
      have hgd : decide ((t0 : Int) < (f0 : Int)) = true := decide_eq_true hgt
      go_upto_region 5 with fail
      go_quiet (fail)
      obtain ⟨wq, hwq⟩ : ∃ wq, wq = w2.drewN nq := ⟨_, rfl⟩
      have hE2q : Ext w2 wq := by rw [hwq]; exact (Ext.refl w2).drewN _
      go_upto_region 8 with fail
      rw [← hwq]
      have hEq := hE02.trans hE2q
      have k2 := later hE2q k2
      have haq := ha.ext hEq
      have hbq := hb.ext hEq
      have hbyq := hby.ext hEq
      have hTq := hT.ext hEq
      clear hwq k0 k1 r1 r2 r3 r4 r5 r6 hgt hgd hE2q hb3
      have hfm : t0 ≤ m := by omega
      have htm : f0 ≤ m := by omega
      obtain ⟨B1, u1, u2, u3, hs1, _⟩ := cut_run haq (i := 0) (j := t0) (by omega) hfm hmc
      have q1 : ∀ W, (Instr.sliceAt 22 (.slice A m c) none (some (.int .i64 (t0 : Int))) none).run Tryd.prog W = .ok (.slice B1 (t0 - 0) (c - 0)) W := fun W => (u3 W .i64 _ rfl rfl).1
      have q2 : ∀ W, (Instr.slice 22 (.slice A m c) none (some (.int .i64 (t0 : Int))) none).run Tryd.prog W = .ok (.slice B1 (t0 - 0) (c - 0)) W := fun W => (u3 W .i64 _ rfl rfl).2
      rw [Nat.sub_zero, Nat.sub_zero] at q1 q2
      rw [Nat.sub_zero, List.drop_zero] at hs1
      clear u1 u2 u3
      obtain ⟨B2, u1, u2, u3, hs2, _⟩ := cut_run haq (i := f0) (j := m) htm (Nat.le_refl _) hmc
      have q3 : ∀ W, (Instr.sliceAt 22 (.slice A m c) (some (.int .i64 (f0 : Int))) none none).run Tryd.prog W = .ok (.slice B2 (m - f0) (c - f0)) W := fun W => (u2 W .i64 _ rfl rfl).1
      have q4 : ∀ W, (Instr.slice 22 (.slice A m c) (some (.int .i64 (f0 : Int))) none none).run Tryd.prog W = .ok (.slice B2 (m - f0) (c - f0)) W := fun W => (u2 W .i64 _ rfl rfl).2
      rw [HX.out, List.take_length, ← HX.out] at hs2
      clear u1 u2 u3
      obtain ⟨mt, hmt⟩ : ∃ mt, mt = m - f0 := ⟨_, rfl⟩
      rw [← hmt] at q3 q4 hs2
      have hmt6 : mt ≤ 1000 := by omega
      obtain ⟨y', hy'⟩ : ∃ y', y' = x.take t0 ++ BY ++ x.drop f0 := ⟨_, rfl⟩
      have hyl : y'.length ≤ 3000 := by
        rw [hy', List.length_append, List.length_append, ← hs1.len, ← hs2.len, ← hbyq.len]
        omega
      have HMID : Hid (∀ b e, MkR x y' b e → (mkMid y' b e).length ≤ BY.length) := by
        rw [hy']
        exact fun b e h => mid_repl (by omega) (by rw [← HX.out]; exact htm) h
      have HY' := Lib.hid hy'
      clear hmt hy' hft
      have y2 := laters k2
      go_region_law
        (first
          | (go_simp
             go_at_call 10
             rw [← HY'.out] at ho9
             have hm9 : m9 ≤ 3000 := (by rw [ho9.len]; exact hyl)
             (with_reducible refine (make_any c c9 (haq.ext hE9) ho9.sl hmc ho9.cap (by omega) (by omega) (hTq.ext hE9).tz).mono ?_)
             rintro e wz ⟨⟨A5, m5, c5, b5, e5, rfl, ho5, hMk5⟩, hEz⟩)
          | (refine step_appB rfl _ _ rfl ho8 rfl (hs2.ext hE8) rfl (by omega) hE8.size_le ?_
             intro A9 m9 c9 w9 ho9 hg9 hN9
             have hE9 : Ext wq w9 := hE8.grown hg9 (fun j hj => ho8.ge j hj))
          | (refine step_appB rfl _ _ rfl ho7 rfl (hbyq.ext hE7) rfl (by omega) hE7.size_le ?_
             intro A8 m8 c8 w8 ho8 hg8 hN8
             have hE8 : Ext wq w8 := hE7.grown hg8 (fun j hj => ho7.ge j hj)
             have hm8 : m8 ≤ 2000 := (by have h1 := ho8.len; have h2 := ho7.len; have h3 := hbyq.len; rw [List.length_append] at h1; omega))
          | (refine step_appB rfl _ _ rfl (OsB.new_ wq.drew wq.heap.size (Nat.le_refl _) [] (by decide) _ rfl 0 rfl) rfl (hs1.ext ((Ext.refl wq).drew.alloc _)) rfl (by omega) ((Ext.refl wq).drew.alloc _).size_le ?_
             intro A7 m7 c7 w7 ho7 hg7 hN7
             rw [List.nil_append] at ho7
             have hE7 : Ext wq w7 := ((Ext.refl wq).drew.alloc _).grown hg7 (fun j hj => Nat.le_of_eq (Option.some.inj hj))
             have hm7 : m7 ≤ 1000 := (by have h2 := ho7.len; have h3 := hs1.len; omega))
          | fail)
      all_goals
        have hEqz := hE9.trans hEz
        have hl5 := Nat.le_trans (mk_len (x := x) (y := y') (b := b5) (e := e5)) (Nat.add_le_add_left (HMID.out _ _ hMk5) 250)
        rw [← ho5.len, ← hbyq.len] at hl5
        have hT9 := hTq.ext hEqz
        have hb9 := hbq.ext hEqz
        have ha9 := haq.ext hEqz
        have y2b := laters (y2 _ hEqz)
        clear ho5 ho7 ho8 ho9 hg7 hg8 hg9 hN7 hN8 hN9 hE7 hE8 hE9 hMk5 y2 q1 q2 q3 q4
        go_wp2_with (first
          | (go_at_call 10; refine Hid.out ?_))
        refine Hid.mk_ ((make_any c d ha9 hb9 hmc hkd (by omega) (by omega) hT9.tz).mono ?_)
        rintro e wy ⟨⟨A6, m6, c6, b6, e6, rfl, ho6, hMk6⟩, hEy⟩
        have hl6 := (made_len hMk6).2
        rw [← ho6.len, ← HY.out] at hl6
        have i5 : (m5 : Int) ≤ 250 + (n : Int) := by omega
        have i6 : (m6 : Int) ≤ 250 + (k : Int) := by omega
        have z2 : wy.cell? ⟨g, 2, none⟩ = some (.slice D n r) := y2b _ hEy
        have HEND := Lib.hid ((hEq.trans hEqz).trans hEy)
        clear ho6 hMk6 hl5 hl6 y2b
        go_wp2
        go_ret
        exact ⟨rfl, HEND.out⟩
    · have hgt : ¬ (t0 : Int) < (f0 : Int) := by omega
      have hgd : decide ((t0 : Int) < (f0 : Int)) = false := decide_eq_false hgt
      go_upto_region 5 with fail
      go_quiet (fail)
      obtain ⟨wq, hwq⟩ : ∃ wq, wq = w2.drewN nq := ⟨_, rfl⟩
      have hE2q : Ext w2 wq := by rw [hwq]; exact (Ext.refl w2).drewN _
      go_upto_region 8 with fail
      rw [← hwq]
      have hEq := hE02.trans hE2q
      have k2 := later hE2q k2
      have haq := ha.ext hEq
      have hbq := hb.ext hEq
      have hbyq := hby.ext hEq
      have hTq := hT.ext hEq
      clear hwq k0 k1 r1 r2 r3 r4 r5 r6 hgt hgd hE2q hb3
      have hfm : f0 ≤ m := by omega
      have htm : t0 ≤ m := by omega
      obtain ⟨B1, u1, u2, u3, hs1, _⟩ := cut_run haq (i := 0) (j := f0) (by omega) hfm hmc
      have q1 : ∀ W, (Instr.sliceAt 22 (.slice A m c) none (some (.int .i64 (f0 : Int))) none).run Tryd.prog W = .ok (.slice B1 (f0 - 0) (c - 0)) W := fun W => (u3 W .i64 _ rfl rfl).1
      have q2 : ∀ W, (Instr.slice 22 (.slice A m c) none (some (.int .i64 (f0 : Int))) none).run Tryd.prog W = .ok (.slice B1 (f0 - 0) (c - 0)) W := fun W => (u3 W .i64 _ rfl rfl).2
      rw [Nat.sub_zero, Nat.sub_zero] at q1 q2
      rw [Nat.sub_zero, List.drop_zero] at hs1
      clear u1 u2 u3
      obtain ⟨B2, u1, u2, u3, hs2, _⟩ := cut_run haq (i := t0) (j := m) htm (Nat.le_refl _) hmc
      have q3 : ∀ W, (Instr.sliceAt 22 (.slice A m c) (some (.int .i64 (t0 : Int))) none none).run Tryd.prog W = .ok (.slice B2 (m - t0) (c - t0)) W := fun W => (u2 W .i64 _ rfl rfl).1
      have q4 : ∀ W, (Instr.slice 22 (.slice A m c) (some (.int .i64 (t0 : Int))) none none).run Tryd.prog W = .ok (.slice B2 (m - t0) (c - t0)) W := fun W => (u2 W .i64 _ rfl rfl).2
      rw [HX.out, List.take_length, ← HX.out] at hs2
      clear u1 u2 u3
      obtain ⟨mt, hmt⟩ : ∃ mt, mt = m - t0 := ⟨_, rfl⟩
      rw [← hmt] at q3 q4 hs2
      have hmt6 : mt ≤ 1000 := by omega
      obtain ⟨y', hy'⟩ : ∃ y', y' = x.take f0 ++ BY ++ x.drop t0 := ⟨_, rfl⟩
      have hyl : y'.length ≤ 3000 := by
        rw [hy', List.length_append, List.length_append, ← hs1.len, ← hs2.len, ← hbyq.len]
        omega
      have HMID : Hid (∀ b e, MkR x y' b e → (mkMid y' b e).length ≤ BY.length) := by
        rw [hy']
        exact fun b e h => mid_repl (by omega) (by rw [← HX.out]; exact htm) h
      have HY' := Lib.hid hy'
      clear hmt hy' hft
      have y2 := laters k2
      go_region_law
        (first
          | (go_simp
             go_at_call 10
             rw [← HY'.out] at ho9
             have hm9 : m9 ≤ 3000 := (by rw [ho9.len]; exact hyl)
             (with_reducible refine (make_any c c9 (haq.ext hE9) ho9.sl hmc ho9.cap (by omega) (by omega) (hTq.ext hE9).tz).mono ?_)
             rintro e wz ⟨⟨A5, m5, c5, b5, e5, rfl, ho5, hMk5⟩, hEz⟩)
          | (refine step_appB rfl _ _ rfl ho8 rfl (hs2.ext hE8) rfl (by omega) hE8.size_le ?_
             intro A9 m9 c9 w9 ho9 hg9 hN9
             have hE9 : Ext wq w9 := hE8.grown hg9 (fun j hj => ho8.ge j hj))
          | (refine step_appB rfl _ _ rfl ho7 rfl (hbyq.ext hE7) rfl (by omega) hE7.size_le ?_
             intro A8 m8 c8 w8 ho8 hg8 hN8
             have hE8 : Ext wq w8 := hE7.grown hg8 (fun j hj => ho7.ge j hj)
             have hm8 : m8 ≤ 2000 := (by have h1 := ho8.len; have h2 := ho7.len; have h3 := hbyq.len; rw [List.length_append] at h1; omega))
          | (refine step_appB rfl _ _ rfl (OsB.new_ wq.drew wq.heap.size (Nat.le_refl _) [] (by decide) _ rfl 0 rfl) rfl (hs1.ext ((Ext.refl wq).drew.alloc _)) rfl (by omega) ((Ext.refl wq).drew.alloc _).size_le ?_
             intro A7 m7 c7 w7 ho7 hg7 hN7
             rw [List.nil_append] at ho7
             have hE7 : Ext wq w7 := ((Ext.refl wq).drew.alloc _).grown hg7 (fun j hj => Nat.le_of_eq (Option.some.inj hj))
             have hm7 : m7 ≤ 1000 := (by have h2 := ho7.len; have h3 := hs1.len; omega))
          | fail)
      all_goals
        have hEqz := hE9.trans hEz
        have hl5 := Nat.le_trans (mk_len (x := x) (y := y') (b := b5) (e := e5)) (Nat.add_le_add_left (HMID.out _ _ hMk5) 250)
        rw [← ho5.len, ← hbyq.len] at hl5
        have hT9 := hTq.ext hEqz
        have hb9 := hbq.ext hEqz
        have ha9 := haq.ext hEqz
        have y2b := laters (y2 _ hEqz)
        clear ho5 ho7 ho8 ho9 hg7 hg8 hg9 hN7 hN8 hN9 hE7 hE8 hE9 hMk5 y2 q1 q2 q3 q4
        go_wp2_with (first
          | (go_at_call 10; refine Hid.out ?_))
        refine Hid.mk_ ((make_any c d ha9 hb9 hmc hkd (by omega) (by omega) hT9.tz).mono ?_)
        rintro e wy ⟨⟨A6, m6, c6, b6, e6, rfl, ho6, hMk6⟩, hEy⟩
        have hl6 := (made_len hMk6).2
        rw [← ho6.len, ← HY.out] at hl6
        have i5 : (m5 : Int) ≤ 250 + (n : Int) := by omega
        have i6 : (m6 : Int) ≤ 250 + (k : Int) := by omega
        have z2 : wy.cell? ⟨g, 2, none⟩ = some (.slice D n r) := y2b _ hEy
        have HEND := Lib.hid ((hEq.trans hEqz).trans hEy)
        clear ho6 hMk6 hl5 hl6 y2b
        go_wp2
        go_ret
        exact ⟨rfl, HEND.out⟩

set_option maxRecDepth 100000 in
theorem liftedPatchSize (os : Os) (started : os.Started) (H : Type) (enc : TypeId × Value → H) :
    ReturnsInHanded {} Tryd.checked os 5 .any (fun w args => (Rows.patchSizeSpec.pre enc Tryd.prog Tryd.f5 [] false w args ∧ laidMetH Tryd.prog laidL w) ∧ sizedMet enc Tryd.prog Tryd.f5 (OpenSpec.ofChange Rows.patchSizeSpec) false w args) (Rows.patchSizeSpec.post enc Tryd.prog Tryd.f5 false true false false) := by
  refine returnsInHanded_of_change_and (C := Tryd.checked) (X := fun w _ => laidMetH Tryd.prog laidL w) (fun _ _ _ hh h => h.of_heap hh) ownK started (by kernel_rfl) Tryd.func5
    (ChangeSpec.witness_shaped (enc := enc) (C := Tryd.checked) (os := os) (X := fun w _ => laidMetH Tryd.prog laidL w) false (World.laidAll Tryd.prog os laidL) #[.slice none 0 0, .slice none 0 0, .agg #[.int .u16 0, .int .u16 0, .slice none 0 0]] 8 (World.laidAll_os _ _ _)
      (World.shaped_of_ZipB (by kernel_rfl) (by kernel_rfl)) (by kernel_rfl) (by kernel_rfl) (by kernel_rfl)
      (by rw [MakeChecks.laidMetH_plain _ _ _ (by kernel_rfl)]; exact laidMet_laidAll _ (by kernel_rfl) (by kernel_rfl))) ?_
  intro W base args ds gs before hval0 hW hcnd hsz0 hL _
  have hT := tb_of_laid hL
  have hval : ∀ (j : Nat) t v, Tryd.f5.params[j]? = some t → args[j]? = some v → Value.okWide Tryd.prog W .any base t v := hval0
  have hW' := hW
  obtain ⟨p, q, hA0, hV, rfl, hfz, hnd⟩ := hW
  have hA : DataW.TrodAll enc Tryd.prog W 0 (fun _ => true) true Tryd.f5.params.toList args.toList ds p := hA0
  have hsz : (DataW.weightsEach Tryd.prog (Tryd.f5.params.toList ++ Rows.patchSizeSpec.plain.varTypes Tryd.prog) (ds ++ gs)).all (· ≤ reachBytes) = true := hsz0
  rw [Tryd.params5] at hA hval hsz
  obtain ⟨v0, vs0, d0, ds0, p0, q0, hargs0, rfl, rfl, h0, r0⟩ := trodAll_cons hA
  obtain ⟨v1, vs1, d1, ds1, p1, q1, hargs1, rfl, rfl, h1, r1⟩ := trodAll_cons r0
  obtain ⟨v2, vs2, d2, ds2, p2, q2, hargs2, rfl, rfl, h2, r2⟩ := trodAll_cons r1
  obtain ⟨rfl, rfl, rfl⟩ := trodAll_nil r2
  obtain rfl : args = #[v0, v1, v2] := by cases args; simp_all
  obtain ⟨rfl, rfl⟩ := trodVars_none hV
  have k0 := h0
  have lt0 : ∀ x ∈ p0, x.block < W.heap.size := by obtain ⟨m, hm⟩ := k0; exact DataW.trod_lt m _ _ _ hm
  have k1 := h1
  have lt1 : ∀ x ∈ p1, x.block < W.heap.size := by obtain ⟨m, hm⟩ := k1; exact DataW.trod_lt m _ _ _ hm
  have k2 := h2
  have lt2 : ∀ x ∈ p2, x.block < W.heap.size := by obtain ⟨m, hm⟩ := k2; exact DataW.trod_lt m _ _ _ hm
  obtain ⟨A0, m0, c0, l0, rfl, w0, hc0, hb0⟩ := opn_top_bytes (hval 0 22 v0 rfl rfl) h0 (WOk.top hsz (j := 0) rfl rfl)
  obtain ⟨A1, m1, c1, l1, rfl, w1, hc1, hb1⟩ := opn_top_bytes (hval 1 22 v1 rfl rfl) h1 (WOk.top hsz (j := 1) rfl rfl)
  obtain ⟨x2, rfl, g2⟩ := opn_top_agg opn_rpl ((okWide_struct Tryd.underlying33 (hval 2 33 v2 rfl rfl)).imp fun _ hh => hh.1) h2 (WOk.top hsz (j := 2) rfl rfl)
  obtain ⟨p2, q2, h2x⟩ := x2
  obtain ⟨g20, g21, ⟨l2, g22⟩, g23⟩ := g2
  clear hA0 hval0
  refine (psize_walk p2 q2 g20 g21 w0 w1 g22 hc0 hc1 g23 hT).mono fun e W' ⟨he, bel⟩ => ?_
  subst he
  exact ⟨_, rfl, _, _, _, [], _, [], hW', trodAll_mk1 (shut_bool Tryd.underlying4 _), (trodAll_cons_mk (Below.trod laidK (by kernel_rfl) (of_decide_eq_true (by kernel_rfl)) k0 bel lt0) (trodAll_cons_mk (Below.trod laidK (by kernel_rfl) (of_decide_eq_true (by kernel_rfl)) k1 bel lt1) (trodAll_cons_mk (Below.trod laidK (by kernel_rfl) (of_decide_eq_true (by kernel_rfl)) k2 bel lt2) trodAll_mk0))), rfl, Below.frame bel _, fun h => by cases h⟩
theorem PatchSize_row : Rows.PatchSizeSaid :=
  OpenClaim.holds_of_wide 5 Tryd.f5 rfl rfl rfl rfl rfl rfl rfl ⟨rfl, rfl, rfl, rfl, rfl⟩ rfl rfl rfl rfl rfl (by kernel_rfl) Tryd.func5 (by kernel_rfl)
    (of_decide_eq_true (by kernel_rfl)) (by unfold Func.isWrapper; rw [if_neg (of_decide_eq_false (by kernel_rfl))]; exact ⟨rfl, rfl⟩)
    (fun os started H enc _ => liftedPatchSize os started H enc)
theorem PatchSize_holds : Rows.PatchSizeCardSaid :=
  Claim7.holds_tied_plain_at .later [] Rows.patchSizeCard.laidKinds true Rows.patchSizeCard.stood.harness Rows.patchSizeCard.stood.looks
    PatchSize_row (fun _ h => by cases h) (by kernel_rfl) (fun _ h => by cases h) patchSize_row_tie rfl ⟨rfl, rfl⟩ (by kernel_rfl) rfl
    (fun f fn hf hfn => by
      obtain rfl : f = 5 := Option.some.inj ((show Tryd.prog.funcNamed Rows.patchSizeRow.func = some 5 by kernel_rfl).symm.trans hf) |>.symm
      obtain rfl : fn = Tryd.f5 := (Option.some.inj (Tryd.func5.symm.trans hfn)).symm
      exact ⟨by kernel_rfl, fun j t ht => by
        rw [Tryd.params5] at ht
        have hm : t ∈ [22, 33] := by simpa using Array.mem_of_getElem? ht
        have hall : ([22, 33].all fun u => !Tryd.prog.wantsStandIn u) = true := by kernel_rfl
        exact (show Tryd.prog.wantsStandIn t = false by simpa using List.all_eq_true.1 hall t hm)⟩)
    (by kernel_rfl)
#print axioms PatchSize_holds
end Go.Proofs.YtghndnacmpckbaaDoor
