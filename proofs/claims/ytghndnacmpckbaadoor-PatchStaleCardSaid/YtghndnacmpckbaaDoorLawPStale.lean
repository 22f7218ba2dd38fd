/- A patch that Make returned is refused with ErrStale for old bytes of which one is changed, and for one more byte; for the same bytes it returns the new ones. No condition. -/
import Derived.Test.YtghndnacmpckbaaDoorPatL
import Derived.Test.YtghndnacmpckbaaDoorPatR
import Derived.Test.YtghndnacmpckbaaDoorSet
import Derived.ProofKit
import Derived.OpenShut
import Derived.ShutString
import Derived.ChangeOld
import Derived.SizedLaws
namespace Go.Proofs.YtghndnacmpckbaaDoor
open Go.ChangeShapes Go.WideShapes Go.ChangeAt Go.RowKit
set_option maxRecDepth 100000
attribute [local go_sem] ext_refl_t ext_alloc_t ext_drew_t ext_drewN_t ext_alloc2_t ext_alloc3_t ext_alloc4_t ext_alloc5_t ext_alloc6_t ext_alloc7_t ext_alloc8_t ext_alloc1d_t ext_alloc2d_t ext_alloc3d_t ext_alloc4d_t
theorem set_stale {x : List UInt8} {t : Nat} (ht : t < x.length) (v : UInt8) (h : x.set t v ≠ x) : ¬ ((x.set t v).length = x.length ∧ sumN (x.set t v) = sumN x) := fun h2 => h (by
  have h3 := (seal_set (h := dStart) (by decide) ht v).1 h2.2
  rw [← h3, List.set_getElem_self])

set_option maxHeartbeats 3200000 in
theorem pstale_walk {w : World} {A B : Option Addr} {m k c d : Nat} {x y : List UInt8} (p q : Nat) (_hp : p < 65536) (hq : q < 256) (ha : SlB w A m x) (hb : SlB w B k y) (hmc : m ≤ c) (hkd : k ≤ d) (hT : Tb w) :
    Calls Tryd.prog 3 #[.slice A m c, .slice B k d, .agg #[.int .u16 p, .int .u8 q]] w fun e w' => e = .returned (.bool true) ∧ Ext w w' := by
  have HX := Lib.hid ha.len
  have HY := Lib.hid hb.len
  have hEb : Ext w (w.alloc (Obj.cells #[.int .u16 p, .int .u8 q] 25)) := (Ext.refl w).alloc _
  have hbk := Blk.new w 25 #[.int .u16 p, .int .u8 q]
  have HF := Lib.hid (fun W => few_pat (w := W) (A := A) (B := B) (m := m) (k := k) c d)
  by_cases hf : m ≤ 1000 ∧ k ≤ 1000
  case neg =>
    have hfe : (decide (m ≤ 1000) && decide (k ≤ 1000)) = false := by simp; omega
    rw [hfe] at HF
    clear hfe hf
    go_enter Tryd.func3, Tryd.ntmps3
    go_wp2_with (first
      | (go_at_call 8; refine Hid.out ?_))
    refine Hid.mk_ ((awake_pat (hT.ext hEb)).mono ?_)
    rintro e w1 ⟨rfl, hE1⟩
    go_wp2_with (first
      | (go_at_call 9; refine Hid.out ?_))
    refine Hid.mk_ ((HF.out _).mono ?_)
    rintro e w2 ⟨rfl, hE2⟩
    go_wp2_with (first
      | (go_at_call 8; refine Hid.out ?_))
    refine Hid.mk_ ((awake_pat (((hT.ext hEb).ext hE1).ext hE2)).mono ?_)
    rintro e w3 ⟨rfl, hE3⟩
    go_wp2
    go_ret
    exact ⟨rfl, ((hEb.trans hE1).trans hE2).trans hE3⟩
  case pos =>
    obtain ⟨hm, hk⟩ := hf
    rw [decide_eq_true hm, decide_eq_true hk] at HF
    go_enter Tryd.func3, Tryd.ntmps3
    go_wp2_with (first
      | (go_at_call 8; refine Hid.out ?_))
    refine Hid.mk_ ((awake_pat (hT.ext hEb)).mono ?_)
    rintro e w1 ⟨rfl, hE1⟩
    go_wp2_with (first
      | (go_at_call 9; refine Hid.out ?_))
    refine Hid.mk_ ((HF.out _).mono ?_)
    rintro e w2 ⟨rfl, hE2⟩
    have hE02 := (hEb.trans hE1).trans hE2
    go_wp2_with (first
      | (go_at_call 10; refine Hid.out ?_))
    refine Hid.mk_ ((make_any c d (ha.ext hE02) (hb.ext hE02) hmc hkd (by omega) (by omega) (hT.ext hE02).tz).mono ?_)
    rintro e w3 ⟨⟨A2, m2, c2, b, e1, rfl, ho2, hMk⟩, hE3⟩
    have hE03 := hE02.trans hE3
    have hb3 := hbk.below ((hE1.trans hE2).trans hE3) hbk.lt
    obtain ⟨g, hg⟩ : ∃ g, g = w.heap.size := ⟨_, rfl⟩
    rw [← hg] at hb3 ⊢
    clear hg hbk HF
    have hlen := (made_len hMk).2
    have HMK := Lib.hid hMk
    have hm2 : m2 ≤ 1000000 := by have h1 := ho2.len; have h2 := HY.out; omega
    have HCAP := Lib.hid ho2.cap
    have hv : (UInt8.ofNat q).toNat = q := by rw [UInt8.toNat_ofNat']; omega
    have HQ8 : Hid (#[Value.int .u8 (q : Int)] = ([UInt8.ofNat q].map bv).toArray) := by show _ = _; simp [bv, hv]
    have HV := Lib.hid hv
    have hg3 := hb3.lt
    have HX6 : Hid (x.length ≤ 1000000) := by show _ ≤ _; have := HX.out; omega
    have HY6 : Hid (y.length ≤ 1000000) := by show _ ≤ _; have := HY.out; omega
    clear hlen hMk hv
    have hEz : Ext w3 (w3.alloc (Obj.cells #[] 5)) := (Ext.refl w3).alloc _
    go_wp2_with (first
      | (at_builtin; refine Hid.out ?_))
    refine Hid.mk_ ?_
    refine appB rfl _ _ rfl (OsB.new_ w3 w3.heap.size (Nat.le_refl _) [] (by decide) _ rfl 0 rfl) rfl (ha.ext (hE03.trans hEz)) rfl (by omega) hEz.size_le ?_
    intro A9 m9 c9 w9 ho9 hg9 hN9
    rw [List.nil_append] at ho9
    have hE39 : Ext w3 w9 := hEz.grown hg9 (fun j hj => by simp [ob] at hj; omega)
    have hb9' := hb3.below hE39 hb3.lt
    have hm9 : m9 = m := by rw [ho9.len, HX.out]
    subst hm9
    clear hg9 hN9 hEz
    by_cases h0 : m9 = 0
    · subst h0
      have hEq := hE03.trans hE39
      have hE2q := hE39
      obtain ⟨z, hz⟩ : ∃ z, z = x := ⟨_, rfl⟩
      rw [← hz] at ho9
      have HST : Hid (z ≠ x → ¬ (z.length = x.length ∧ sumN z = sumN x)) := fun h => absurd hz h
      clear hz
      go_wp2_with fail
      have HTP := Lib.hid (hT.ext hEq)
      go_wp2_with (first
        | (go_at_call 11; refine Hid.out ?_))
      refine Hid.mk_ ((papply_any c9 c2 ho9.sl ho9.cap (by omega) (ho2.sl.ext hE2q) HCAP.out (by omega) HTP.out).mono ?_)
      rintro e wa ⟨⟨A3, m3, c3, l3, code, rfl, ho3, hA3⟩, hEa⟩
      have hEqa := hEq.trans hEa
      have HCASE : Hid ((x = z ∧ l3 = y ∧ code = 0) ∨ (x ≠ z ∧ l3 = [] ∧ code = 17)) := by
        show _ ∨ _
        by_cases hx2 : z = x
        · rw [hx2] at hA3
          obtain ⟨h1, h2⟩ := Prod.mk.inj (ap_make HMK.out HX6.out HY6.out hA3)
          exact .inl ⟨hx2.symm, h1, h2⟩
        · obtain ⟨h1, h2⟩ := Prod.mk.inj (ap_stale HMK.out HX6.out HY6.out (HST.out hx2) hA3)
          exact .inr ⟨fun h => hx2 h.symm, h1, h2⟩
      have HO3 := Lib.hid ho3
      have HO9 := Lib.hid (ho9.sl.ext hEa)
      have hb9 := (hb3.below hE2q hb3.lt).below hEa (hb3.below hE2q hb3.lt).lt
      have y1 := laters (show wa.cell? ⟨g, 1, none⟩ = some (.int .u8 q) from hb9.cell 1)
      have hxa := (ha.ext hEqa)
      have hpa := ((ho2.sl.ext hE2q).ext hEa)
      have hTa := hT.ext hEqa
      clear hA3 ho3 hb9 ho9
      have HZ1 : Hid (OsB ((wa.drew.alloc (Obj.cells #[.int .u8 q] 5)).alloc (Obj.cells #[] 5)) wa.heap.size (some ⟨wa.heap.size + 1, 0, none⟩) 0 0 []) := by
        have h := OsB.new_ (wa.drew.alloc (Obj.cells #[.int .u8 q] 5)) wa.heap.size ((Ext.refl wa).drew.alloc _).size_le [] (by decide) #[] rfl 0 rfl
        have hz : (wa.drew.alloc (Obj.cells #[.int .u8 q] 5)).heap.size = wa.heap.size + 1 := by simp
        rw [hz] at h
        exact h
      have HB1 : Hid (SlB ((wa.drew.alloc (Obj.cells #[] 5)).alloc (Obj.cells #[.int .u8 q] 5)) (some ⟨wa.heap.size + 1, 0, none⟩) 1 [UInt8.ofNat q]) := by
        have h := SlB.new_ (wa.drew.alloc (Obj.cells #[] 5)) [UInt8.ofNat q] (by simp) _ HQ8.out (0, 0) 1 rfl 5
        have hz : (wa.drew.alloc (Obj.cells #[] 5)).heap.size = wa.heap.size + 1 := by simp
        rw [hz] at h
        exact h
      go_wp2_with fail
      go_region_law
        (first
          | (go_simp
             go_at_call 11
             (with_reducible refine (papply_any c8 c2 ho8.sl ho8.cap hm8 (hpa.ext hEa8) HCAP.out hm2 (hTa.ext hEa8)).mono ?_)
             rintro e wz ⟨⟨A5, m5, c5, l5, code5, rfl, ho5, hA5⟩, hEz⟩)
          | ((
             refine step_appB rfl _ _ rfl (ho7.ext ((Ext.refl w7).alloc _)) rfl (SlB.new_ w7 [UInt8.ofNat q] (by simp) _ HQ8.out (0, 0) 1 rfl _) rfl (by omega) (Nat.le_trans hsz7 ((Ext.refl w7).alloc _).size_le) ?_
             intro A8 m8 c8 w8 ho8 hg8 hN8
             have hEa8 : Ext wa w8 := (hEa7.alloc _).grown hg8 (fun j hj => ho7.ge j hj)
             have hm8 : m8 ≤ 1000000 := (by have h1 := ho8.len; have h2 := ho7.len; have h3 := HX.out; rw [List.length_append] at h1; simp at h1; simp at h2; omega)))
          | ((
             refine step_appB rfl _ _ rfl ho7 rfl hsb7 rfl (by omega) hsz7 ?_
             intro A8 m8 c8 w8 ho8 hg8 hN8
             have hEa8 : Ext wa w8 := hEa7.grown hg8 (fun j hj => ho7.ge j hj)
             have hm8 : m8 ≤ 1000000 := (by have h1 := ho8.len; have h2 := ho7.len; have h3 := HX.out; rw [List.length_append] at h1; simp at h1; simp at h2; omega)))
          | (refine step_appB rfl _ _ rfl (OsB.new_ wa.drew wa.heap.size (Nat.le_refl _) [] (by decide) _ rfl 0 rfl) rfl (hxa.ext ((Ext.refl wa).drew.alloc _)) rfl (by omega) ((Ext.refl wa).drew.alloc _).size_le ?_
             intro A7 m7 c7 w7 ho7 hg7 hN7
             have hEa7 : Ext wa w7 := ((Ext.refl wa).drew.alloc _).grown hg7 (fun j hj => Nat.le_of_eq (Option.some.inj hj))
             have hsz7 := hEa7.size_le
             have hm7 : m7 ≤ 1000 := (by have h2 := ho7.len; have h3 := HX.out; simp at h2; omega))
          | (refine step_appB rfl _ _ rfl HZ1.out rfl (hxa.ext (((Ext.refl wa).drew.alloc _).alloc _)) rfl (by omega) (((Ext.refl wa).drew.alloc _).alloc _).size_le ?_
             intro A7 m7 c7 w7 ho7 hg7 hN7
             have hEa7 : Ext wa w7 := (((Ext.refl wa).drew.alloc _).alloc _).grown hg7 HZ1.out.ge
             have hsz7 := hEa7.size_le
             have hsb7 : SlB w7 _ 1 [UInt8.ofNat q] := ((SlB.new_ wa.drew [UInt8.ofNat q] (by simp) _ HQ8.out (0, 0) 1 rfl 5).ext ((Ext.refl _).alloc _)).kept hg7 (.inr (by simp [ob]))
             have hm7 : m7 ≤ 1000 := (by have h2 := ho7.len; have h3 := HX.out; simp at h2; omega))
          | (refine step_appB rfl _ _ rfl ((OsB.new_ wa.drew wa.heap.size (Nat.le_refl _) [] (by decide) _ rfl 0 rfl).ext ((Ext.refl _).alloc (Obj.cells #[.int .u8 q] 5))) rfl (hxa.ext (((Ext.refl wa).drew.alloc _).alloc _)) rfl (by omega) (((Ext.refl wa).drew.alloc _).alloc _).size_le ?_
             intro A7 m7 c7 w7 ho7 hg7 hN7
             have hEa7 : Ext wa w7 := (((Ext.refl wa).drew.alloc _).alloc _).grown hg7 (fun j hj => Nat.le_of_eq (Option.some.inj hj))
             have hsz7 := hEa7.size_le
             have hsb7 : SlB w7 _ 1 [UInt8.ofNat q] := HB1.out.kept hg7 (.inr (by simp [ob]))
             have hm7 : m7 ≤ 1000 := (by have h2 := ho7.len; have h3 := HX.out; simp at h2; omega))
          | fail)
      all_goals
        obtain ⟨rfl, rfl⟩ := Prod.mk.inj (ap_stale HMK.out HX6.out HY6.out (by rintro ⟨h, _⟩; simp at h) hA5)
        have hE8z := hEa8.trans hEz
        have HEZ := Lib.hid (hEqa.trans hE8z)
        have HSA := Lib.hid (hxa.ext hE8z)
        have HSO := Lib.hid (HO9.out.ext hE8z)
        have HS3 := Lib.hid (HO3.out.sl.ext hE8z)
        have HSB := Lib.hid (hb.ext HEZ.out)
        clear hA5 ho5 ho7 ho8 hg8 hg7 hN8 hN7 hEa7 hEa8 hEz hsz7 y1 hE8z hpa hxa
        rcases HCASE.out with ⟨he, hl, hc⟩ | ⟨hne, hl, hc⟩
        · subst hl hc
          have HE1 := Lib.hid he
          clear he
          go_wp2_with (first
            | (go_at_call 12; refine Hid.out ?_))
          refine Hid.mk_ ((same3B c c9 HSA.out HSO.out).mono ?_)
          rintro e wy ⟨rfl, hEy⟩
          rw [decide_eq_true HE1.out]
          go_wp2_with (first
            | (go_at_call 12; refine Hid.out ?_))
          refine Hid.mk_ ((same3B c3 d (HS3.out.ext hEy) (HSB.out.ext hEy)).mono ?_)
          rintro e wx ⟨rfl, hEx⟩
          rw [decide_eq_true rfl]
          go_wp2
          go_ret
          exact ⟨rfl, (HEZ.out.trans hEy).trans hEx⟩
        · subst hl hc
          have hm3 : m3 = 0 := HS3.out.len
          subst hm3
          have HNE := Lib.hid hne
          clear hne
          go_wp2_with (first
            | (go_at_call 12; refine Hid.out ?_))
          refine Hid.mk_ ((same3B c c9 HSA.out HSO.out).mono ?_)
          rintro e wy ⟨rfl, hEy⟩
          rw [decide_eq_false HNE.out]
          go_wp2
          go_ret
          exact ⟨rfl, HEZ.out.trans hEy⟩
    · have hi0 : (0 : Int) < (m9 : Int) := by omega
      obtain ⟨t, ht⟩ : ∃ t, t = p % m9 := ⟨_, rfl⟩
      have htm : t < m9 := by rw [ht]; exact Nat.mod_lt _ (by omega)
      have hmod : ((p : Int).tmod (m9 : Int)) = (t : Int) := by rw [ht, Int.tmod_eq_emod_of_nonneg (by omega)]; rfl
      have hmod2 : ((p : Int) % (m9 : Int)) = (t : Int) := by rw [ht]; rfl
      have hm20 : ((m9 : Int) == 0) = false := by rw [beq_eq_false_iff_ne]; omega
      have hi1 : (t : Int) < (m9 : Int) := by omega
      obtain ⟨g9, hA9, hg9b, _, _, _, _⟩ := ho9.set_ htm
      subst hA9
      have X0 := latersU (show w9.cell? ⟨g, 0, none⟩ = some (.int .u16 p) from hb9'.cell 0)
      have X1 := latersU (show w9.cell? ⟨g, 1, none⟩ = some (.int .u8 q) from hb9'.cell 1)
      clear ht h0
      go_upto_region 8 with fail
      refine wp_region_ext_tail 10 (by kernel_rfl) (by kernel_rfl) ?_
      simp only [List.take_succ_cons, List.take_zero, List.drop_succ_cons, List.drop_zero]
      repeat (go_big_quiet_step (fail))
      refine wpQuiet_nil ?_
      rintro w5 ⟨⟨_, h5⟩, rfl⟩
      try dsimp only
      obtain ⟨g9', hA9', _, _, hf5, ⟨x5, hx5⟩, _⟩ := (ho9.ext h5).set_ htm
      injection hA9' with hA9'
      injection hA9' with hA9'
      subst hA9'
      have hoq := (ho9.ext h5).set2 htm (UInt8.ofNat q) (n := (q : Int)) (by rw [HV.out])
      have hEs : Ext w3 (w5.setCell ⟨g9, t, none⟩ (.int .u8 q)) := (hE39.trans h5).set_ hg9b _
      obtain ⟨z, hz⟩ : ∃ z, z = x.set t (UInt8.ofNat q) := ⟨_, rfl⟩
      rw [← hz] at hoq
      have HST : Hid (z ≠ x → ¬ (z.length = x.length ∧ sumN z = sumN x)) := by rw [hz]; exact set_stale (by rw [← HX.out]; exact htm) _
      clear hz
      clear ho9 X0 X1 hb9' hmod hmod2 hm20 hi0
      have ho9 := hoq
      have hEq := hE03.trans hEs
      have hE2q := hEs
      clear hoq hEs
      go_wp2_with fail
      have HTP := Lib.hid (hT.ext hEq)
      go_wp2_with (first
        | (go_at_call 11; refine Hid.out ?_))
      refine Hid.mk_ ((papply_any c9 c2 ho9.sl ho9.cap (by omega) (ho2.sl.ext hE2q) HCAP.out (by omega) HTP.out).mono ?_)
      rintro e wa ⟨⟨A3, m3, c3, l3, code, rfl, ho3, hA3⟩, hEa⟩
      have hEqa := hEq.trans hEa
      have HCASE : Hid ((x = z ∧ l3 = y ∧ code = 0) ∨ (x ≠ z ∧ l3 = [] ∧ code = 17)) := by
        show _ ∨ _
        by_cases hx2 : z = x
        · rw [hx2] at hA3
          obtain ⟨h1, h2⟩ := Prod.mk.inj (ap_make HMK.out HX6.out HY6.out hA3)
          exact .inl ⟨hx2.symm, h1, h2⟩
        · obtain ⟨h1, h2⟩ := Prod.mk.inj (ap_stale HMK.out HX6.out HY6.out (HST.out hx2) hA3)
          exact .inr ⟨fun h => hx2 h.symm, h1, h2⟩
      have HO3 := Lib.hid ho3
      have HO9 := Lib.hid (ho9.sl.ext hEa)
      have hb9 := (hb3.below hE2q hb3.lt).below hEa (hb3.below hE2q hb3.lt).lt
      have y1 := laters (show wa.cell? ⟨g, 1, none⟩ = some (.int .u8 q) from hb9.cell 1)
      have hxa := (ha.ext hEqa)
      have hpa := ((ho2.sl.ext hE2q).ext hEa)
      have hTa := hT.ext hEqa
      clear hA3 ho3 hb9 ho9
      have HZ1 : Hid (OsB ((wa.drew.alloc (Obj.cells #[.int .u8 q] 5)).alloc (Obj.cells #[] 5)) wa.heap.size (some ⟨wa.heap.size + 1, 0, none⟩) 0 0 []) := by
        have h := OsB.new_ (wa.drew.alloc (Obj.cells #[.int .u8 q] 5)) wa.heap.size ((Ext.refl wa).drew.alloc _).size_le [] (by decide) #[] rfl 0 rfl
        have hz : (wa.drew.alloc (Obj.cells #[.int .u8 q] 5)).heap.size = wa.heap.size + 1 := by simp
        rw [hz] at h
        exact h
      have HB1 : Hid (SlB ((wa.drew.alloc (Obj.cells #[] 5)).alloc (Obj.cells #[.int .u8 q] 5)) (some ⟨wa.heap.size + 1, 0, none⟩) 1 [UInt8.ofNat q]) := by
        have h := SlB.new_ (wa.drew.alloc (Obj.cells #[] 5)) [UInt8.ofNat q] (by simp) _ HQ8.out (0, 0) 1 rfl 5
        have hz : (wa.drew.alloc (Obj.cells #[] 5)).heap.size = wa.heap.size + 1 := by simp
        rw [hz] at h
        exact h
      go_wp2_with fail
      go_region_law
        (first
          | (go_simp
             go_at_call 11
             (with_reducible refine (papply_any c8 c2 ho8.sl ho8.cap hm8 (hpa.ext hEa8) HCAP.out hm2 (hTa.ext hEa8)).mono ?_)
             rintro e wz ⟨⟨A5, m5, c5, l5, code5, rfl, ho5, hA5⟩, hEz⟩)
          | ((
             refine step_appB rfl _ _ rfl (ho7.ext ((Ext.refl w7).alloc _)) rfl (SlB.new_ w7 [UInt8.ofNat q] (by simp) _ HQ8.out (0, 0) 1 rfl _) rfl (by omega) (Nat.le_trans hsz7 ((Ext.refl w7).alloc _).size_le) ?_
             intro A8 m8 c8 w8 ho8 hg8 hN8
             have hEa8 : Ext wa w8 := (hEa7.alloc _).grown hg8 (fun j hj => ho7.ge j hj)
             have hm8 : m8 ≤ 1000000 := (by have h1 := ho8.len; have h2 := ho7.len; have h3 := HX.out; rw [List.length_append] at h1; simp at h1; simp at h2; omega)))
          | ((
             refine step_appB rfl _ _ rfl ho7 rfl hsb7 rfl (by omega) hsz7 ?_
             intro A8 m8 c8 w8 ho8 hg8 hN8
             have hEa8 : Ext wa w8 := hEa7.grown hg8 (fun j hj => ho7.ge j hj)
             have hm8 : m8 ≤ 1000000 := (by have h1 := ho8.len; have h2 := ho7.len; have h3 := HX.out; rw [List.length_append] at h1; simp at h1; simp at h2; omega)))
          | (refine step_appB rfl _ _ rfl (OsB.new_ wa.drew wa.heap.size (Nat.le_refl _) [] (by decide) _ rfl 0 rfl) rfl (hxa.ext ((Ext.refl wa).drew.alloc _)) rfl (by omega) ((Ext.refl wa).drew.alloc _).size_le ?_
             intro A7 m7 c7 w7 ho7 hg7 hN7
             have hEa7 : Ext wa w7 := ((Ext.refl wa).drew.alloc _).grown hg7 (fun j hj => Nat.le_of_eq (Option.some.inj hj))
             have hsz7 := hEa7.size_le
             have hm7 : m7 ≤ 1000 := (by have h2 := ho7.len; have h3 := HX.out; simp at h2; omega))
          | (refine step_appB rfl _ _ rfl HZ1.out rfl (hxa.ext (((Ext.refl wa).drew.alloc _).alloc _)) rfl (by omega) (((Ext.refl wa).drew.alloc _).alloc _).size_le ?_
             intro A7 m7 c7 w7 ho7 hg7 hN7
             have hEa7 : Ext wa w7 := (((Ext.refl wa).drew.alloc _).alloc _).grown hg7 HZ1.out.ge
             have hsz7 := hEa7.size_le
             have hsb7 : SlB w7 _ 1 [UInt8.ofNat q] := ((SlB.new_ wa.drew [UInt8.ofNat q] (by simp) _ HQ8.out (0, 0) 1 rfl 5).ext ((Ext.refl _).alloc _)).kept hg7 (.inr (by simp [ob]))
             have hm7 : m7 ≤ 1000 := (by have h2 := ho7.len; have h3 := HX.out; simp at h2; omega))
          | (refine step_appB rfl _ _ rfl ((OsB.new_ wa.drew wa.heap.size (Nat.le_refl _) [] (by decide) _ rfl 0 rfl).ext ((Ext.refl _).alloc (Obj.cells #[.int .u8 q] 5))) rfl (hxa.ext (((Ext.refl wa).drew.alloc _).alloc _)) rfl (by omega) (((Ext.refl wa).drew.alloc _).alloc _).size_le ?_
             intro A7 m7 c7 w7 ho7 hg7 hN7
             have hEa7 : Ext wa w7 := (((Ext.refl wa).drew.alloc _).alloc _).grown hg7 (fun j hj => Nat.le_of_eq (Option.some.inj hj))
             have hsz7 := hEa7.size_le
             have hsb7 : SlB w7 _ 1 [UInt8.ofNat q] := HB1.out.kept hg7 (.inr (by simp [ob]))
             have hm7 : m7 ≤ 1000 := (by have h2 := ho7.len; have h3 := HX.out; simp at h2; omega))
          | fail)
      all_goals
        obtain ⟨rfl, rfl⟩ := Prod.mk.inj (ap_stale HMK.out HX6.out HY6.out (by rintro ⟨h, _⟩; simp at h) hA5)
        have hE8z := hEa8.trans hEz
        have HEZ := Lib.hid (hEqa.trans hE8z)
        have HSA := Lib.hid (hxa.ext hE8z)
        have HSO := Lib.hid (HO9.out.ext hE8z)
        have HS3 := Lib.hid (HO3.out.sl.ext hE8z)
        have HSB := Lib.hid (hb.ext HEZ.out)
        clear hA5 ho5 ho7 ho8 hg8 hg7 hN8 hN7 hEa7 hEa8 hEz hsz7 y1 hE8z hpa hxa
        rcases HCASE.out with ⟨he, hl, hc⟩ | ⟨hne, hl, hc⟩
        · subst hl hc
          have HE1 := Lib.hid he
          clear he
          go_wp2_with (first
            | (go_at_call 12; refine Hid.out ?_))
          refine Hid.mk_ ((same3B c c9 HSA.out HSO.out).mono ?_)
          rintro e wy ⟨rfl, hEy⟩
          rw [decide_eq_true HE1.out]
          go_wp2_with (first
            | (go_at_call 12; refine Hid.out ?_))
          refine Hid.mk_ ((same3B c3 d (HS3.out.ext hEy) (HSB.out.ext hEy)).mono ?_)
          rintro e wx ⟨rfl, hEx⟩
          rw [decide_eq_true rfl]
          go_wp2
          go_ret
          exact ⟨rfl, (HEZ.out.trans hEy).trans hEx⟩
        · subst hl hc
          have hm3 : m3 = 0 := HS3.out.len
          subst hm3
          have HNE := Lib.hid hne
          clear hne
          go_wp2_with (first
            | (go_at_call 12; refine Hid.out ?_))
          refine Hid.mk_ ((same3B c c9 HSA.out HSO.out).mono ?_)
          rintro e wy ⟨rfl, hEy⟩
          rw [decide_eq_false HNE.out]
          go_wp2
          go_ret
          exact ⟨rfl, HEZ.out.trans hEy⟩

set_option maxRecDepth 100000 in
theorem liftedPatchStale (os : Os) (started : os.Started) (H : Type) (enc : TypeId × Value → H) :
    ReturnsInHanded {} Tryd.checked os 3 .any (fun w args => (Rows.patchStaleSpec.pre enc Tryd.prog Tryd.f3 [] false w args ∧ laidMetH Tryd.prog laidL w) ∧ sizedMet enc Tryd.prog Tryd.f3 (OpenSpec.ofChange Rows.patchStaleSpec) false w args) (Rows.patchStaleSpec.post enc Tryd.prog Tryd.f3 false true false false) := by
  refine returnsInHanded_of_change_and (C := Tryd.checked) (X := fun w _ => laidMetH Tryd.prog laidL w) (fun _ _ _ hh h => h.of_heap hh) ownK started (by kernel_rfl) Tryd.func3
    (ChangeSpec.witness_shaped (enc := enc) (C := Tryd.checked) (os := os) (X := fun w _ => laidMetH Tryd.prog laidL w) false (World.laidAll Tryd.prog os laidL) #[.slice none 0 0, .slice none 0 0, .agg #[.int .u16 0, .int .u8 0]] 8 (World.laidAll_os _ _ _)
      (World.shaped_of_ZipB (by kernel_rfl) (by kernel_rfl)) (by kernel_rfl) (by kernel_rfl) (by kernel_rfl)
      (by rw [MakeChecks.laidMetH_plain _ _ _ (by kernel_rfl)]; exact laidMet_laidAll _ (by kernel_rfl) (by kernel_rfl))) ?_
  intro W base args ds gs before hval0 hW hcnd hsz0 hL _
  have hT := tb_of_laid hL
  have hval : ∀ (j : Nat) t v, Tryd.f3.params[j]? = some t → args[j]? = some v → Value.okWide Tryd.prog W .any base t v := hval0
  have hW' := hW
  obtain ⟨p, q, hA0, hV, rfl, hfz, hnd⟩ := hW
  have hA : DataW.TrodAll enc Tryd.prog W 0 (fun _ => true) true Tryd.f3.params.toList args.toList ds p := hA0
  have hsz : (DataW.weightsEach Tryd.prog (Tryd.f3.params.toList ++ Rows.patchStaleSpec.plain.varTypes Tryd.prog) (ds ++ gs)).all (· ≤ reachBytes) = true := hsz0
  rw [Tryd.params3] at hA hval hsz
  obtain ⟨v0, vs0, d0, ds0, p0, q0, hargs0, rfl, rfl, h0, r0⟩ := trodAll_cons hA
  obtain ⟨v1, vs1, d1, ds1, p1, q1, hargs1, rfl, rfl, h1, r1⟩ := trodAll_cons r0
  obtain ⟨v2, vs2, d2, ds2, p2, q2, hargs2, rfl, rfl, h2, r2⟩ := trodAll_cons r1
  obtain ⟨rfl, rfl, rfl⟩ := trodAll_nil r2
  obtain rfl : args = #[v0, v1, v2] := by cases args; simp_all
  obtain ⟨rfl, rfl⟩ := trodVars_none hV
  have k0 := h0
  have lt0 : ∀ x ∈ p0, x.block < W.heap.size := by obtain ⟨m, hm⟩ := k0; exact DataW.trod_lt m _ _ _ hm
  have k1 := h1
  have lt1 : ∀ x ∈ p1, x.block < W.heap.size := by obtain ⟨m, hm⟩ := k1; exact DataW.trod_lt m _ _ _ hm
  have k2 := h2
  have lt2 : ∀ x ∈ p2, x.block < W.heap.size := by obtain ⟨m, hm⟩ := k2; exact DataW.trod_lt m _ _ _ hm
  obtain ⟨A0, m0, c0, l0, rfl, w0, hc0, hb0⟩ := opn_top_bytes (hval 0 22 v0 rfl rfl) h0 (WOk.top hsz (j := 0) rfl rfl)
  obtain ⟨A1, m1, c1, l1, rfl, w1, hc1, hb1⟩ := opn_top_bytes (hval 1 22 v1 rfl rfl) h1 (WOk.top hsz (j := 1) rfl rfl)
  obtain ⟨x2, rfl, g2⟩ := opn_top_agg opn_chg ((okWide_struct Tryd.underlying25 (hval 2 25 v2 rfl rfl)).imp fun _ hh => hh.1) h2 (WOk.top hsz (j := 2) rfl rfl)
  obtain ⟨p2, q2⟩ := x2
  clear hA0 hval0
  refine (pstale_walk p2 q2 g2.1 g2.2 w0 w1 hc0 hc1 hT).mono fun e W' ⟨he, bel⟩ => ?_
  subst he
  exact ⟨_, rfl, _, _, _, [], _, [], hW', trodAll_mk1 (shut_bool Tryd.underlying4 _), (trodAll_cons_mk (Below.trod laidK (by kernel_rfl) (of_decide_eq_true (by kernel_rfl)) k0 bel lt0) (trodAll_cons_mk (Below.trod laidK (by kernel_rfl) (of_decide_eq_true (by kernel_rfl)) k1 bel lt1) (trodAll_cons_mk (Below.trod laidK (by kernel_rfl) (of_decide_eq_true (by kernel_rfl)) k2 bel lt2) trodAll_mk0))), rfl, Below.frame bel _, fun h => by cases h⟩
theorem PatchStale_row : Rows.PatchStaleSaid :=
  OpenClaim.holds_of_wide 3 Tryd.f3 rfl rfl rfl rfl rfl rfl rfl ⟨rfl, rfl, rfl, rfl, rfl⟩ rfl rfl rfl rfl rfl (by kernel_rfl) Tryd.func3 (by kernel_rfl)
    (of_decide_eq_true (by kernel_rfl)) (by unfold Func.isWrapper; rw [if_neg (of_decide_eq_false (by kernel_rfl))]; exact ⟨rfl, rfl⟩)
    (fun os started H enc _ => liftedPatchStale os started H enc)
theorem PatchStale_holds : Rows.PatchStaleCardSaid :=
  Claim7.holds_tied_plain_at .later [] Rows.patchStaleCard.laidKinds true Rows.patchStaleCard.stood.harness Rows.patchStaleCard.stood.looks
    PatchStale_row (fun _ h => by cases h) (by kernel_rfl) (fun _ h => by cases h) patchStale_row_tie rfl ⟨rfl, rfl⟩ (by kernel_rfl) rfl
    (fun f fn hf hfn => by
      obtain rfl : f = 3 := Option.some.inj ((show Tryd.prog.funcNamed Rows.patchStaleRow.func = some 3 by kernel_rfl).symm.trans hf) |>.symm
      obtain rfl : fn = Tryd.f3 := (Option.some.inj (Tryd.func3.symm.trans hfn)).symm
      exact ⟨by kernel_rfl, fun j t ht => by
        rw [Tryd.params3] at ht
        have hm : t ∈ [22, 25] := by simpa using Array.mem_of_getElem? ht
        have hall : ([22, 25].all fun u => !Tryd.prog.wantsStandIn u) = true := by kernel_rfl
        exact (show Tryd.prog.wantsStandIn t = false by simpa using List.all_eq_true.1 hall t hm)⟩)
    (by kernel_rfl)
#print axioms PatchStale_holds
end Go.Proofs.YtghndnacmpckbaaDoor
