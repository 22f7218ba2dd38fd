/- What the laws of chapter 55 need: awake, few, and what Apply answers for patches that Make made. -/
import Derived.Test.YtghndnacmpckbaaGreatDoorPatA
import Derived.Test.YtghndnacmpckbaaGreatDoorOpen3
namespace Go.Proofs.YtghndnacmpckbaaGreatDoor
open Go.RowKit
set_option maxRecDepth 100000
theorem open_pat (l : List UInt8) : openR pkey (sealL pkey l) = (l, 0) := by rw [open_seal (by decide) (by decide), if_pos rfl]
section
variable {x y x' : List UInt8} {b e : Nat}
theorem dec_make (h : MkR x y b e) (hx : x.length ≤ 1000000) (hy : y.length ≤ 1000000) : DecO (openR pkey (sealL pkey (encP (mkC x y b e)))).1 (some (mkC x y b e, sumN x, sumN y)) := by
  rw [open_pat]
  exact ⟨rfl, mkC_proper h hx hy⟩
theorem ap_make (h : MkR x y b e) (hx : x.length ≤ 1000000) (hy : y.length ≤ 1000000) {r : List UInt8 × Nat} (hr : ApR x (sealL pkey (encP (mkC x y b e))) r) : r = (y, 0) := by
  refine hr.uniq (.inr ⟨by rw [open_pat], _, dec_make h hx hy, .inr ⟨⟨rfl, rfl⟩, .inr ⟨?_, ?_⟩⟩⟩)
  · show sumN ((mkOps x y b e).flatMap (runO x)) = _
    rw [mk_run h]
  · show _ = ((mkOps x y b e).flatMap (runO x), 0)
    rw [mk_run h]
theorem ap_stale (h : MkR x y b e) (hx : x.length ≤ 1000000) (hy : y.length ≤ 1000000) (hne : ¬ (x'.length = x.length ∧ sumN x' = sumN x)) {r : List UInt8 × Nat} (hr : ApR x' (sealL pkey (encP (mkC x y b e))) r) : r = ([], 17) := by
  refine hr.uniq (.inr ⟨by rw [open_pat], _, dec_make h hx hy, .inl ⟨fun h2 => hne ⟨?_, h2.2⟩, rfl⟩⟩)
  have h3 : (x'.length : Int) = x.length := h2.1
  omega
theorem sz_make (h : MkR x y b e) (hx : x.length ≤ 1000000) (hy : y.length ≤ 1000000) {o n : Int} {c : Nat} (hr : SzR (sealL pkey (encP (mkC x y b e))) o n c) : o = x.length ∧ n = y.length ∧ c = 0 :=
  hr.uniq (.inr ⟨by rw [open_pat], _, dec_make h hx hy, rfl, rfl, rfl⟩)
theorem ap_bad {p : List UInt8} {r : List UInt8 × Nat} {k : Nat} (h : (openR pkey p).2 = k) (hk : k ≠ 0) (hr : ApR x p r) : r = ([], k) :=
  hr.uniq (.inl ⟨by rw [h]; exact hk, by rw [h]⟩)
theorem open_short {p : List UInt8} (h : p.length < 8) : (openR pkey p).2 = 4 := by
  unfold openR
  rw [if_pos h]
theorem mid_le (h : MkR x y b e) : (mkMid y b e).length ≤ y.length := by rw [mkMid_len h.e2]; omega
theorem mid_same (h : MkR x x b e) : (mkMid x b e).length = 0 := by
  rw [mkMid_len h.e2]
  by_cases hb : b < x.length
  · exact absurd rfl (h.bmax hb hb)
  · omega
theorem made_len (h : MkR x y b e) : 8 ≤ (sealL pkey (encP (mkC x y b e))).length ∧ (sealL pkey (encP (mkC x y b e))).length ≤ 250 + y.length := ⟨mk_sealed_ge _, Nat.le_trans mk_len (by have := mid_le h; omega)⟩
end
section
variable {w : World}
set_option maxHeartbeats 800000 in
theorem few_pat {A B : Option Addr} {m k : Nat} (c d : Nat) :
    Calls Tryz.prog 5 #[.slice A m c, .slice B k d] w fun e w' => e = .returned (.bool (decide (m ≤ 1000) && decide (k ≤ 1000))) ∧ Ext w w' := by
  by_cases h1 : m ≤ 1000
  · have h1' : (m : Int) ≤ 1000 := by omega
    by_cases h2 : k ≤ 1000
    · have h2' : (k : Int) ≤ 1000 := by omega
      rw [decide_eq_true h1, decide_eq_true h2]
      go_enter Tryz.func5, Tryz.ntmps5
      go_wp2
      go_ret
      exact ⟨rfl, Ext.refl w⟩
    · have h2' : ¬ (k : Int) ≤ 1000 := by omega
      rw [decide_eq_true h1, decide_eq_false h2]
      go_enter Tryz.func5, Tryz.ntmps5
      go_wp2
      go_ret
      exact ⟨rfl, Ext.refl w⟩
  · have h1' : ¬ (m : Int) ≤ 1000 := by omega
    rw [decide_eq_false h1]
    go_enter Tryz.func5, Tryz.ntmps5
    go_wp2
    go_ret
    exact ⟨rfl, Ext.refl w⟩
set_option maxHeartbeats 1600000 in
theorem awake_pat (hT : Tb w) : Calls Tryz.prog 4 #[] w fun e w' => e = .returned (.bool true) ∧ Ext w w' := by
  have hEa : Ext w (w.alloc (Obj.cells #[.int .u8 5] 5)) := (Ext.refl w).alloc _
  go_enter Tryz.func4, Tryz.ntmps4
  go_wp2_with (first
    | (go_at_call 13; refine Hid.out ?_))
  refine Hid.mk_ ((make_any 0 1 (x := []) (y := [5]) SlB.nil_ (SlB.new_ w [5] (by decide) _ rfl (0, 0) 1 rfl _) (by omega) (by omega) (by omega) (by omega) (hT.ext hEa).tz).mono ?_)
  rintro e w1 ⟨⟨A1, m1, c1, b, e1, rfl, ho1, hMk⟩, hE1⟩
  have hE01 := hEa.trans hE1
  have hm1 : m1 ≤ 1000000 := by have h1 := ho1.len; have h2 := (made_len hMk).2; rw [← h1] at h2; simp at h2; omega
  go_wp2_with (first
    | (go_at_call 8; refine Hid.out ?_))
  refine Hid.mk_ ((papply_any 0 c1 (x := []) SlB.nil_ (by omega) (by omega) ho1.sl ho1.cap hm1 (hT.ext hE01)).mono ?_)
  rintro e w2 ⟨⟨A2, m2, c2, l2, code, rfl, ho2, hA2⟩, hE2⟩
  obtain ⟨rfl, rfl⟩ := Prod.mk.inj (ap_make hMk (by decide) (by decide) hA2)
  have hE02 := hE01.trans hE2
  have hEb : Ext w2 (w2.alloc (Obj.cells #[.int .u8 1] 5)) := (Ext.refl w2).alloc _
  have hn : SlB (w2.alloc (Obj.cells #[.int .u8 1] 5)) (some ⟨w2.heap.size, 0, none⟩) 1 [1] := SlB.new_ w2 [1] (by decide) _ rfl (0, 0) 1 rfl _
  go_wp2_with (first
    | (go_at_call 8; refine Hid.out ?_))
  refine Hid.mk_ ((papply_any 1 c1 hn (by omega) (by omega) ((ho1.sl.ext hE2).ext hEb) ho1.cap hm1 (hT.ext (hE02.trans hEb))).mono ?_)
  rintro e w3 ⟨⟨A3, m3, c3, l3, code3, rfl, ho3, hA3⟩, hE3⟩
  obtain ⟨rfl, rfl⟩ := Prod.mk.inj (ap_stale hMk (by decide) (by decide) (by simp) hA3)
  have hE03 := hE02.trans (hEb.trans hE3)
  have hE23 := hEb.trans hE3
  have hs2 := (ho2.sl.ext hE23).ext ((Ext.refl w3).alloc (Obj.cells #[.int .u8 5] 5))
  clear hA2 hA3 hMk ho1 ho3 hn hm1
  go_wp2_with (first
    | (go_at_call 12; refine Hid.out ?_))
  refine Hid.mk_ ((same3B c2 1 hs2 (SlB.new_ w3 [5] (by decide) _ rfl (0, 0) 1 rfl _)).mono ?_)
  rintro e w4 ⟨rfl, hE4⟩
  rw [decide_eq_true rfl]
  go_wp2
  go_ret
  exact ⟨rfl, (hE03.alloc _).trans hE4⟩
end
end Go.Proofs.YtghndnacmpckbaaGreatDoor
