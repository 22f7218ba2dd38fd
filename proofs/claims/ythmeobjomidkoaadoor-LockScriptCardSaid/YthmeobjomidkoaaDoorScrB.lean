/- The reference's Holder, Proper, Release. -/
import Derived.Test.YthmeobjomidkoaaDoorScrA
import Derived.Test.YthmeobjomidkoaaDoorRNames
namespace Go.Proofs.YthmeobjomidkoaaDoor
open Go.RowKit Go.Maps
set_option maxRecDepth 100000
attribute [local go_sem] ext_refl_t ext_alloc_t ext_drew_t ext_drewN_t ext_alloc2_t ext_alloc3_t ext_alloc4_t ext_alloc5_t ext_alloc6_t ext_alloc7_t ext_alloc8_t ext_alloc1d_t ext_alloc2d_t ext_alloc3d_t ext_alloc4d_t
theorem tab_none {F : LF} {l : List Lk} (hT : Tab F l) (hK : KeyOk F) {a i : ByteArray} (h : FZ l a i (-1)) : F a i = none := by
  rcases h with ⟨_, h⟩ | ⟨k, h, _⟩
  · cases hF : F a i with
    | none => rfl
    | some x =>
      obtain ⟨h1, h2, _⟩ := hK a i x hF
      have hm : x ∈ l := (hT.mem x).2 (by rw [h1, h2]; exact hF)
      have h3 := h x hm
      rw [keyB_iff.2 ⟨h1, h2⟩] at h3
      cases h3
  · omega
theorem tab_some {F : LF} {l : List Lk} (hT : Tab F l) {a i : ByteArray} {k : Nat} (h : FZ l a i k) : ∃ hk : k < l.length, F a i = some l[k] := by
  rcases h with ⟨h, _⟩ | ⟨j, h, hj, hk⟩
  · omega
  · have : k = j := by omega
    subst this
    refine ⟨hj, ?_⟩
    obtain ⟨h1, h2⟩ := keyB_iff.1 hk
    rw [← h1, ← h2]
    exact (hT.mem _).1 (List.getElem_mem hj)
section
variable {w : World} {A : Option Addr} {m : Nat} {l : List Lk} {F : LF}
set_option maxHeartbeats 6400000 in
theorem rholder_lk (c : Nat) (hs : SlC lkC 4 w A m l) (hT : Tab F l) (hK : KeyOk F) (a i : ByteArray) (now : Int) :
    Calls Tryd.prog 21 #[.slice A m c, .string a, .string i, .int .i64 now] w fun e w' => e = .returned (.tuple #[lkV ((heldF F a i now).getD lk0), .bool (heldF F a i now).isSome]) ∧ Ext w w' := by
  have HL := Lib.hid hs.len
  obtain ⟨W0, hW0⟩ : ∃ W0, W0 = w.alloc (Obj.cells #[.string ⟨#[]⟩, .string ⟨#[]⟩, .string ⟨#[]⟩, .int .i64 0] 24) := ⟨_, rfl⟩
  have hb0 : Blk W0 w.heap.size 24 #[.string ⟨#[]⟩, .string ⟨#[]⟩, .string ⟨#[]⟩, .int .i64 0] := by rw [hW0]; exact Blk.new w _ _
  have hE0 : Ext w W0 := by rw [hW0]; exact (Ext.refl w).alloc _
  obtain ⟨gr, hgr⟩ : ∃ gr, gr = w.heap.size := ⟨_, rfl⟩
  have HGR := Lib.hid hgr
  rw [← hgr] at hb0
  go_enter Tryd.func21, Tryd.ntmps21
  go_wp2_with (first
    | (go_at_call 37; refine Hid.out ?_))
  rw [← hW0, ← hgr]
  clear hW0 hgr
  refine Hid.mk_ ((rfind_lk c (hs.ext hE0) a i).mono ?_)
  rintro e w1 ⟨⟨z, rfl, hz⟩, hE1⟩
  have hs1 := hs.ext (hE0.trans hE1)
  rcases hz with ⟨rfl, h1⟩ | ⟨k, rfl, hkl, hkb⟩
  · have hF := tab_none hT hK (.inl ⟨rfl, h1⟩ : FZ l a i (-1))
    have HH : Hid (heldF F a i now = none) := by show _ = _; unfold heldF; rw [hF]
    clear hF h1
    have hrb := hb0.below hE1 hb0.lt
    have k0 := hrb.cell 0
    have k1 := hrb.cell 1
    have k2 := hrb.cell 2
    have k3 := hrb.cell 3
    have k4 := hrb.frozen 0
    have k5 := hrb.frozen 1
    have k6 := hrb.frozen 2
    have k7 := hrb.frozen 3
    have HBR : Hid (Blk _ gr 24 _) := hrb
    have HEZ : Hid (Ext w _) := hE0.trans hE1
    clear hrb hb0
    go_wp2
    refine bodyPost_ret (results_cell_row_tmp rfl _ _ gr 24 #[.string ⟨#[]⟩, .string ⟨#[]⟩, .string ⟨#[]⟩, .int .i64 0] (0, 0) _ rfl ((((HBR.out.set_ 0 _).set_ 1 _).set_ 2 _).set_ 3 _) Tryd.underlying24 rfl info_rl) rfl ?_
    rw [HH.out]
    refine ⟨rfl, ?_⟩
    iterate 4 refine Ext.set_ ?_ (by show w.heap.size ≤ gr; rw [HGR.out]; exact Nat.le_refl _) _
    exact HEZ.out
  · obtain ⟨_, hF⟩ := tab_some hT (.inr ⟨k, rfl, hkl, hkb⟩ : FZ l a i k)
    have hkm : k < m := by rw [HL.out]; exact hkl
    have hki : (k : Int) < (m : Int) := by omega
    obtain ⟨b, off, e0, hbl, hcs⟩ := hs1.at_ hkm (by omega)
    have y0 := hcs k hkl 0 (by omega)
    have y1 := hcs k hkl 1 (by omega)
    have y2 := hcs k hkl 2 (by omega)
    have y3 := hcs k hkl 3 (by omega)
    obtain ⟨x, hx⟩ : ∃ x, x = l[k] := ⟨_, rfl⟩
    simp only [← hx, lkC, List.getElem_cons_zero, List.getElem_cons_succ, ← Nat.add_assoc, Nat.add_zero] at y0 y1 y2 y3
    rw [← hx] at hF
    have X0 := laters y0
    have X1 := laters y1
    have X2 := laters y2
    have X3 := laters y3
    have HF := Lib.hid hF
    clear hcs hx hkb hF y0 y1 y2 y3
    go_wp2_with (first
      | (go_at_call 34; refine Hid.out ?_))
    refine Hid.mk_ ((rheld_lk x now).mono ?_)
    rintro e w2 ⟨rfl, hE2⟩
    have hE12 := hE1.trans hE2
    cases hb : heldB now x with
    | false =>
      have HH : Hid (heldF F a i now = none) := by
        show _ = _
        unfold heldF heldB at *
        rw [HF.out]
        have h9 := of_decide_eq_false hb
        exact if_neg h9
      clear hb
      have hrb := hb0.below hE12 hb0.lt
      have k0 := hrb.cell 0
      have k1 := hrb.cell 1
      have k2 := hrb.cell 2
      have k3 := hrb.cell 3
      have k4 := hrb.frozen 0
      have k5 := hrb.frozen 1
      have k6 := hrb.frozen 2
      have k7 := hrb.frozen 3
      have HBR : Hid (Blk _ gr 24 _) := hrb
      have HEZ : Hid (Ext w _) := hE0.trans hE12
      clear hrb hb0
      go_wp2
      refine bodyPost_ret (results_cell_row_tmp rfl _ _ gr 24 #[.string ⟨#[]⟩, .string ⟨#[]⟩, .string ⟨#[]⟩, .int .i64 0] (0, 0) _ rfl ((((HBR.out.set_ 0 _).set_ 1 _).set_ 2 _).set_ 3 _) Tryd.underlying24 rfl info_rl) rfl ?_
      rw [HH.out]
      refine ⟨rfl, ?_⟩
      iterate 4 refine Ext.set_ ?_ (by show w.heap.size ≤ gr; rw [HGR.out]; exact Nat.le_refl _) _
      exact HEZ.out
    | true =>
      have HH : Hid (heldF F a i now = some x) := by
        show _ = _
        unfold heldF heldB at *
        rw [HF.out]
        have h9 := of_decide_eq_true hb
        exact if_pos h9
      clear hb
      have hrb := hb0.below hE12 hb0.lt
      have k0 := hrb.cell 0
      have k1 := hrb.cell 1
      have k2 := hrb.cell 2
      have k3 := hrb.cell 3
      have k4 := hrb.frozen 0
      have k5 := hrb.frozen 1
      have k6 := hrb.frozen 2
      have k7 := hrb.frozen 3
      have HBR : Hid (Blk _ gr 24 _) := hrb
      have HEZ : Hid (Ext w _) := hE0.trans hE12
      clear hrb hb0
      go_wp2
      refine bodyPost_ret (results_cell_row_tmp rfl _ _ gr 24 #[.string x.name, .string x.id, .string x.who, .int .i64 x.til] (0, 0) _ rfl ((((HBR.out.set_ 0 _).set_ 1 _).set_ 2 _).set_ 3 _) Tryd.underlying24 rfl info_rl) rfl ?_
      rw [HH.out]
      refine ⟨rfl, ?_⟩
      iterate 4 refine Ext.set_ ?_ (by show w.heap.size ≤ gr; rw [HGR.out]; exact Nat.le_refl _) _
      exact HEZ.out
end
end Go.Proofs.YthmeobjomidkoaaDoor
