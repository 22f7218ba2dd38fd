/- The entry of an extracted one that the catalog does not have: what the program computes. -/
import Derived.Test.YtgnchicipmomlaaGreatDoorPK28
import Derived.Test.YtgnchicipmomlaaGreatDoorPK29
import Derived.Deep.DeepCutAuto
import Derived.Test.YtgnchicipmomlaaGreatDoorPK26
import Derived.Test.YtgnchicipmomlaaGreatDoorPK15
namespace Go.Proofs.YtgnchicipmomlaaGreatDoor
open Go.RowKit
set_option maxRecDepth 100000
attribute [local go_sem] ext_refl_t ext_alloc_t ext_drew_t ext_drewN_t ext_alloc2_t ext_alloc3_t ext_alloc4_t ext_alloc5_t ext_alloc6_t ext_alloc7_t ext_alloc8_t ext_alloc1d_t ext_alloc2d_t ext_alloc3d_t ext_alloc4d_t
theorem bestE_none {c : List Ep} {src : ByteArray} {tk : List ByteArray} (h : ¬ 700 ≤ (bestN (fun z => simP src z.src) (mayP tk) c c.length).2) : bestE c src tk = none := by
  unfold bestE bestP
  rw [if_neg h]
  rfl
theorem fresh_cut {w W3 w5 w6 wz w9 : World} {S : Nat → Prop} {g5 gr : Nat} {p : Ep} {h5 h6 : SlH} (hE3 : Ext w W3) (hS : ∀ g, S g → g < w.heap.size) (hgr : w.heap.size ≤ gr ∧ gr < W3.heap.size) (hres : Blk W3 gr 39 entZ) (hE35 : Ext W3 w5) (hE56 : Ext w5 w6) (hE6z : Ext w6 wz)
    (hk9 : KpS (fun g => g = g5) wz w9) (hb9 : Blk w9 g5 39 (entA p h5 ⟨none, 0, 0⟩ h6)) (k5 : StrsW w5 h5 p.com) (n5 : ∀ k, ob h5.A = some k → W3.heap.size ≤ k) (k6 : FdsW w6 h6 p.fd) (n6 : ∀ k, ob h6.A = some k → W3.heap.size ≤ k) (hp : p.fl = [])
    (a5 : Apart (some g5) h5) (a6 : Apart (some g5) h6) (hg5 : W3.heap.size ≤ g5) (hid : GoodStr p.id) (hsrc : GoodStr p.src) (htgt : GoodStr p.tgt) (hst : p.st = 0) : OutS w w9 S g5 gr p h5 ⟨none, 0, 0⟩ h6 ∧ Ext W3 w9 := by
  have hE3z := (hE35.trans hE56).trans hE6z
  have hE39 : Ext W3 w9 := Below.trans hE3z (hk9.toBelow hE3z.size_le (fun g e => by rw [e]; exact hg5))
  have hsz := hE3.size_le
  have hnil : ∀ r, Apart r ⟨none, 0, 0⟩ := fun r => .inl rfl
  have q5 := HW.kp hk9 (k5.ext (hE56.trans hE6z)) (ApS.of_apart fun g e => by rw [e]; exact a5)
  have q6 := HW.kp hk9 (k6.ext hE6z) (ApS.of_apart fun g e => by rw [e]; exact a6)
  refine ⟨⟨hb9, hres.below hE39 hgr.2, by omega, ⟨q5, ?_, q6, hid, hsrc, htgt, by rw [hst]; omega⟩, ⟨a5, Apart.of_ge n5 hgr.2, fun g hg => Apart.of_ge n5 (Nat.lt_of_lt_of_le hg hsz)⟩, ⟨hnil _, hnil _, fun g _ => hnil _⟩, ⟨a6, Apart.of_ge n6 hgr.2, fun g hg => Apart.of_ge n6 (Nat.lt_of_lt_of_le hg hsz)⟩, hS, by omega, hgr.1, fun e => by have := hS _ e; omega, fun e => by have := hS _ e; omega, ?_⟩, hE39⟩
  · dsimp only
    rw [hp]
    exact HW.nil_ strF_len
  · exact KpS.of_ext _ (hE3.trans hE39)
theorem bestE_cat {c : Cat} {src : ByteArray} {tk : List ByteArray} (h : 700 ≤ (bestN (fun z => simP src z.src) (mayP tk) c.p.es c.es.length).2) :
    ∃ j, (bestN (fun z => simP src z.src) (mayP tk) c.p.es c.es.length).1 = j ∧ ∃ hj : j < c.es.length, bestE c.p.es src tk = some (c.es[j]'hj).p := by
  have hlen : c.p.es.length = c.es.length := List.length_map _
  have hp : bestP (fun z => simP src z.src) (mayP tk) c.p.es = some (bestN (fun z => simP src z.src) (mayP tk) c.p.es c.es.length).1 := by unfold bestP; rw [hlen, if_pos h]
  obtain ⟨z, hz, _⟩ := bestP_ok hp
  obtain ⟨j, hj⟩ : ∃ j, (bestN (fun z => simP src z.src) (mayP tk) c.p.es c.es.length).1 = j := ⟨_, rfl⟩
  rw [hj] at hp hz
  have hz2 : (c.es.map Ent.p)[j]? = some z := hz
  rw [List.getElem?_map] at hz2
  cases he : c.es[j]? with
  | none => rw [he] at hz2; cases hz2
  | some y =>
    obtain ⟨hjl, hy⟩ := List.getElem?_eq_some_iff.1 he
    refine ⟨j, hj, hjl, ?_⟩
    unfold bestE
    rw [hp]
    show c.p.es[j]? = _
    rw [hz]
    rw [he] at hz2
    rw [hy]
    exact hz2.symm
theorem HW.lt' {α : Type} {cs : α → List Value} {k by_ : Nat} {good : α → Prop} {w : World} {h : SlH} {l : List α} (hh : HW cs k by_ good w h l) {g B : Nat} (hg : B ≤ g) (hB : w.heap.size ≤ B) : Apart (some g) h := hh.lt fun g' e => by injection e with e; omega
section
variable {w : World} {B U : Nat} {c : Cat} {R : Nat → SlH} {bi ni bt nt : Nat} {F : ByteArray → Option Nat} {r : Rep} {tk : List ByteArray}
/-- What fresh does beside its result. -/
def FrR (w w' : World) (B U : Nat) (c : Cat) (R : Nat → SlH) (bi ni bt nt : Nat) (F : ByteArray → Option Nat) (r : Rep) (tk : List ByteArray) (x : Ep) (z : Ent) : Prop :=
  ∃ (R' : Nat → SlH) (nt' : Nat), z.p = freshP x (bestE c.p.es x.src tk) ∧ EntW w' z ∧ EntS (UpB U bi bt R') z ∧ (∀ g, g < w.heap.size → EntA (some g) z) ∧
      UpS w' B U c R' bi ni bt nt' F (match bestE c.p.es x.src tk with | none => addR r 4 x.id | some _ => addR r 3 x.id) (match bestE c.p.es x.src tk with | none => tk | some y => tk ++ [y.id]) ∧ (∀ g, UpB U bi bt R' g → UpB U bi bt R g ∨ w.heap.size ≤ g) ∧ KpS (UpB U bi bt R) w w' ∧ nt' ≤ nt + 1
set_option maxHeartbeats 25600000 in
theorem fresh_any (hU : UpS w B U c R bi ni bt nt F r tk) {w0 : World} (hc0 : CatW w0 c) (hw0 : Ext w0 w) (hBw : w0.heap.size ≤ B) (hB : B ≤ w.heap.size) {x : Ent} (hx : EntW w x) (hxf : x.p.fd.length ≤ 20) (hxs : x.p.src.size ≤ 1000000) (hcs : ∀ y ∈ c.es, y.p.src.size ≤ 1000000) (hl : ∀ i, i < 7 → (repL r i).length ≤ 100000) (hnt : nt ≤ 100000) :
    Calls Tryz.prog 15 #[.pointer (some ⟨U, 0, none⟩), entV x] w fun e w' => ∃ z : Ent, e = .returned (entV z) ∧ FrR w w' B U c R bi ni bt nt F r tk x.p z := by
  obtain ⟨⟨xid, xsrc, xtgt, xcom, xfl, xst, xfd⟩, xhc, xhf, xhd⟩ := x
  unfold entV
  dsimp only at hxf hxs ⊢
  have HU := Lib.hid hU
  have HC := Lib.hid (hc0.ext hw0)
  have HC0 := Lib.hid hc0
  have HW0 := Lib.hid hw0
  have HX := Lib.hid hx
  have HLR := Lib.hid hl
  have HCS := Lib.hid hcs
  have hbq := Blk.new w 48 #[.pointer (some ⟨U, 0, none⟩)]
  have hbx := Blk.new (w.alloc (Obj.cells #[.pointer (some ⟨U, 0, none⟩)] 48)) 39 #[.string xid, .string xsrc, .string xtgt, .slice xhc.A xhc.m xhc.c, .slice xhf.A xhf.m xhf.c, .int .i64 xst, .slice xhd.A xhd.m xhd.c]
  have hbr := Blk.new ((w.alloc (Obj.cells #[.pointer (some ⟨U, 0, none⟩)] 48)).alloc (Obj.cells #[.string xid, .string xsrc, .string xtgt, .slice xhc.A xhc.m xhc.c, .slice xhf.A xhf.m xhf.c, .int .i64 xst, .slice xhd.A xhd.m xhd.c] 39)) 39 #[.string ⟨#[]⟩, .string ⟨#[]⟩, .string ⟨#[]⟩, .slice none 0 0, .slice none 0 0, .int .i64 0, .slice none 0 0]
  obtain ⟨W3, hW3⟩ : ∃ W3, W3 = (((w.alloc (Obj.cells #[.pointer (some ⟨U, 0, none⟩)] 48)).alloc (Obj.cells #[.string xid, .string xsrc, .string xtgt, .slice xhc.A xhc.m xhc.c, .slice xhf.A xhf.m xhf.c, .int .i64 xst, .slice xhd.A xhd.m xhd.c] 39)).alloc (Obj.cells #[.string ⟨#[]⟩, .string ⟨#[]⟩, .string ⟨#[]⟩, .slice none 0 0, .slice none 0 0, .int .i64 0, .slice none 0 0] 39)) := ⟨_, rfl⟩
  have hE3 : Ext w W3 := by rw [hW3]; exact (((Ext.refl w).alloc _).alloc _).alloc _
  have s1 : (w.alloc (Obj.cells #[.pointer (some ⟨U, 0, none⟩)] 48)).heap.size = w.heap.size + 1 := by simp
  have s2 : ((w.alloc (Obj.cells #[.pointer (some ⟨U, 0, none⟩)] 48)).alloc (Obj.cells #[.string xid, .string xsrc, .string xtgt, .slice xhc.A xhc.m xhc.c, .slice xhf.A xhf.m xhf.c, .int .i64 xst, .slice xhd.A xhd.m xhd.c] 39)).heap.size = w.heap.size + 1 + 1 := by simp
  rw [s1] at hbx
  rw [s2] at hbr
  have hbq3 : Blk W3 w.heap.size 48 #[.pointer (some ⟨U, 0, none⟩)] := by rw [hW3]; exact (hbq.alloc _).alloc _
  have hbx3 : Blk W3 (w.heap.size + 1) 39 #[.string xid, .string xsrc, .string xtgt, .slice xhc.A xhc.m xhc.c, .slice xhf.A xhf.m xhf.c, .int .i64 xst, .slice xhd.A xhd.m xhd.c] := by rw [hW3]; exact hbx.alloc _
  have hbr3 : Blk W3 (w.heap.size + 1 + 1) 39 #[.string ⟨#[]⟩, .string ⟨#[]⟩, .string ⟨#[]⟩, .slice none 0 0, .slice none 0 0, .int .i64 0, .slice none 0 0] := by rw [hW3]; exact hbr
  obtain ⟨gq, hgq⟩ : ∃ gq, gq = w.heap.size := ⟨_, rfl⟩
  obtain ⟨gx, hgx⟩ : ∃ gx, gx = w.heap.size + 1 := ⟨_, rfl⟩
  obtain ⟨gr, hgr⟩ : ∃ gr, gr = w.heap.size + 1 + 1 := ⟨_, rfl⟩
  rw [← hgr] at hbr3
  rw [← hgx] at hbx3
  rw [← hgq] at hbq3
  have HBX := Lib.hid hbx3
  have HBQ := Lib.hid hbq3
  clear hbx hbq hbr s1 s2 hx hU hl hc0 hw0 hcs
  go_enter Tryz.func15, Tryz.ntmps15
  go_upto_region 1 with fail
  rw [← hW3, ← hgr, ← hgx, ← hgq]
  have HG : Hid (w.heap.size ≤ gr ∧ gr < W3.heap.size) := ⟨by omega, hbr3.lt⟩
  have HGN : Hid (w.heap.size ≤ gq ∧ w.heap.size ≤ gx ∧ gq < W3.heap.size ∧ gx < W3.heap.size) := ⟨by omega, by omega, HBQ.out.lt, HBX.out.lt⟩
  clear hW3 hgr hgx hgq
  have Q0 := laters (show _ = some (.pointer (some ⟨U, 0, none⟩)) from hbq3.cell 0)
  have X0 := laters (show _ = some (.string xid) from hbx3.cell 0)
  have X1 := laters (show _ = some (.string xsrc) from hbx3.cell 1)
  have X3 := laters (show _ = some (.slice xhc.A xhc.m xhc.c) from hbx3.cell 3)
  have X6 := laters (show _ = some (.slice xhd.A xhd.m xhd.c) from hbx3.cell 6)
  have HBR := Lib.hid hbr3
  have HE3 := Lib.hid hE3
  clear hbq3 hbx3 hbr3
  go_cut [5] from 9 (fun a wx => ∃ (g5 : Nat) (hc hd : SlH), a = .pointer (some ⟨g5, 0, none⟩) ∧ OutS w wx (UpB U bi bt R) g5 gr ⟨xid, xsrc, ⟨#[]⟩, xcom, [], 0, xfd⟩ hc ⟨none, 0, 0⟩ hd ∧ Ext W3 wx ∧ W3.heap.size ≤ g5)
  case first =>
    refine wp_region_held_drew (S := fun w' => Ext W3 w') (by kernel_rfl) (Ext.refl W3).drew ?_
    intro hHeld
    refine wpAnyH_takeD (i := 0) (d := 9) (v := ?_) rfl rfl (by kernel_rfl) (by kernel_rfl) (by kernel_rfl) (fun _ _ _ h => h) (Or.inl ⟨by rfl, ?_⟩) hHeld ?_
    rotate_left
    · rintro w hS4; go_simp; try with_reducible rfl
    simp only [Act.put, List.setIfInBounds_toArray, List.set_cons_zero, List.set_cons_succ]
    refine wpAnyH_takeD (i := 1) (d := 10) (v := ?_) rfl rfl (by kernel_rfl) (by kernel_rfl) (by kernel_rfl) (fun _ _ _ h => h) (Or.inl ⟨by rfl, ?_⟩) hHeld ?_
    rotate_left
    · rintro w hS4; go_simp; try with_reducible rfl
    simp only [Act.put, List.setIfInBounds_toArray, List.set_cons_zero, List.set_cons_succ]
    refine wpAnyH_takeD (i := 2) (d := 11) (v := ?_) rfl rfl (by kernel_rfl) (by kernel_rfl) (by kernel_rfl) (fun _ _ _ h => h) (Or.inl ⟨by rfl, ?_⟩) hHeld ?_
    rotate_left
    · rintro w hS4; go_simp; try with_reducible rfl
    simp only [Act.put, List.setIfInBounds_toArray, List.set_cons_zero, List.set_cons_succ]
    refine wpAnyH_takeD (i := 3) (d := 12) (v := ?_) rfl rfl (by kernel_rfl) (by kernel_rfl) (by kernel_rfl) (fun _ _ _ h => h) (Or.inl ⟨by rfl, ?_⟩) hHeld ?_
    rotate_left
    · rintro w hS4; go_simp; try with_reducible rfl
    simp only [Act.put, List.setIfInBounds_toArray, List.set_cons_zero, List.set_cons_succ]
    refine wpAnyH_takeD (i := 4) (d := 13) (v := ?_) rfl rfl (by kernel_rfl) (by kernel_rfl) (by kernel_rfl) (fun _ _ _ h => h) (Or.inl ⟨by rfl, ?_⟩) hHeld ?_
    rotate_left
    · rintro w hS4; go_simp; try with_reducible rfl
    simp only [Act.put, List.setIfInBounds_toArray, List.set_cons_zero, List.set_cons_succ]
    refine wpAnyH_takeD (i := 5) (d := 14) (v := ?_) rfl rfl (by kernel_rfl) (by kernel_rfl) (by kernel_rfl) (fun _ _ _ h => h) (Or.inl ⟨by rfl, ?_⟩) hHeld ?_
    rotate_left
    · rintro w hS4; go_simp; try with_reducible rfl
    simp only [Act.put, List.setIfInBounds_toArray, List.set_cons_zero, List.set_cons_succ]
    refine wpAnyH_takeD (i := 7) (d := 16) (v := ?_) rfl rfl (by kernel_rfl) (by kernel_rfl) (by kernel_rfl) (fun _ _ _ h => h) (Or.inl ⟨by rfl, ?_⟩) hHeld ?_
    rotate_left
    · rintro w hS4; go_simp; try with_reducible rfl
    simp only [Act.put, List.setIfInBounds_toArray, List.set_cons_zero, List.set_cons_succ]
    refine wpAnyH_takeD (i := 8) (d := 17) (v := ?_) rfl rfl (by kernel_rfl) (by kernel_rfl) (by kernel_rfl) (fun _ _ _ h => h) (Or.inl ⟨by rfl, ?_⟩) hHeld ?_
    rotate_left
    · rintro w hS4; go_simp; try with_reducible rfl
    simp only [Act.put, List.setIfInBounds_toArray, List.set_cons_zero, List.set_cons_succ]
    have hEd : Ext W3 W3.drew := (Ext.refl W3).drew
    refine wpAnyH_ready (rs := [6, 11]) (by kernel_rfl) (by simp) ?_
    refine AllReadyH.cons rfl (fun K hK => ?_) (AllReadyH.cons rfl (fun K hK => ?_) AllReadyH.nil)
    · go_simp
      go_at_call 12
      refine (cloneS_any (HX.out.c.ext (HE3.out.trans hEd))).mono ?_
      rintro e w5 ⟨⟨a5, m5, c5⟩, rfl, k5, o5, hE5⟩
      have hE35 : Ext W3 w5 := Ext.trans hEd hE5
      refine hK.out _ _ hE35 (fun _ => ?_)
      clear hK K hHeld
      have hHeld : Ext W3 w5 := hE35
      refine wpAnyH_ready (rs := [9, 11]) (by kernel_rfl) (by simp) ?_
      refine AllReadyH.cons rfl (fun K hK => ?_) (AllReadyH.cons rfl (fun K hK => ?_) AllReadyH.nil)
      · go_simp
        go_at_call 13
        refine (cloneF_any (HX.out.d.ext ((HE3.out.trans hE35).trans (Ext.refl w5)))).mono ?_
        rintro e w6 ⟨⟨a6, m6, c6⟩, rfl, k6, o6, hE6⟩
        have hE56 : Ext w5 w6 := Ext.trans (Ext.refl w5) hE6
        have hE36 := hE35.trans hE56
        refine hK.out _ _ hE36 (fun _ => ?_)
        clear hK K hHeld
        have hHeld : Ext W3 w6 := hE36
        refine wpAnyH_takeD (i := 10) (d := 19) (v := ?_) rfl rfl (by kernel_rfl) (by kernel_rfl) (by kernel_rfl) (fun _ _ _ h => h) (Or.inl ⟨by rfl, ?_⟩) hHeld ?_
        rotate_left
        · rintro w hS4; go_simp; try with_reducible rfl
        simp only [Act.put, List.setIfInBounds_toArray, List.set_cons_zero, List.set_cons_succ]
        refine wpAnyH_ready (rs := [11]) (by kernel_rfl) (by simp) ?_
        refine AllReadyH.cons rfl (fun K hK => ?_) AllReadyH.nil
        go_simp
        refine hK.out _ _ (Ext.alloc hE36 (.cells entZ 39)) (fun _ => ?_)
        clear hK K hHeld
        have hHeld : Ext W3 ((w6).alloc (.cells entZ 39)) := Ext.alloc hE36 _
        have hbz : Blk ((w6.alloc (.cells entZ 39))) (w6.heap.size) 39 entZ := (Blk.new w6 39 entZ)
        obtain ⟨w9, hw9⟩ : ∃ w9, w9 = ((w6.alloc (.cells entZ 39))).setRow (w6.heap.size) (entA ⟨xid, xsrc, ⟨#[]⟩, xcom, [], 0, xfd⟩ ⟨a5, m5, c5⟩ ⟨none, 0, 0⟩ ⟨a6, m6, c6⟩) := ⟨_, rfl⟩
        have hk9 : KpS (fun k => k = w6.heap.size) ((w6.alloc (.cells entZ 39))) w9 := by rw [hw9]; exact (KpS.grown (grown_setRow _ _ _)).mono fun k _ e => (Option.some.inj e).symm
        have hb9 : Blk w9 (w6.heap.size) 39 (entA ⟨xid, xsrc, ⟨#[]⟩, xcom, [], 0, xfd⟩ ⟨a5, m5, c5⟩ ⟨none, 0, 0⟩ ⟨a6, m6, c6⟩) := by rw [hw9]; exact setRow_heap _ _ _ _ _ _ hbz
        have hcut := fresh_cut (g5 := w6.heap.size) (p := ⟨xid, xsrc, ⟨#[]⟩, xcom, [], 0, xfd⟩) HE3.out (fun g hg => HU.out.lt hg) HG.out HBR.out hE35 hE56 ((Ext.refl w6).alloc _) hk9 hb9 k5 (fun k hk => Nat.le_trans (by simp) (o5.ge k hk)) k6 (fun k hk => Nat.le_trans (Nat.le_trans hE35.size_le (by simp)) (o6.ge k hk)) rfl (k5.lt' (Nat.le_refl _) hE56.size_le) (k6.lt fun g hg => by injection hg with hg; omega) (Nat.le_trans hE35.size_le hE56.size_le) HX.out.id HX.out.src (by show (0 : Nat) ≤ _; omega) rfl
        refine wpAnyH_storeR (i := 12) (g := w6.heap.size) (cells := entA ⟨xid, xsrc, ⟨#[]⟩, xcom, [], 0, xfd⟩ ⟨a5, m5, c5⟩ ⟨none, 0, 0⟩ ⟨a6, m6, c6⟩) (by kernel_rfl) rfl rfl rfl rfl rfl rfl hbz info_ent7 rfl (by simp [entA, Value.oneCell']) (by have h9 := hcut.2; rw [hw9] at h9; exact h9) ?_
        change wpAnyH _ _ _ _ _ _ _ _ (((w6.alloc (.cells entZ 39))).setRow (w6.heap.size) (entA ⟨xid, xsrc, ⟨#[]⟩, xcom, [], 0, xfd⟩ ⟨a5, m5, c5⟩ ⟨none, 0, 0⟩ ⟨a6, m6, c6⟩))
        rw [← hw9]
        have HCUT := Lib.hid hcut
        have HGE : Hid (W3.heap.size ≤ w6.heap.size) := (Nat.le_trans hE35.size_le hE56.size_le)
        clear hcut hb9 hk9 hw9 hbz hHeld
        refine wpAnyH_done (by kernel_rfl) ?_ _
        go_wp2
        go_meet
        case rel => exact ⟨_, _, _, rfl, HCUT.out.1, HCUT.out.2, HGE.out⟩
      · go_simp
        refine hK.out _ _ (Ext.alloc hE35 (.cells entZ 39)) (fun _ => ?_)
        clear hK K hHeld
        have hHeld : Ext W3 ((w5).alloc (.cells entZ 39)) := Ext.alloc hE35 _
        refine wpAnyH_ready (rs := [9]) (by kernel_rfl) (by simp) ?_
        refine AllReadyH.cons rfl (fun K hK => ?_) AllReadyH.nil
        go_simp
        go_at_call 13
        refine (cloneF_any (HX.out.d.ext ((HE3.out.trans hE35).trans ((Ext.refl w5).alloc _)))).mono ?_
        rintro e w6 ⟨⟨a6, m6, c6⟩, rfl, k6, o6, hE6⟩
        have hE56 : Ext w5 w6 := Ext.trans ((Ext.refl w5).alloc _) hE6
        have hE36 := hE35.trans hE56
        refine hK.out _ _ hE36 (fun _ => ?_)
        clear hK K hHeld
        have hHeld : Ext W3 w6 := hE36
        refine wpAnyH_takeD (i := 10) (d := 19) (v := ?_) rfl rfl (by kernel_rfl) (by kernel_rfl) (by kernel_rfl) (fun _ _ _ h => h) (Or.inl ⟨by rfl, ?_⟩) hHeld ?_
        rotate_left
        · rintro w hS4; go_simp; try with_reducible rfl
        simp only [Act.put, List.setIfInBounds_toArray, List.set_cons_zero, List.set_cons_succ]
        have hbz : Blk (w6) (w5.heap.size) 39 entZ := ((Blk.new w5 39 entZ).below hE6 (by simp))
        obtain ⟨w9, hw9⟩ : ∃ w9, w9 = (w6).setRow (w5.heap.size) (entA ⟨xid, xsrc, ⟨#[]⟩, xcom, [], 0, xfd⟩ ⟨a5, m5, c5⟩ ⟨none, 0, 0⟩ ⟨a6, m6, c6⟩) := ⟨_, rfl⟩
        have hk9 : KpS (fun k => k = w5.heap.size) (w6) w9 := by rw [hw9]; exact (KpS.grown (grown_setRow _ _ _)).mono fun k _ e => (Option.some.inj e).symm
        have hb9 : Blk w9 (w5.heap.size) 39 (entA ⟨xid, xsrc, ⟨#[]⟩, xcom, [], 0, xfd⟩ ⟨a5, m5, c5⟩ ⟨none, 0, 0⟩ ⟨a6, m6, c6⟩) := by rw [hw9]; exact setRow_heap _ _ _ _ _ _ hbz
        have hcut := fresh_cut (g5 := w5.heap.size) (p := ⟨xid, xsrc, ⟨#[]⟩, xcom, [], 0, xfd⟩) HE3.out (fun g hg => HU.out.lt hg) HG.out HBR.out hE35 hE56 (Ext.refl w6) hk9 hb9 k5 (fun k hk => Nat.le_trans (by simp) (o5.ge k hk)) k6 (fun k hk => Nat.le_trans (Nat.le_trans hE35.size_le (by simp)) (o6.ge k hk)) rfl (k5.lt fun g hg => by injection hg with hg; omega) (Apart.of_ge (fun k hk => o6.ge k hk) (by simp)) hE35.size_le HX.out.id HX.out.src (by show (0 : Nat) ≤ _; omega) rfl
        refine wpAnyH_storeR (i := 12) (g := w5.heap.size) (cells := entA ⟨xid, xsrc, ⟨#[]⟩, xcom, [], 0, xfd⟩ ⟨a5, m5, c5⟩ ⟨none, 0, 0⟩ ⟨a6, m6, c6⟩) (by kernel_rfl) rfl rfl rfl rfl rfl rfl hbz info_ent7 rfl (by simp [entA, Value.oneCell']) (by have h9 := hcut.2; rw [hw9] at h9; exact h9) ?_
        change wpAnyH _ _ _ _ _ _ _ _ ((w6).setRow (w5.heap.size) (entA ⟨xid, xsrc, ⟨#[]⟩, xcom, [], 0, xfd⟩ ⟨a5, m5, c5⟩ ⟨none, 0, 0⟩ ⟨a6, m6, c6⟩))
        rw [← hw9]
        have HCUT := Lib.hid hcut
        have HGE : Hid (W3.heap.size ≤ w5.heap.size) := hE35.size_le
        clear hcut hb9 hk9 hw9 hbz hHeld
        refine wpAnyH_done (by kernel_rfl) ?_ _
        go_wp2
        go_meet
        case rel => exact ⟨_, _, _, rfl, HCUT.out.1, HCUT.out.2, HGE.out⟩
    · go_simp
      refine hK.out _ _ (Ext.alloc hEd (.cells entZ 39)) (fun _ => ?_)
      clear hK K hHeld
      have hHeld : Ext W3 ((W3.drew).alloc (.cells entZ 39)) := Ext.alloc hEd _
      refine wpAnyH_ready (rs := [6]) (by kernel_rfl) (by simp) ?_
      refine AllReadyH.cons rfl (fun K hK => ?_) AllReadyH.nil
      go_simp
      go_at_call 12
      refine (cloneS_any (HX.out.c.ext (HE3.out.trans hHeld))).mono ?_
      rintro e w5 ⟨⟨a5, m5, c5⟩, rfl, k5, o5, hE5⟩
      have hE35 : Ext W3 w5 := Ext.trans hHeld hE5
      refine hK.out _ _ hE35 (fun _ => ?_)
      clear hK K hHeld
      have hHeld : Ext W3 w5 := hE35
      refine wpAnyH_ready (rs := [9]) (by kernel_rfl) (by simp) ?_
      refine AllReadyH.cons rfl (fun K hK => ?_) AllReadyH.nil
      go_simp
      go_at_call 13
      refine (cloneF_any (HX.out.d.ext ((HE3.out.trans hE35).trans (Ext.refl w5)))).mono ?_
      rintro e w6 ⟨⟨a6, m6, c6⟩, rfl, k6, o6, hE6⟩
      have hE56 : Ext w5 w6 := Ext.trans (Ext.refl w5) hE6
      have hE36 := hE35.trans hE56
      refine hK.out _ _ hE36 (fun _ => ?_)
      clear hK K hHeld
      have hHeld : Ext W3 w6 := hE36
      refine wpAnyH_takeD (i := 10) (d := 19) (v := ?_) rfl rfl (by kernel_rfl) (by kernel_rfl) (by kernel_rfl) (fun _ _ _ h => h) (Or.inl ⟨by rfl, ?_⟩) hHeld ?_
      rotate_left
      · rintro w hS4; go_simp; try with_reducible rfl
      simp only [Act.put, List.setIfInBounds_toArray, List.set_cons_zero, List.set_cons_succ]
      have hb5 := (show Blk (W3.drew.alloc (.cells entZ 39)) W3.heap.size _ _ from Blk.new W3.drew _ _).below hE5 (by simp)
      have hbz : Blk (w6) (W3.heap.size) 39 entZ := (hb5.below hE6 hb5.lt)
      obtain ⟨w9, hw9⟩ : ∃ w9, w9 = (w6).setRow (W3.heap.size) (entA ⟨xid, xsrc, ⟨#[]⟩, xcom, [], 0, xfd⟩ ⟨a5, m5, c5⟩ ⟨none, 0, 0⟩ ⟨a6, m6, c6⟩) := ⟨_, rfl⟩
      have hk9 : KpS (fun k => k = W3.heap.size) (w6) w9 := by rw [hw9]; exact (KpS.grown (grown_setRow _ _ _)).mono fun k _ e => (Option.some.inj e).symm
      have hb9 : Blk w9 (W3.heap.size) 39 (entA ⟨xid, xsrc, ⟨#[]⟩, xcom, [], 0, xfd⟩ ⟨a5, m5, c5⟩ ⟨none, 0, 0⟩ ⟨a6, m6, c6⟩) := by rw [hw9]; exact setRow_heap _ _ _ _ _ _ hbz
      have hcut := fresh_cut (g5 := W3.heap.size) (p := ⟨xid, xsrc, ⟨#[]⟩, xcom, [], 0, xfd⟩) HE3.out (fun g hg => HU.out.lt hg) HG.out HBR.out hE35 hE56 (Ext.refl w6) hk9 hb9 k5 (fun k hk => Nat.le_trans (by simp) (o5.ge k hk)) k6 (fun k hk => Nat.le_trans (Nat.le_trans hE35.size_le (by simp)) (o6.ge k hk)) rfl (Apart.of_ge (fun k hk => o5.ge k hk) (by simp)) (Apart.of_ge (fun k hk => o6.ge k hk) hb5.lt) (Nat.le_refl _) HX.out.id HX.out.src (by show (0 : Nat) ≤ _; omega) rfl
      refine wpAnyH_storeR (i := 12) (g := W3.heap.size) (cells := entA ⟨xid, xsrc, ⟨#[]⟩, xcom, [], 0, xfd⟩ ⟨a5, m5, c5⟩ ⟨none, 0, 0⟩ ⟨a6, m6, c6⟩) (by kernel_rfl) rfl rfl rfl rfl rfl rfl hbz info_ent7 rfl (by simp [entA, Value.oneCell']) (by have h9 := hcut.2; rw [hw9] at h9; exact h9) ?_
      change wpAnyH _ _ _ _ _ _ _ _ ((w6).setRow (W3.heap.size) (entA ⟨xid, xsrc, ⟨#[]⟩, xcom, [], 0, xfd⟩ ⟨a5, m5, c5⟩ ⟨none, 0, 0⟩ ⟨a6, m6, c6⟩))
      rw [← hw9]
      have HCUT := Lib.hid hcut
      have HGE : Hid (W3.heap.size ≤ W3.heap.size) := (Nat.le_refl _)
      clear hcut hb9 hk9 hw9 hbz hHeld
      refine wpAnyH_done (by kernel_rfl) ?_ _
      go_wp2
      go_meet
      case rel => exact ⟨_, _, _, rfl, HCUT.out.1, HCUT.out.2, HGE.out⟩
  case rest =>
    obtain ⟨g5, hc5, hd5, rfl, hO, hE, hg5⟩ := hcut
    have HG5 := Lib.hid hg5
    clear hg5
    obtain ⟨wd, rfl⟩ : ∃ wd : World, wd = wc := ⟨_, rfl⟩
    have HO := Lib.hid hO
    have HE := Lib.hid hE
    clear hO
    have hUc := HU.out.ext (HE3.out.trans hE)
    have Uc0 := laters (show wd.cell? ⟨U, 0, none⟩ = some (.string c.tag) from hUc.blk.cell 0)
    have Uc1 := laters (show wd.cell? ⟨U, 1, none⟩ = some (.slice c.c.A c.c.m c.c.c) from hUc.blk.cell 1)
    have Uc2 := laters (show wd.cell? ⟨U, 2, none⟩ = some (.slice c.d.A c.d.m c.d.c) from hUc.blk.cell 2)
    have Uc3 := laters (show wd.cell? ⟨U, 3, none⟩ = some (.slice c.e.A c.e.m c.e.c) from hUc.blk.cell 3)
    have hEcc := Ext.refl wd
    have hbest := fun (W : World) (hW : Ext wd W) => best_fresh (HC.out.ext ((HE3.out.trans HE.out).trans hW)) xsrc hxs HCS.out (mayP tk) (gy := gq) (fun W2 hW2 y hy => mayFresh_any (Q0 W2 ((HE.out.trans hW).trans hW2)) (show W2.cell? ⟨U, 12, none⟩ = some (.map (some bt)) from ((HU.out.ext ((HE3.out.trans HE.out).trans (hW.trans hW2))).blk.cell 12)) (HU.out.ext ((HE3.out.trans HE.out).trans (hW.trans hW2))).sm y (((HC.out.ext (HE3.out.trans (HE.out.trans (hW.trans hW2)))).e).good y hy).id)
    unfold catV at hbest
    have HBEST := Lib.hid hbest
    clear hbest hUc
    go_upto_region 2 with fail
    go_cut [6, 7] from 20 (fun a b wx => a = .int .i64 ((bestN (fun z => simP xsrc z.src) (mayP tk) c.p.es c.es.length).1 : Nat) ∧ b = .bool (decide (700 ≤ (bestN (fun z => simP xsrc z.src) (mayP tk) c.p.es c.es.length).2)) ∧ Ext wd wx)
    case first =>
      go_region_law (first
        | (go_simp; go_at_call 33; refine (HBEST.out _ (by first | exact Ext.refl _ | exact (Ext.refl _).drew)).mono ?_; rintro e wb ⟨rfl, hEb⟩)
        | fail)
      all_goals
        have HEB : Hid (Ext wd wb) := Ext.trans (by first | exact Ext.refl wd | exact (Ext.refl wd).drew) hEb
        go_wp2
        go_meet
        case rel => exact ⟨rfl, rfl, HEB.out⟩
    obtain ⟨rfl, rfl, hcb⟩ := hcut
    obtain ⟨wb, rfl⟩ : ∃ wb : World, wb = wc := ⟨_, rfl⟩
    have hE3b := HE.out.trans hcb
    have hOb := HO.out.more hcb
    have hEb := hcb
    have hlen : c.p.es.length = c.es.length := List.length_map _
    have HOB := Lib.hid hOb
    have HE3B := Lib.hid hE3b
    have HUB := Lib.hid (HU.out.ext (HE3.out.trans hE3b))
    by_cases h7 : 700 ≤ (bestN (fun z => simP xsrc z.src) (mayP tk) c.p.es c.es.length).2
    case neg =>
      have HBE : Hid (bestE c.p.es xsrc tk = none) := bestE_none (by rw [hlen]; exact h7)
      rw [decide_eq_false h7]
      clear h7 hlen hOb HBEST
      have hEb0 := Ext.refl wb
      have Q1 := laters (Q0 wb hE3b)
      have X1b := laters (X0 wb hE3b)
      have hadd := fun (W : World) (hW : Ext wb W) => add_any (HUB.out.ext hW) (i := 4) (by omega) (o := 8) rfl xid (HLR.out 4 (by omega)) (Nat.le_trans hB ((HE3.out.trans HE3B.out).trans hW).size_le)
      go_wp2
      go_region_law (first
        | (go_simp; go_at_call 32; refine (hadd _ (by first | exact Ext.refl _ | exact (Ext.refl _).drew)).mono ?_; rintro e w8 ⟨rfl, R', hU8, hsub', hk8'⟩; have hsub : ∀ g, UpB U bi bt R' g → UpB U bi bt R g ∨ wb.heap.size ≤ g := hsub'; have hk8 : KpS (UpB U bi bt R) wb w8 := (KpS.of_ext _ (by first | exact Ext.refl wb | exact (Ext.refl wb).drew)).trans hk8' fun _ _ e => e)
        | fail)
      all_goals
        obtain ⟨pF, hpF⟩ : ∃ pF : Ep, pF = ⟨xid, xsrc, ⟨#[]⟩, xcom, [], 0, xfd⟩ := ⟨_, rfl⟩
        obtain ⟨hfF, hhf⟩ : ∃ hfF : SlH, hfF = ⟨none, 0, 0⟩ := ⟨_, rfl⟩
        obtain ⟨hdF, hhd⟩ : ∃ hdF : SlH, hdF = hd5 := ⟨_, rfl⟩
        have HOF := HOB
        rw [← hpF, ← hhf, ← hhd] at HOF
        have HPF : Hid (pF = freshP ⟨xid, xsrc, xtgt, xcom, xfl, xst, xfd⟩ (bestE c.p.es xsrc tk)) := by show _ = _; rw [hpF, HBE.out]; rfl
        clear hpF hhf hhd hadd Q1 X1b hEb0 hk8' hsub'
        have HO8 := Lib.hid (HOF.out.keep hk8)
        have d0 : w8.cell? ⟨g5, 0, none⟩ = some (.string pF.id) := HO8.out.blk.cell 0
        have d1 : w8.cell? ⟨g5, 1, none⟩ = some (.string pF.src) := HO8.out.blk.cell 1
        have d2 : w8.cell? ⟨g5, 2, none⟩ = some (.string pF.tgt) := HO8.out.blk.cell 2
        have d3 : w8.cell? ⟨g5, 3, none⟩ = some (.slice hc5.A hc5.m hc5.c) := HO8.out.blk.cell 3
        have d4 : w8.cell? ⟨g5, 4, none⟩ = some (.slice hfF.A hfF.m hfF.c) := HO8.out.blk.cell 4
        have d5 : w8.cell? ⟨g5, 5, none⟩ = some (.int .i64 pF.st) := HO8.out.blk.cell 5
        have d6 : w8.cell? ⟨g5, 6, none⟩ = some (.slice hdF.A hdF.m hdF.c) := HO8.out.blk.cell 6
        have n0 : w8.cell? ⟨gr, 0, none⟩ = some (.string ⟨#[]⟩) := HO8.out.res.cell 0
        have n1 : w8.cell? ⟨gr, 1, none⟩ = some (.string ⟨#[]⟩) := HO8.out.res.cell 1
        have n2 : w8.cell? ⟨gr, 2, none⟩ = some (.string ⟨#[]⟩) := HO8.out.res.cell 2
        have n3 : w8.cell? ⟨gr, 3, none⟩ = some (.slice none 0 0) := HO8.out.res.cell 3
        have n4 : w8.cell? ⟨gr, 4, none⟩ = some (.slice none 0 0) := HO8.out.res.cell 4
        have n5 : w8.cell? ⟨gr, 5, none⟩ = some (.int .i64 0) := HO8.out.res.cell 5
        have n6 : w8.cell? ⟨gr, 6, none⟩ = some (.slice none 0 0) := HO8.out.res.cell 6
        have m0 := HO8.out.res.frozen 0
        have m1 := HO8.out.res.frozen 1
        have m2 := HO8.out.res.frozen 2
        have m3 := HO8.out.res.frozen 3
        have m4 := HO8.out.res.frozen 4
        have m5 := HO8.out.res.frozen 5
        have m6 := HO8.out.res.frozen 6
        have HFIN := Lib.hid HO8.out.fin
        have HUF := Lib.hid hU8
        have HSUB := Lib.hid hsub
        clear hU8 hsub hk8
        go_wp2
        obtain ⟨fb, fw, fk, fg⟩ := HFIN.out
        refine bodyPost_ret (results_cell_row rfl _ _ gr 39 _ (0, 0) _ rfl fb Tryz.underlying39 rfl info_ent7) rfl ?_
        refine ⟨⟨pF, hc5, hfF, hdF⟩, rfl, R', _, HPF.out, fw, EntS.lt HOF.out.W HOF.out.ents HSUB.out, HOF.out.old, ?_, fun g hg => (HSUB.out g hg).imp_right fun e => Nat.le_trans HOF.out.kp.size e, fk, (Nat.le_succ _)⟩
        rw [HBE.out]
        exact HUF.out.kp fg fun g hg e => by
          rw [e] at hg
          rcases HSUB.out gr hg with h1 | h1
          · exact HOF.out.nr h1
          · have h2 := HOF.out.res.lt; omega
    case pos =>
      obtain ⟨j, hj1, hj2, hbe⟩ := bestE_cat h7
      rw [decide_eq_true h7, hj1]
      have hjm : j < c.e.m := by rw [HC.out.e.sl.len]; exact hj2
      have hcb' := HC.out.ext (HE3.out.trans hE3b)
      obtain ⟨b, off, eA, _, hcs⟩ := hcb'.e.sl.at_ hjm (by omega)
      obtain ⟨y, hyq⟩ : ∃ y, y = c.es[j]'hj2 := ⟨_, rfl⟩
      have y0 := hcs j hj2 0 (by omega)
      have y1 := hcs j hj2 1 (by omega)
      have y2 := hcs j hj2 2 (by omega)
      have y3 := hcs j hj2 3 (by omega)
      have y4 := hcs j hj2 4 (by omega)
      have y5 := hcs j hj2 5 (by omega)
      have y6 := hcs j hj2 6 (by omega)
      simp only [← hyq, entC, List.getElem_cons_zero, List.getElem_cons_succ, Nat.add_zero, ← Nat.add_assoc] at y0 y1 y2 y3 y4 y5 y6
      have hym : y ∈ c.es := by rw [hyq]; exact List.getElem_mem hj2
      have hyW : EntW w y := HC.out.e.good y hym
      have HYW := Lib.hid hyW
      have HYF0 : Hid (∀ W, Ext w0 W → StrsW W y.f y.p.fl) := fun W hW => ((HC0.out.ext hW).e.good y hym).f
      have HBE : Hid (bestE c.p.es xsrc tk = some y.p) := by show _ = _; rw [hbe, hyq]
      have hjI : (j : Int) < (c.e.m : Int) := by omega
      have hj14 : j ≤ 140737488355328 := by have := HC.out.e.sl.le; omega
      have Q1 := laters (Q0 wb hE3b)
      have X0b := laters (X0 wb hE3b)
      have Uc3b := laters (Uc3 wb hcb)
      rw [eA] at Uc3b
      have Ut := laters (show wb.cell? ⟨U, 12, none⟩ = some (.map (some bt)) from HUB.out.blk.cell 12)
      clear hcs hyq hbe hj1 h7 hlen hOb HBEST hcb' Uc0 Uc1 Uc2 Uc3 Q0 X0 X1 X3 X6 hE3b hcb hEb
      obtain ⟨⟨yid, ysrc, ytgt, ycom, yfl, yst, yfd⟩, yhc, yhf, yhd⟩ := y
      dsimp only at y0 y1 y2 y3 y4 y5 y6
      have hEb0 := Ext.refl wb
      clear hyW hym
      go_upto_region 7 with fail
      have hb8 := Blk.new wb 39 #[.string yid, .string ysrc, .string ytgt, .slice yhc.A yhc.m yhc.c, .slice yhf.A yhf.m yhf.c, .int .i64 yst, .slice yhd.A yhd.m yhd.c]
      obtain ⟨W8, hW8⟩ : ∃ W8, W8 = wb.alloc (Obj.cells #[.string yid, .string ysrc, .string ytgt, .slice yhc.A yhc.m yhc.c, .slice yhf.A yhf.m yhf.c, .int .i64 yst, .slice yhd.A yhd.m yhd.c] 39) := ⟨_, rfl⟩
      rw [← hW8] at hb8
      have hE8 : Ext wb W8 := by rw [hW8]; exact (Ext.refl _).alloc _
      obtain ⟨g8, hg8⟩ : ∃ g8, g8 = wb.heap.size := ⟨_, rfl⟩
      rw [← hW8, ← hg8]
      rw [← hg8] at hb8
      have hid9 : yid.size ≤ maxLen := by have h1 := HYW.out.id; unfold GoodStr at h1; unfold maxLen; dsimp only at h1; omega
      have hU8 := HUB.out.ext (hE8.trans (Ext.refl W8).drew)
      obtain ⟨w9, hrun, hsm9, hg9⟩ := hU8.sm.stores (by unfold maxLen; omega) yid hid9
      obtain ⟨hU9, hk9⟩ := hU8.take_ hsm9 hg9
      have HU9 := Lib.hid hU9
      have HK9 : Hid (KpS (UpB U bi bt R) W8 w9) := (KpS.of_ext _ (Ext.refl W8).drew).trans hk9 fun _ _ e => e
      have HG8 := Lib.hid hg8
      have HN8 : Hid (¬ UpB U bi bt R g8 ∧ g8 ≠ g5 ∧ g8 ≠ gr) := ⟨fun e => by have h1 := HUB.out.lt e; omega, fun e => by have h1 := HOB.out.blk.lt; omega, fun e => by have h1 := HOB.out.res.lt; omega⟩
      have HB8 := Lib.hid hb8
      have HO9 := Lib.hid ((HOB.out.more hE8).keep HK9.out)
      have HE08 := Lib.hid hE8
      have HB9 := Lib.hid (HK9.out.blk hb8 HN8.out.1)
      have HE09 : Hid (Ext w0 w9) := Below.trans ((HW0.out.trans (HE3.out.trans HE3B.out)).trans hE8) (HK9.out.toBelow (((HW0.out.trans (HE3.out.trans HE3B.out)).trans hE8).size_le) fun g hg => Nat.le_trans hBw (HUB.out.ge hg))
      have v0 : W8.cell? ⟨g8, 0, none⟩ = some (.string yid) := hb8.cell 0
      have hEb8 := Ext.refl W8
      have Q8 := fun W hW => Q1 W (hE8.trans hW)
      have U8 := fun W hW => Ut W (hE8.trans hW)
      clear hW8 hg8 hU8 hsm9 hg9 hU9 hk9 hid9 hb8 Q1 Ut Uc3b X0b hEb0
      go_cut [] from 49 (fun wx => wx = w9)
      case first =>
        go_region_law (go_simp)
        all_goals
          go_wp2
          go_meet
          case rel => rfl
      obtain rfl := hcut
      have z2 : wc.cell? ⟨g8, 2, none⟩ = some (.string ytgt) := HB9.out.cell 2
      have z4 : wc.cell? ⟨g8, 4, none⟩ = some (.slice yhf.A yhf.m yhf.c) := HB9.out.cell 4
      have hyf9 := (HC0.out.ext HE09.out).e
      have hyf : StrsW wc yhf yfl := HYF0.out _ HE09.out
      clear v0 hEb8 Q8 U8 hyf9 hrun
      have Z2 := laters z2
      have Z4 := laters z4
      have hE9r := Ext.refl wc
      have HYF := Lib.hid hyf
      clear z2 z4 hyf
      obtain ⟨w9, rfl⟩ : ∃ w9 : World, w9 = wc := ⟨_, rfl⟩
      go_upto_region 8 with fail
      go_cut [] from 55 (fun wx => ∃ hf5 : SlH, OutS w wx (UpB U bi bt R) g5 gr ⟨xid, xsrc, ytgt, xcom, yfl, 1, xfd⟩ hc5 hf5 hd5 ∧ KpS (fun g => g = g5) w9 wx)
      case first =>
        go_region_law (first
          | (go_simp; go_at_call 12; refine (cloneS_any (HYF.out.ext (by first | exact Ext.refl _ | exact (Ext.refl _).drew))).mono ?_; rintro e w10 ⟨⟨a10, m10, c10⟩, rfl, k10, o10, hE10'⟩; have hE10 : Ext w9 w10 := Ext.trans (by first | exact Ext.refl w9 | exact (Ext.refl w9).drew) hE10'; have hOx := HO9.out.more hE10; have t2 : w10.cell? ⟨g5, 2, none⟩ = some (.string ⟨#[]⟩) := hOx.blk.cell 2; have t4 : w10.cell? ⟨g5, 4, none⟩ = some (.slice none 0 0) := hOx.blk.cell 4; have t5 : w10.cell? ⟨g5, 5, none⟩ = some (.int .i64 0) := hOx.blk.cell 5; have r2 := hOx.blk.frozen 2; have r4 := hOx.blk.frozen 4; have r5 := hOx.blk.frozen 5)
          | fail)
        all_goals
          have hap : Aps (fun g => g < w.heap.size) g5 gr ⟨a10, m10, c10⟩ := Aps.of_ge (fun k hk => o10.ge k hk) (by first | exact HO9.out.blk.lt | (simp; exact HO9.out.blk.lt)) (by first | exact HO9.out.res.lt | (simp; exact HO9.out.res.lt)) (fun g hg => by first | exact Nat.lt_of_lt_of_le hg HO9.out.kp.size | (simp; exact Nat.lt_of_lt_of_le hg HO9.out.kp.size))
          have h11 := hOx.setTgt ytgt HYW.out.tgt
          have k11 := k10.set_ (p := ⟨g5, 2, none⟩) hap.a (.string ytgt)
          have h12 := (h11.setF k11 hap).setSt 1 (by omega)
          have HF12 := Lib.hid h12
          have HK12 : Hid (KpS (fun g => g = g5) w9 (((w10.setCell ⟨g5, 2, none⟩ (.string ytgt)).setCell ⟨g5, 4, none⟩ (.slice a10 m10 c10)).setCell ⟨g5, 5, none⟩ (.int .i64 1))) :=
            (((KpS.of_ext _ hE10).trans (KpS.setCell w10 g5 2 _) fun _ _ e => e).trans (KpS.setCell _ g5 4 _) fun _ _ e => e).trans (KpS.setCell _ g5 5 _) fun _ _ e => e
          clear hap h11 k11 h12 hOx k10 o10 hE10 hE10'
          go_wp2
          go_meet
          case rel => exact ⟨⟨a10, m10, c10⟩, HF12.out, HK12.out⟩
      obtain ⟨hf5, hO13, hk13⟩ := hcut
      have HO13 := Lib.hid hO13
      have HK13 := Lib.hid hk13
      have HB13 := Lib.hid (hk13.blk HB9.out HN8.out.2.1)
      have HU13 : Hid (UpS wc B U c R bi ni bt (nt + 1) F r (tk ++ [yid])) := HU9.out.kp hk13 fun g hg e => HO9.out.n7 (by rw [← e]; exact hg)
      have u6 : wc.cell? ⟨g5, 6, none⟩ = some (.slice hd5.A hd5.m hd5.c) := hO13.blk.cell 6
      have u0 : wc.cell? ⟨g8, 0, none⟩ = some (.string yid) := HB13.out.cell 0
      have hm13 : hd5.m ≤ 4000 := by have h1 := hO13.W.d.sl.len; dsimp only at h1; omega
      have hset := psetF_any hO13.W.d ⟨#[114, 101, 117, 115, 101, 100]⟩ yid hm13
      dsimp only at hset
      clear hO13 hk13 Z2 Z4 hE9r
      go_wp2_with (first
        | (go_at_call 31; refine Hid.out ?_))
      refine Hid.mk_ ((hset).mono ?_)
      rintro e w14 ⟨⟨A14, m14, c14, L14, rfl, hS14, ho14⟩, hE14⟩
      have hO14 := HO13.out.more hE14
      have e6 : w14.cell? ⟨g5, 6, none⟩ = some (.slice hd5.A hd5.m hd5.c) := hO14.blk.cell 6
      have e6f := hO14.blk.frozen 6
      have hl14 := hS14.len
      have hm14 : m14 ≤ 4000 := by rw [ho14.len]; omega
      have hO15 := hO14.setD (ho14.fds hm14 (hS14.good HO13.out.W.d.good (by show (6 : Nat) ≤ _; omega) HYW.out.id)) (Aps.of_ge (fun k hk => ho14.ge k hk) HO13.out.blk.lt HO13.out.res.lt (fun g hg => Nat.lt_of_lt_of_le hg HO13.out.kp.size))
      have hLe := hS14.eq
      have hk15 : KpS (fun g => g = g5) w9 (w14.setCell ⟨g5, 6, none⟩ (.slice A14 m14 c14)) := ((HK13.out.ext hE14).trans (KpS.setCell w14 g5 6 _) fun _ _ e => e)
      obtain ⟨w15, hw15⟩ : ∃ w15, w15 = w14.setCell ⟨g5, 6, none⟩ (.slice A14 m14 c14) := ⟨_, rfl⟩
      rw [← hw15] at hO15 hk15
      have HW15 := Lib.hid hw15
      have HO15 := Lib.hid hO15
      have HLE := Lib.hid hLe
      have HU15 : Hid (UpS w15 B U c R bi ni bt (nt + 1) F r (tk ++ [yid])) := HU9.out.kp hk15 fun g hg e => HO9.out.n7 (by rw [← e]; exact hg)
      have HK15 := Lib.hid hk15
      clear hw15 hO15 hk15 hLe hset ho14 hS14 hl14 hO14 u6 u0 hE14
      go_upto_region 10 with fail
      rw [← HW15.out]
      have hng : ∀ g, w.heap.size ≤ g → ¬ UpB U bi bt R g := fun g hg e => by have h1 := HU.out.lt e; omega
      have hbq15 := HK15.out.blk (HK9.out.blk (HBQ.out.below (HE3B.out.trans HE08.out) HGN.out.2.2.1) (hng gq HGN.out.1)) (fun e : gq = g5 => by have h1 := HG5.out; have h2 := HGN.out.2.2.1; omega)
      have hbx15 := HK15.out.blk (HK9.out.blk (HBX.out.below (HE3B.out.trans HE08.out) HGN.out.2.2.2) (hng gx HGN.out.2.1)) (fun e : gx = g5 => by have h1 := HG5.out; have h2 := HGN.out.2.2.2; omega)
      have Q9 := laters (show w15.cell? ⟨gq, 0, none⟩ = some (.pointer (some ⟨U, 0, none⟩)) from hbq15.cell 0)
      have X9 := laters (show w15.cell? ⟨gx, 0, none⟩ = some (.string xid) from hbx15.cell 0)
      have hE15 := Ext.refl w15
      have hadd := fun (W : World) (hW : Ext w15 W) => add_any (HU15.out.ext hW) (i := 3) (by omega) (o := 7) rfl xid (HLR.out 3 (by omega)) (Nat.le_trans (Nat.le_trans hB HO15.out.kp.size) hW.size_le)
      clear hng hbq15 hbx15
      go_region_law (first
        | (go_simp; go_at_call 32; refine (hadd _ (by first | exact Ext.refl _ | exact (Ext.refl _).drew)).mono ?_; rintro e w8 ⟨rfl, R', hU8, hsub', hk8'⟩; have hsub : ∀ g, UpB U bi bt R' g → UpB U bi bt R g ∨ w15.heap.size ≤ g := hsub'; have hk8 : KpS (UpB U bi bt R) w15 w8 := (KpS.of_ext _ (by first | exact Ext.refl w15 | exact (Ext.refl w15).drew)).trans hk8' fun _ _ e => e)
        | fail)
      all_goals
        obtain ⟨pF, hpF⟩ : ∃ pF : Ep, pF = ⟨xid, xsrc, ytgt, xcom, yfl, 1, L14⟩ := ⟨_, rfl⟩
        obtain ⟨hfF, hhf⟩ : ∃ hfF : SlH, hfF = hf5 := ⟨_, rfl⟩
        obtain ⟨hdF, hhd⟩ : ∃ hdF : SlH, hdF = ⟨A14, m14, c14⟩ := ⟨_, rfl⟩
        have HOF := HO15
        rw [← hpF, ← hhf, ← hhd] at HOF
        have HPF : Hid (pF = freshP ⟨xid, xsrc, xtgt, xcom, xfl, xst, xfd⟩ (bestE c.p.es xsrc tk)) := by
          show _ = _
          rw [hpF, HBE.out, HLE.out]
          rfl
        clear hpF hhf hhd hadd Q9 X9 hE15 hk8' hsub'
        have HO8 := Lib.hid (HOF.out.keep hk8)
        have d0 : w8.cell? ⟨g5, 0, none⟩ = some (.string pF.id) := HO8.out.blk.cell 0
        have d1 : w8.cell? ⟨g5, 1, none⟩ = some (.string pF.src) := HO8.out.blk.cell 1
        have d2 : w8.cell? ⟨g5, 2, none⟩ = some (.string pF.tgt) := HO8.out.blk.cell 2
        have d3 : w8.cell? ⟨g5, 3, none⟩ = some (.slice hc5.A hc5.m hc5.c) := HO8.out.blk.cell 3
        have d4 : w8.cell? ⟨g5, 4, none⟩ = some (.slice hfF.A hfF.m hfF.c) := HO8.out.blk.cell 4
        have d5 : w8.cell? ⟨g5, 5, none⟩ = some (.int .i64 pF.st) := HO8.out.blk.cell 5
        have d6 : w8.cell? ⟨g5, 6, none⟩ = some (.slice hdF.A hdF.m hdF.c) := HO8.out.blk.cell 6
        have n0 : w8.cell? ⟨gr, 0, none⟩ = some (.string ⟨#[]⟩) := HO8.out.res.cell 0
        have n1 : w8.cell? ⟨gr, 1, none⟩ = some (.string ⟨#[]⟩) := HO8.out.res.cell 1
        have n2 : w8.cell? ⟨gr, 2, none⟩ = some (.string ⟨#[]⟩) := HO8.out.res.cell 2
        have n3 : w8.cell? ⟨gr, 3, none⟩ = some (.slice none 0 0) := HO8.out.res.cell 3
        have n4 : w8.cell? ⟨gr, 4, none⟩ = some (.slice none 0 0) := HO8.out.res.cell 4
        have n5 : w8.cell? ⟨gr, 5, none⟩ = some (.int .i64 0) := HO8.out.res.cell 5
        have n6 : w8.cell? ⟨gr, 6, none⟩ = some (.slice none 0 0) := HO8.out.res.cell 6
        have m0 := HO8.out.res.frozen 0
        have m1 := HO8.out.res.frozen 1
        have m2 := HO8.out.res.frozen 2
        have m3 := HO8.out.res.frozen 3
        have m4 := HO8.out.res.frozen 4
        have m5 := HO8.out.res.frozen 5
        have m6 := HO8.out.res.frozen 6
        have HFIN := Lib.hid HO8.out.fin
        have HUF := Lib.hid hU8
        have HSUB := Lib.hid hsub
        clear hU8 hsub hk8
        go_wp2
        obtain ⟨fb, fw, fk, fg⟩ := HFIN.out
        refine bodyPost_ret (results_cell_row rfl _ _ gr 39 _ (0, 0) _ rfl fb Tryz.underlying39 rfl info_ent7) rfl ?_
        refine ⟨⟨pF, hc5, hfF, hdF⟩, rfl, R', _, HPF.out, fw, EntS.lt HOF.out.W HOF.out.ents HSUB.out, HOF.out.old, ?_, fun g hg => (HSUB.out g hg).imp_right fun e => Nat.le_trans HOF.out.kp.size e, fk, (Nat.le_refl _)⟩
        rw [HBE.out]
        exact HUF.out.kp fg fun g hg e => by
          rw [e] at hg
          rcases HSUB.out gr hg with h1 | h1
          · exact HOF.out.nr h1
          · have h2 := HOF.out.res.lt; omega
end
end Go.Proofs.YtgnchicipmomlaaGreatDoor

/- Whether an extraction is proper: what the program computes. -/
namespace Go.Proofs.YtgnchicipmomlaaGreatDoor
open Go.RowKit
set_option maxRecDepth 100000
attribute [local go_sem] ext_refl_t ext_alloc_t ext_drew_t ext_drewN_t ext_alloc2_t ext_alloc3_t ext_alloc4_t ext_alloc5_t ext_alloc6_t ext_alloc7_t ext_alloc8_t ext_alloc1d_t ext_alloc2d_t ext_alloc3d_t ext_alloc4d_t
section
variable {w : World}
theorem fldV_none : FldV none = .tuple #[.string ⟨#[]⟩, .bool false] := rfl
theorem fldV_some (v : ByteArray) : FldV (some v) = .tuple #[.string v, .bool true] := rfl
set_option maxHeartbeats 12800000 in
theorem proper_any {x : Cat} (hx : CatW w x) {h : SlH} {es : List Ent} (hs : EntsW w h es) (hT : Tabs w) :
    Calls Tryz.prog 11 #[catV x, .slice h.A h.m h.c] w fun e w' => e = .returned (.bool (properP x.p (es.map Ent.p))) ∧ Ext w w' := by
  obtain ⟨tag, com, fd, xes, hc, hd, he⟩ := x
  have HX := Lib.hid hx
  have HS := Lib.hid hs
  have HTT := Lib.hid hT
  unfold catV
  dsimp only
  have hb := Blk.new w 32 #[.string tag, .slice hc.A hc.m hc.c, .slice hd.A hd.m hd.c, .slice he.A he.m he.c]
  have hE1 : Ext w (w.alloc (Obj.cells #[.string tag, .slice hc.A hc.m hc.c, .slice hd.A hd.m hd.c, .slice he.A he.m he.c] 32)) := (Ext.refl w).alloc _
  obtain ⟨W1, hW1⟩ : ∃ W1, W1 = w.alloc (Obj.cells #[.string tag, .slice hc.A hc.m hc.c, .slice hd.A hd.m hd.c, .slice he.A he.m he.c] 32) := ⟨_, rfl⟩
  rw [← hW1] at hb hE1
  obtain ⟨g, hg⟩ : ∃ g, g = w.heap.size := ⟨_, rfl⟩
  rw [← hg] at hb
  have X0 := laters (show _ = some (.string tag) from hb.cell 0)
  have X1 := laters (show _ = some (.slice hc.A hc.m hc.c) from hb.cell 1)
  have X2 := laters (show _ = some (.slice hd.A hd.m hd.c) from hb.cell 2)
  have X3 := laters (show _ = some (.slice he.A he.m he.c) from hb.cell 3)
  have HL := Lib.hid hs.sl.len
  have hle := hs.sl.le
  clear hb hx hs hT
  have hEr := Ext.refl W1
  go_enter Tryz.func11, Tryz.ntmps11
  go_upto_region 1 with fail
  rw [← hW1, ← hg]
  clear hW1 hg
  have HE1 := Lib.hid hE1
  go_wp2
  go_loopw [13] (fun v wr => ∃ q : Nat, q ≤ h.m ∧ v = .int .i64 q ∧ Hid (((es.map Ent.p).take q).all noTake = true) ∧ Ext W1 wr) (fun v _ => h.m - (intOf v).toNat)
  case atStart => exact ⟨0, Nat.zero_le _, rfl, rfl, Ext.refl _⟩
  case round =>
    obtain ⟨q, hq, rfl, HQ, hE⟩ := hrel
    by_cases hlt : q < h.m
    · obtain ⟨b, off, eA, _, hcs⟩ := (HS.out.sl.ext (HE1.out.trans hE)).at_ hlt (by omega)
      have hlt1 : q < es.length := by rw [← HL.out]; exact hlt
      obtain ⟨y, hyq⟩ : ∃ y, y = es[q] := ⟨_, rfl⟩
      have y0 := hcs q hlt1 0 (by omega)
      have y1 := hcs q hlt1 1 (by omega)
      have y2 := hcs q hlt1 2 (by omega)
      have y3 := hcs q hlt1 3 (by omega)
      have y4 := hcs q hlt1 4 (by omega)
      have y5 := hcs q hlt1 5 (by omega)
      have y6 := hcs q hlt1 6 (by omega)
      simp only [← hyq, entC, List.getElem_cons_zero, List.getElem_cons_succ, Nat.add_zero, ← Nat.add_assoc] at y0 y1 y2 y3 y4 y5 y6
      have HYD : Hid (FdsW w y.d y.p.fd) := (HS.out.good y (by rw [hyq]; exact List.getElem_mem hlt1)).d
      have HTK : Hid (((es.map Ent.p).take (q + 1)).all noTake = noTake y.p) := by
        show _ = _
        have hl : q < (es.map Ent.p).length := by rw [List.length_map]; exact hlt1
        rw [List.take_succ_eq_append_getElem hl, List.all_append, HQ.out, Bool.true_and, hyq]
        simp
      have HMEM : Hid (y.p ∈ es.map Ent.p) := by show _ ∈ _; rw [hyq]; exact List.mem_map_of_mem (List.getElem_mem hlt1)
      have hi1 : (q : Int) < (h.m : Int) := by omega
      clear hcs hyq
      obtain ⟨⟨yid, ysrc, ytgt, ycom, yfl, yst, yfd⟩, yhc, yhf, yhd⟩ := y
      dsimp only at y0 y1 y2 y3 y4 y5 y6
      have hbY := Blk.new wr 39 #[.string yid, .string ysrc, .string ytgt, .slice yhc.A yhc.m yhc.c, .slice yhf.A yhf.m yhf.c, .int .i64 yst, .slice yhd.A yhd.m yhd.c]
      obtain ⟨W2, hW2⟩ : ∃ W2, W2 = wr.alloc (Obj.cells #[.string yid, .string ysrc, .string ytgt, .slice yhc.A yhc.m yhc.c, .slice yhf.A yhf.m yhf.c, .int .i64 yst, .slice yhd.A yhd.m yhd.c] 39) := ⟨_, rfl⟩
      rw [← hW2] at hbY
      have hE2 : Ext wr W2 := by rw [hW2]; exact (Ext.refl _).alloc _
      have Y6 := laters (show _ = some (.slice yhd.A yhd.m yhd.c) from hbY.cell 6)
      have hE12 := hE.trans hE2
      have hEr2 := Ext.refl W2
      rw [eA]
      go_upto_region 4 with fail
      rw [← hW2]
      clear hW2 hbY y0 y1 y2 y3 y4 y5 y6
      go_wp2_with (first
        | (go_at_call 29; refine Hid.out ?_))
      refine Hid.mk_ ((pfield_any (HYD.out.sl.ext (HE1.out.trans hE12)) ⟨#[112, 114, 101, 118, 105, 111, 117, 115]⟩).mono ?_)
      rintro e w3 ⟨⟨o1, ho1, rfl⟩, hE3⟩
      have H1 : Hid (o1 = fld prevB yfd) := ho1.eq
      have hE13 := hE12.trans hE3
      clear ho1
      have HYM := HMEM
      cases o1 with
      | none =>
        rw [fldV_none]
        go_wp2_with (first
          | (go_at_call 29; refine Hid.out ?_))
        refine Hid.mk_ ((pfield_any (c := yhd.c) (HYD.out.sl.ext (HE1.out.trans hE13)) ⟨#[114, 101, 117, 115, 101, 100]⟩).mono ?_)
        rintro e w4 ⟨⟨o2, ho2, rfl⟩, hE4⟩
        have H2 : Hid (o2 = fld reusB yfd) := ho2.eq
        have hE14 := hE13.trans hE4
        clear ho2
        have HNT : Hid (noTake ⟨yid, ysrc, ytgt, ycom, yfl, yst, yfd⟩ = (Option.isNone (none : Option ByteArray) && o2.isNone)) := by show _ = _; unfold noTake; rw [← H1.out, H2.out]
        cases o2 with
        | none =>
          rw [fldV_none]
          have HQ2 : Hid (((es.map Ent.p).take (q + 1)).all noTake = true) := by show _ = _; rw [HTK.out, HNT.out]; rfl
          go_wp2
          go_roundw
          case rel => exact ⟨q + 1, by omega, by go_num, HQ2, hE14⟩
          case measure => simp [intOf]; omega
        | some v2 =>
          rw [fldV_some]
          have HF : Hid (properP ⟨tag, com, fd, xes.map Ent.p⟩ (es.map Ent.p) = false) := by
            show _ = _
            unfold properP
            have : (es.map Ent.p).all noTake = false := by
              cases hb : (es.map Ent.p).all noTake with
              | false => rfl
              | true => rw [List.all_eq_true] at hb; have := hb _ HMEM.out; rw [HNT.out] at this; cases this
            rw [this]
            rfl
          have HE4 := Lib.hid (HE1.out.trans hE14)
          go_wp2
          go_ret
          exact ⟨by show _ = Ending.returned (.bool (properP ⟨tag, com, fd, xes.map Ent.p⟩ (es.map Ent.p))); rw [HF.out]; rfl, HE4.out⟩
      | some v1 =>
        rw [fldV_some]
        go_wp2_with (first
          | (go_at_call 29; refine Hid.out ?_))
        refine Hid.mk_ ((pfield_any (c := yhd.c) (HYD.out.sl.ext (HE1.out.trans hE13)) ⟨#[114, 101, 117, 115, 101, 100]⟩).mono ?_)
        rintro e w4 ⟨⟨o2, ho2, rfl⟩, hE4⟩
        have H2 : Hid (o2 = fld reusB yfd) := ho2.eq
        have hE14 := hE13.trans hE4
        clear ho2
        have HNT : Hid (noTake ⟨yid, ysrc, ytgt, ycom, yfl, yst, yfd⟩ = (Option.isNone (some v1) && o2.isNone)) := by show _ = _; unfold noTake; rw [← H1.out, H2.out]
        cases o2 with
        | none =>
          rw [fldV_none]
          have HF : Hid (properP ⟨tag, com, fd, xes.map Ent.p⟩ (es.map Ent.p) = false) := by
            show _ = _
            unfold properP
            have : (es.map Ent.p).all noTake = false := by
              cases hb : (es.map Ent.p).all noTake with
              | false => rfl
              | true => rw [List.all_eq_true] at hb; have := hb _ HMEM.out; rw [HNT.out] at this; cases this
            rw [this]
            rfl
          have HE4 := Lib.hid (HE1.out.trans hE14)
          go_wp2
          go_ret
          exact ⟨by show _ = Ending.returned (.bool (properP ⟨tag, com, fd, xes.map Ent.p⟩ (es.map Ent.p))); rw [HF.out]; rfl, HE4.out⟩
        | some v2 =>
          rw [fldV_some]
          have HF : Hid (properP ⟨tag, com, fd, xes.map Ent.p⟩ (es.map Ent.p) = false) := by
            show _ = _
            unfold properP
            have : (es.map Ent.p).all noTake = false := by
              cases hb : (es.map Ent.p).all noTake with
              | false => rfl
              | true => rw [List.all_eq_true] at hb; have := hb _ HMEM.out; rw [HNT.out] at this; cases this
            rw [this]
            rfl
          have HE4 := Lib.hid (HE1.out.trans hE14)
          go_wp2
          go_ret
          exact ⟨by show _ = Ending.returned (.bool (properP ⟨tag, com, fd, xes.map Ent.p⟩ (es.map Ent.p))); rw [HF.out]; rfl, HE4.out⟩
    · have hi1 : ¬ (q : Int) < (h.m : Int) := by omega
      have HALL : Hid ((es.map Ent.p).all noTake = true) := by
        have := HQ.out
        rw [List.take_of_length_le (by rw [List.length_map]; have := HL.out; omega)] at this
        exact this
      have hv1 := valid_any' (HX.out.ext (HE1.out.trans hE)) (HTT.out.ext (HE1.out.trans hE))
      unfold catV at hv1
      dsimp only at hv1
      have X0b := X0 wr hE
      have X1b := X1 wr hE
      have X2b := X2 wr hE
      have X3b := X3 wr hE
      clear X0 X1 X2 X3
      have hErr := Ext.refl wr
      have HPP : Hid (∀ b1 b2 : Bool, validC (Cat.p ⟨tag, com, fd, xes, hc, hd, he⟩) = b1 → validC ⟨tag, [], [], es.map Ent.p⟩ = b2 → properP (Cat.p ⟨tag, com, fd, xes, hc, hd, he⟩) (es.map Ent.p) = (b1 && b2)) := fun b1 b2 e1 e2 => by
        unfold properP
        rw [HALL.out, Bool.true_and, e1]
        show (b1 && validC ⟨tag, [], [], es.map Ent.p⟩) = _
        rw [e2]
      cases hb1 : validC (Cat.p ⟨tag, com, fd, xes, hc, hd, he⟩) with
      | false =>
        rw [hb1] at hv1
        go_wp2_with (first
          | (go_at_call 17; refine Hid.out ?_))
        refine Hid.mk_ ((hv1).mono ?_)
        rintro e w5 ⟨rfl, hE5⟩
        have HR := Lib.hid (HPP.out false _ hb1 rfl)
        clear hb1 hv1
        have HE5 := Lib.hid ((HE1.out.trans hE).trans hE5)
        go_wp2
        go_ret
        exact ⟨by show _ = Ending.returned (.bool (properP (Cat.p ⟨tag, com, fd, xes, hc, hd, he⟩) (es.map Ent.p))); rw [HR.out]; rfl, HE5.out⟩
      | true =>
        rw [hb1] at hv1
        go_wp2_with (first
          | (go_at_call 17; refine Hid.out ?_))
        refine Hid.mk_ ((hv1).mono ?_)
        rintro e w5 ⟨rfl, hE5⟩
        have HR := Lib.hid (HPP.out true _ hb1 rfl)
        have hE05 := (HE1.out.trans hE).trans hE5
        have hx2 : CatW w5 ⟨tag, [], [], es, ⟨none, 0, 0⟩, ⟨none, 0, 0⟩, h⟩ := ⟨HX.out.tag, HW.nil_ strF_len, HW.nil_ fdC_len, EntsW.ext HS.out hE05⟩
        have hv2 := valid_any' hx2 (HTT.out.ext hE05)
        unfold catV at hv2
        dsimp only at hv2
        have hv2' : Calls Tryz.prog 17 #[.agg #[.string tag, .slice none 0 0, .slice none 0 0, .slice h.A h.m h.c]] w5 fun e w' => e = .returned (.bool (validC ⟨tag, [], [], es.map Ent.p⟩)) ∧ Ext w5 w' := hv2
        have x0 := later hE5 X0b
        clear hb1 hv1 hx2 hv2
        go_wp2_with (first
          | (go_at_call 17; refine Hid.out ?_))
        refine Hid.mk_ ((hv2').mono ?_)
        rintro e w6 ⟨rfl, hE6⟩
        have HE6 := Lib.hid (hE05.trans hE6)
        clear hv2'
        go_wp2
        go_ret
        exact ⟨by show _ = Ending.returned (.bool (properP (Cat.p ⟨tag, com, fd, xes, hc, hd, he⟩) (es.map Ent.p))); rw [HR.out]; rfl, HE6.out⟩
end
end Go.Proofs.YtgnchicipmomlaaGreatDoor
