/- The report of an update: each extracted ID is in exactly one of the first five lists; each other ID of the catalog is in Obsolete or Removed, was obsolete, or was reused. No condition. -/
import Derived.Test.YtcdpmgdocgddcaaDoorUpB
import Derived.Test.YtcdpmgdocgddcaaDoorUpR
import Derived.Test.YtcdpmgdocgddcaaDoorCatG
import Derived.Test.YtcdpmgdocgddcaaDoorHand
import Derived.ProofKit
import Derived.OpenShut
import Derived.ShutString
import Derived.LaidMore
import Derived.Lay
import Derived.Lib.LaidIn
import Derived.Lib.LaidTab
import Derived.Lib.LaidU8
import Derived.SevenTiedAt
import Derived.Stop.Joined
namespace Go.Proofs.YtcdpmgdocgddcaaDoor
open Go.ChangeShapes Go.WideShapes Go.ChangeAt Go.RowKit
set_option maxRecDepth 100000
attribute [local go_sem] ext_refl_t ext_alloc_t ext_drew_t ext_drewN_t ext_alloc2_t ext_alloc3_t ext_alloc4_t ext_alloc5_t ext_alloc6_t ext_alloc7_t ext_alloc8_t ext_alloc1d_t ext_alloc2d_t ext_alloc3d_t ext_alloc4d_t
def laidL2 : List (String × DataW Unit) := Rows.updateReportRow.laid
theorem tabs2 {W : World} (h : laidMetH Tryd.prog laidL2 W) : Tabs W := tabs_of_laid h
theorem proper_ndx {c : Cp} {xs : List Ep} (h : properP c xs = true) : (xs.map Ep.id).Nodup := (esOk_iff.1 (validC_parts.1 (proper_parts h).2).2.2).2
/-- What the report says of an entry that is not extracted. -/
def RepC (x : Ep) (no nr : Nat) (still lost : Bool) : Prop :=
  (no = 0 ∧ nr = 0 ∧ still = false ∧ lost = true) ∨ (no = 0 ∧ nr = 1 ∧ still = false ∧ x.tgt.size = 0 ∧ lost = false) ∨ (no = 1 ∧ nr = 0 ∧ still = true ∧ lost = false) ∨ (no = 0 ∧ nr = 0 ∧ still = true ∧ x.st = 4 ∧ lost = false)
theorem rep_other {c xs ys zs : List Ep} {s : US} {tk : List ByteArray} (h : UpD c xs ys zs s tk) (hn : (c.map Ep.id).Nodup) {x : Ep} (hx : x ∈ c) (hnx : inB (xs.map Ep.id) x.id = false) :
    RepC x (cntB s.rp.obs x.id) (cntB s.rp.removed x.id) (inB (s.es.map Ep.id) x.id) (lostB tk (xs.map Ep.id) x) := by
  obtain ⟨h1, h2, h3⟩ := h.other hn hx (inB_not.1 hnx)
  have h4 : inB (s.es.map Ep.id) x.id = keepB tk x := by
    rw [Bool.eq_iff_iff, inB_iff, ← h3, List.mem_map]
  rw [h1, h2, h4]
  unfold RepC lostB obsB goneB keepB
  rw [hnx]
  cases inB tk x.id with
  | true => exact .inl ⟨rfl, rfl, rfl, rfl⟩
  | false =>
    by_cases ht : x.tgt.size = 0
    · refine .inr (.inl ?_)
      rw [decide_eq_true ht]
      exact ⟨rfl, rfl, rfl, ht, rfl⟩
    · rw [decide_eq_false ht]
      by_cases h5 : x.st = 4
      · rw [decide_eq_true h5]
        exact .inr (.inr (.inr ⟨rfl, rfl, rfl, h5, rfl⟩))
      · rw [decide_eq_false h5]
        exact .inr (.inr (.inl ⟨rfl, rfl, rfl, rfl⟩))
theorem cntsB_1 (l : List ByteArray) (s : ByteArray) : cntsB [l] s = cntB l s := by unfold cntsB; simp
theorem cntsB_2 (l m : List ByteArray) (s : ByteArray) : cntsB [l, m] s = cntB l s + cntB m s := by unfold cntsB; simp
theorem cntsB_5 (a b c d e : List ByteArray) (s : ByteArray) : cntsB [a, b, c, d, e] s = cntB a s + cntB b s + cntB c s + cntB d s + cntB e s := by unfold cntsB; simp; omega
theorem cntB_pos {l : List ByteArray} {s : ByteArray} : (0 < cntB l s) ↔ inB l s = true := by
  unfold cntB inB
  rw [List.countP_pos_iff, List.any_eq_true]
theorem countP_take {α : Type} (p : α → Bool) {l : List α} {q : Nat} (h : q < l.length) : (l.take (q + 1)).countP p = (l.take q).countP p + if p l[q] = true then 1 else 0 := by
  rw [List.take_succ_eq_append_getElem h, List.countP_append]
  simp
theorem findV_still {l : List Ep} {id : ByteArray} {z : Int} (h : FindZ l id z) : ∃ k : Int, FindV z = .tuple #[.int .i64 k, .bool (inB (l.map Ep.id) id)] := by
  have key : decide (0 ≤ z) = inB (l.map Ep.id) id := by
    rcases h with ⟨h1, h2⟩ | ⟨k, h1, hk, h2, _⟩
    · rw [h1]
      symm
      show _ = false
      rw [inB_not, List.mem_map]
      rintro ⟨y, hy, e⟩
      obtain ⟨j, hj, rfl⟩ := List.getElem_of_mem hy
      exact h2 j hj e
    · rw [decide_eq_true (by omega)]
      symm
      rw [inB_iff, List.mem_map]
      exact ⟨_, List.getElem_mem hk, h2⟩
  exact ⟨_, by unfold FindV; rw [key]⟩
section
variable {w : World}
/-- Lists in a row that has just been built. -/
theorem ls1 {w : World} {a : SlH} {la : List ByteArray} (ha : SlC strF 1 w a.A a.m la) : LsW w [a] [la] := ⟨rfl, fun i h1 h2 => by
  obtain rfl : i = 0 := by simpa using h1
  exact ha⟩
theorem ls2 {w : World} {a b : SlH} {la lb : List ByteArray} (ha : SlC strF 1 w a.A a.m la) (hb : SlC strF 1 w b.A b.m lb) : LsW w [a, b] [la, lb] := ⟨rfl, fun i h1 h2 => by
  rcases (by simp at h1; omega : i = 0 ∨ i = 1) with rfl | rfl
  · exact ha
  · exact hb⟩
theorem ls5 {w : World} {a b c d e : SlH} {la lb lc ld le : List ByteArray} (ha : SlC strF 1 w a.A a.m la) (hb : SlC strF 1 w b.A b.m lb) (hc : SlC strF 1 w c.A c.m lc) (hd : SlC strF 1 w d.A d.m ld) (he : SlC strF 1 w e.A e.m le) : LsW w [a, b, c, d, e] [la, lb, lc, ld, le] := ⟨rfl, fun i h1 h2 => by
  rcases (by simp at h1; omega : i = 0 ∨ i = 1 ∨ i = 2 ∨ i = 3 ∨ i = 4) with rfl | rfl | rfl | rfl | rfl
  · exact ha
  · exact hb
  · exact hc
  · exact hd
  · exact he⟩
theorem LsW.ext {w w' : World} {hs : List SlH} {ls : List (List ByteArray)} (h : LsW w hs ls) (hE : Ext w w') : LsW w' hs ls := ⟨h.1, fun i h1 h2 => (h.2 i h1 h2).ext hE⟩
theorem cnt1_any (W : World) (s : ByteArray) (a : SlH) {la : List ByteArray} (h : SlC strF 1 W a.A a.m la) :
    Calls Tryd.prog 15 #[.string s, .slice (some ⟨W.heap.size, 0, none⟩) 1 1] (W.alloc (Obj.cells #[.slice a.A a.m a.c] 22)) fun e w' => e = .returned (.int .i64 (cntB la s : Nat)) ∧ (W.alloc (Obj.cells #[.slice a.A a.m a.c] 22)) = w' := by
  have h1 := count47_any s 1 (SlC.new_ W [a] slS_len (by simp) #[.slice a.A a.m a.c] rfl (0, 0) 1 rfl 22) ((ls1 h).ext ((Ext.refl W).alloc _)) (by omega)
  rw [cntsB_1] at h1
  exact h1
theorem cnt2_any (W : World) (s : ByteArray) (a b : SlH) {la lb : List ByteArray} (ha : SlC strF 1 W a.A a.m la) (hb : SlC strF 1 W b.A b.m lb) :
    Calls Tryd.prog 15 #[.string s, .slice (some ⟨W.heap.size, 0, none⟩) 2 2] (W.alloc (Obj.cells #[.slice a.A a.m a.c, .slice b.A b.m b.c] 22)) fun e w' => e = .returned (.int .i64 ((cntB la s + cntB lb s : Nat) : Int)) ∧ (W.alloc (Obj.cells #[.slice a.A a.m a.c, .slice b.A b.m b.c] 22)) = w' := by
  have h1 := count47_any s 2 (SlC.new_ W [a, b] slS_len (by simp) #[.slice a.A a.m a.c, .slice b.A b.m b.c] rfl (0, 0) 2 rfl 22) ((ls2 ha hb).ext ((Ext.refl W).alloc _)) (by omega)
  rw [cntsB_2] at h1
  exact h1
theorem cnt5_any (W : World) (s : ByteArray) (R : Nat → SlH) {l0 l1 l2 l3 l4 : List ByteArray} (h0 : SlC strF 1 W (R 0).A (R 0).m l0) (h1 : SlC strF 1 W (R 1).A (R 1).m l1) (h2 : SlC strF 1 W (R 2).A (R 2).m l2) (h3 : SlC strF 1 W (R 3).A (R 3).m l3) (h4 : SlC strF 1 W (R 4).A (R 4).m l4) :
    Calls Tryd.prog 15 #[.string s, .slice (some ⟨W.heap.size, 0, none⟩) 5 5] (W.alloc (Obj.cells #[.slice (R 0).A (R 0).m (R 0).c, .slice (R 1).A (R 1).m (R 1).c, .slice (R 2).A (R 2).m (R 2).c, .slice (R 3).A (R 3).m (R 3).c, .slice (R 4).A (R 4).m (R 4).c] 22)) fun e w' => e = .returned (.int .i64 ((cntB l0 s + cntB l1 s + cntB l2 s + cntB l3 s + cntB l4 s : Nat) : Int)) ∧ (W.alloc (Obj.cells #[.slice (R 0).A (R 0).m (R 0).c, .slice (R 1).A (R 1).m (R 1).c, .slice (R 2).A (R 2).m (R 2).c, .slice (R 3).A (R 3).m (R 3).c, .slice (R 4).A (R 4).m (R 4).c] 22)) = w' := by
  have h9 := count47_any s 5 (SlC.new_ W [R 0, R 1, R 2, R 3, R 4] slS_len (by simp) #[.slice (R 0).A (R 0).m (R 0).c, .slice (R 1).A (R 1).m (R 1).c, .slice (R 2).A (R 2).m (R 2).c, .slice (R 3).A (R 3).m (R 3).c, .slice (R 4).A (R 4).m (R 4).c] rfl (0, 0) 5 rfl 22) ((ls5 h0 h1 h2 h3 h4).ext ((Ext.refl W).alloc _)) (by omega)
  rw [cntsB_5] at h9
  exact h9
set_option maxHeartbeats 12800000 in
theorem report_walk {x : Cat} (hx : CatW w x) {h : SlH} {es : List Ent} (hs : EntsW w h es) (hT : Tabs w) :
    Calls Tryd.prog 5 #[catV x, .slice h.A h.m h.c] w fun e w' => e = .returned (.bool true) ∧ Ext w w' := by
  obtain ⟨tag, com, fd, ces, hc, hd, he⟩ := x
  have HX := Lib.hid hx
  have HS := Lib.hid hs
  have HTT := Lib.hid hT
  have hle := hs.sl.le
  have hle2 := hx.e.sl.le
  have HL := Lib.hid hs.sl.len
  have HL2 := Lib.hid hx.e.sl.len
  dsimp only at hle2 HL2
  unfold catV
  dsimp only
  have hb := Blk.new w 26 #[.string tag, .slice hc.A hc.m hc.c, .slice hd.A hd.m hd.c, .slice he.A he.m he.c]
  have hE1 : Ext w (w.alloc (Obj.cells #[.string tag, .slice hc.A hc.m hc.c, .slice hd.A hd.m hd.c, .slice he.A he.m he.c] 26)) := (Ext.refl w).alloc _
  obtain ⟨W1, hW1⟩ : ∃ W1, W1 = w.alloc (Obj.cells #[.string tag, .slice hc.A hc.m hc.c, .slice hd.A hd.m hd.c, .slice he.A he.m he.c] 26) := ⟨_, rfl⟩
  rw [← hW1] at hb hE1
  obtain ⟨g, hg⟩ : ∃ g, g = w.heap.size := ⟨_, rfl⟩
  rw [← hg] at hb
  have X0 := laters (show _ = some (.string tag) from hb.cell 0)
  have X1 := laters (show _ = some (.slice hc.A hc.m hc.c) from hb.cell 1)
  have X2 := laters (show _ = some (.slice hd.A hd.m hd.c) from hb.cell 2)
  have X3 := laters (show _ = some (.slice he.A he.m he.c) from hb.cell 3)
  clear hb hx hs hT
  go_enter Tryd.func5, Tryd.ntmps5
  go_upto_region 1 with fail
  rw [← hW1, ← hg]
  clear hW1 hg
  go_wp2_with (first
    | (go_at_call 8; refine Hid.out ?_))
  refine Hid.mk_ (((awake47_any (HTT.out.ext hE1))).mono ?_)
  rintro e w2 ⟨rfl, hE2⟩
  have hE02 := hE1.trans hE2
  have hfw := few47_any (HX.out.ext hE02) (EntsW.ext HS.out hE02)
  unfold catV at hfw
  dsimp only at hfw
  go_wp2_with (first
    | (go_at_call 9; refine Hid.out ?_))
  refine Hid.mk_ ((hfw).mono ?_)
  rintro e w3 ⟨rfl, hE3⟩
  have hE13 := hE2.trans hE3
  have hE03 := hE02.trans hE3
  clear hfw hE2 hE3 hE02
  cases hf1 : few47 (Cat.p ⟨tag, com, fd, ces, hc, hd, he⟩) (es.map Ent.p) with
  | false =>
    clear hf1
    go_wp2
    go_ret
    exact ⟨rfl, hE03⟩
  | true =>
  have HFW := Lib.hid (few47_parts hf1)
  have hm8 : h.m ≤ 8 := by have h1 := HFW.out.2.1; have h2 := HL.out; rw [List.length_map] at h1; omega
  have hn8 : he.m ≤ 8 := by have h1 := HFW.out.1; have h2 := HL2.out; rw [show (Cat.p ⟨tag, com, fd, ces, hc, hd, he⟩).es = ces.map Ent.p from rfl, List.length_map] at h1; omega
  clear hf1
  have hup := update_any (HX.out.ext hE03) (EntsW.ext HS.out hE03) (HTT.out.ext hE03) (fun y hy => Nat.le_trans (HFW.out.2.2.1 y.p (List.mem_map_of_mem hy)) (by omega)) (fun y hy => Nat.le_trans (HFW.out.2.2.2 y.p (List.mem_map_of_mem hy)) (by omega))
  unfold catV at hup
  dsimp only at hup
  go_wp2_with (first
    | (go_at_call 10; refine Hid.out ?_))
  refine Hid.mk_ ((hup).mono ?_)
  rintro e w4 ⟨⟨atag, acom, afd, aes, ahc, ahd, ahe⟩, R, r, k, rfl, hupd, hW4, hR4, hE4⟩
  clear hup
  unfold catV repA
  dsimp only
  have HUPD := Lib.hid hupd
  have HW4 := Lib.hid hW4
  have HR4 := Lib.hid hR4
  have HL4 := Lib.hid hW4.e.sl.len
  have hle4 := hW4.e.sl.le
  dsimp only at HL4 hle4
  have hbA := Blk.new w4 26 #[.string atag, .slice ahc.A ahc.m ahc.c, .slice ahd.A ahd.m ahd.c, .slice ahe.A ahe.m ahe.c]
  have hbR := Blk.new1 w4 (Obj.cells #[.string atag, .slice ahc.A ahc.m ahc.c, .slice ahd.A ahd.m ahd.c, .slice ahe.A ahe.m ahe.c] 26) 30 #[.slice (R 0).A (R 0).m (R 0).c, .slice (R 1).A (R 1).m (R 1).c, .slice (R 2).A (R 2).m (R 2).c, .slice (R 3).A (R 3).m (R 3).c, .slice (R 4).A (R 4).m (R 4).c, .slice (R 5).A (R 5).m (R 5).c, .slice (R 6).A (R 6).m (R 6).c]
  have hbA' := hbA.alloc (Obj.cells #[.slice (R 0).A (R 0).m (R 0).c, .slice (R 1).A (R 1).m (R 1).c, .slice (R 2).A (R 2).m (R 2).c, .slice (R 3).A (R 3).m (R 3).c, .slice (R 4).A (R 4).m (R 4).c, .slice (R 5).A (R 5).m (R 5).c, .slice (R 6).A (R 6).m (R 6).c] 30)
  obtain ⟨W5, hW5⟩ : ∃ W5, W5 = (w4.alloc (Obj.cells #[.string atag, .slice ahc.A ahc.m ahc.c, .slice ahd.A ahd.m ahd.c, .slice ahe.A ahe.m ahe.c] 26)).alloc (Obj.cells #[.slice (R 0).A (R 0).m (R 0).c, .slice (R 1).A (R 1).m (R 1).c, .slice (R 2).A (R 2).m (R 2).c, .slice (R 3).A (R 3).m (R 3).c, .slice (R 4).A (R 4).m (R 4).c, .slice (R 5).A (R 5).m (R 5).c, .slice (R 6).A (R 6).m (R 6).c] 30) := ⟨_, rfl⟩
  rw [← hW5] at hbA' hbR
  have hE45 : Ext w4 W5 := by rw [hW5]; exact ((Ext.refl _).alloc _).alloc _
  obtain ⟨g6, hg6⟩ : ∃ g6, g6 = w4.heap.size + 1 := ⟨_, rfl⟩
  obtain ⟨g5, hg5⟩ : ∃ g5, g5 = w4.heap.size := ⟨_, rfl⟩
  rw [← hg5] at hbA'
  rw [← hg6] at hbR
  go_upto_region 6 with fail
  rw [← hW5, ← hg6, ← hg5]
  have HBA := Lib.hid hbA'
  have HBR := Lib.hid hbR
  have HE35 := Lib.hid (hE4.trans hE45)
  have HE15 := Lib.hid (hE13.trans HE35.out)
  have HE05 := Lib.hid (hE03.trans HE35.out)
  have HE45 := Lib.hid hE45
  clear hbA hbA' hbR hupd hW4 hR4 hE45 hE4 hE13 hE03 hE1 hW5 hg5 hg6
  have HE5 := Lib.hid (Ext.refl W5)
  have BR0 := laters (show W5.cell? ⟨g6, 0, none⟩ = some (.slice (R 0).A (R 0).m (R 0).c) from HBR.out.cell 0)
  have BR1 := laters (show W5.cell? ⟨g6, 1, none⟩ = some (.slice (R 1).A (R 1).m (R 1).c) from HBR.out.cell 1)
  have BR2 := laters (show W5.cell? ⟨g6, 2, none⟩ = some (.slice (R 2).A (R 2).m (R 2).c) from HBR.out.cell 2)
  have BR3 := laters (show W5.cell? ⟨g6, 3, none⟩ = some (.slice (R 3).A (R 3).m (R 3).c) from HBR.out.cell 3)
  have BR4 := laters (show W5.cell? ⟨g6, 4, none⟩ = some (.slice (R 4).A (R 4).m (R 4).c) from HBR.out.cell 4)
  have BR5 := laters (show W5.cell? ⟨g6, 5, none⟩ = some (.slice (R 5).A (R 5).m (R 5).c) from HBR.out.cell 5)
  have BR6 := laters (show W5.cell? ⟨g6, 6, none⟩ = some (.slice (R 6).A (R 6).m (R 6).c) from HBR.out.cell 6)
  have HRW : Hid (∀ i, i < 7 → SlC strF 1 W5 (R i).A (R i).m (repL r i)) := fun i hi => (HR4.out i hi).1.ext HE45.out
  rcases updP_three (Cat.p ⟨tag, com, fd, ces, hc, hd, he⟩) (es.map Ent.p) with h3 | h3 | ⟨h3, h4, h5⟩
  · have hk : k = 1 := congrArg (·.2.2) (HUPD.out.trans h3)
    have hr : r = rep0 := congrArg (·.2.1) (HUPD.out.trans h3)
    subst hk hr
    have m0 : (R 0).m = 0 := (HRW.out 0 (by omega)).len
    have m4 : (R 4).m = 0 := (HRW.out 4 (by omega)).len
    rw [m0] at BR0
    rw [m4] at BR4
    have hE55 := HE5.out
    clear h3 m0 m4
    go_wp2
    go_ret
    exact ⟨rfl, HE05.out⟩
  · have hk : k = 6 := congrArg (·.2.2) (HUPD.out.trans h3)
    have hr : r = rep0 := congrArg (·.2.1) (HUPD.out.trans h3)
    subst hk hr
    have m0 : (R 0).m = 0 := (HRW.out 0 (by omega)).len
    have m4 : (R 4).m = 0 := (HRW.out 4 (by omega)).len
    rw [m0] at BR0
    rw [m4] at BR4
    have hE55 := HE5.out
    clear h3 m0 m4
    go_wp2
    go_ret
    exact ⟨rfl, HE05.out⟩
  have hk : k = 0 := congrArg (·.2.2) (HUPD.out.trans h5)
  subst hk
  obtain ⟨ys, zs, tk, hD⟩ := updU_D (ces.map Ent.p) (es.map Ent.p)
  have HD := Lib.hid hD
  have HAE : Hid (aes.map Ent.p = (updU (ces.map Ent.p) (es.map Ent.p)).es) := by have h9 := congrArg (fun t => t.1.es) (HUPD.out.trans h5); exact h9
  have HRR : Hid (r = (updU (ces.map Ent.p) (es.map Ent.p)).rp) := by have h9 := congrArg (fun t => t.2.1) (HUPD.out.trans h5); exact h9
  have HON : Hid (∀ y ∈ es, cntB r.kept y.p.id + cntB r.changed y.p.id + cntB r.revived y.p.id + cntB r.reused y.p.id + cntB r.added y.p.id = 1 ∧ cntB r.obs y.p.id + cntB r.removed y.p.id = 0) := fun y hy => by
    obtain ⟨a, b, d⟩ := HD.out.once (proper_ndx h3) (List.mem_map_of_mem (f := Ent.p) hy)
    rw [HRR.out]
    exact ⟨a, by rw [b, d]⟩
  have HOT : Hid (∀ x ∈ ces, inB ((es.map Ent.p).map Ep.id) x.p.id = false → RepC x.p (cntB r.obs x.p.id) (cntB r.removed x.p.id) (inB ((aes.map Ent.p).map Ep.id) x.p.id) (lostB tk ((es.map Ent.p).map Ep.id) x.p)) := fun x hx hn => by
    rw [HRR.out, HAE.out]
    exact rep_other HD.out (proper_nd h3) (List.mem_map_of_mem hx) hn
  have HLO : Hid ((ces.map Ent.p).countP (lostB tk ((es.map Ent.p).map Ep.id)) = (R 3).m) := by
    show _ = _
    rw [HD.out.lost (proper_nd h3), (HRW.out 3 (by omega)).len, HRR.out]
    rfl
  clear h3 h4 h5 HUPD hD HD
  have hE5 := HE5.out
  go_wp2
  clear hE5
  go_loopw [8] (fun v wr => ∃ q : Nat, q ≤ h.m ∧ v = .int .i64 q ∧ Hid (Ext W5 wr)) (fun v _ => h.m - (intOf v).toNat)
  case atStart => exact ⟨0, Nat.zero_le _, rfl, Ext.refl _⟩
  case round =>
    obtain ⟨q, hq, rfl, HER⟩ := hrel
    by_cases hlt : q < h.m
    · have hskip : True := trivial
      --S[ l1
      obtain ⟨b, off, hbA, -, hcs⟩ := (EntsW.ext HS.out (HE05.out.trans HER.out)).sl.at_ hlt (by omega)
      have hlt1 : q < es.length := by rw [← HL.out]; exact hlt
      obtain ⟨y, hyq⟩ : ∃ y, y = es[q] := ⟨_, rfl⟩
      have y0 := hcs q hlt1 0 (by omega)
      simp only [← hyq, entC, List.getElem_cons_zero, Nat.add_zero] at y0
      have HO := Lib.hid (HON.out y (by rw [hyq]; exact List.getElem_mem hlt1))
      have HbA := Lib.hid hbA
      have qi : (q : Int) < (h.m : Int) := by omega
      have hq8 : q ≤ 140737488355328 := by omega
      obtain ⟨id, hid⟩ : ∃ id, id = y.p.id := ⟨_, rfl⟩
      rw [← hid] at y0 HO
      have Y0 := laters y0
      have hErr := Ext.refl wr
      have B0 := laters (BR0 wr HER.out)
      have B1 := laters (BR1 wr HER.out)
      have B2 := laters (BR2 wr HER.out)
      have B3 := laters (BR3 wr HER.out)
      have B4 := laters (BR4 wr HER.out)
      have B5 := laters (BR5 wr HER.out)
      have B6 := laters (BR6 wr HER.out)
      have C5 := fun (W : World) (hW : Ext wr W) => cnt5_any W id R ((HRW.out 0 (by omega)).ext (HER.out.trans hW)) ((HRW.out 1 (by omega)).ext (HER.out.trans hW)) ((HRW.out 2 (by omega)).ext (HER.out.trans hW)) ((HRW.out 3 (by omega)).ext (HER.out.trans hW)) ((HRW.out 4 (by omega)).ext (HER.out.trans hW))
      have C2 := fun (W : World) (hW : Ext wr W) => cnt2_any W id (R 5) (R 6) ((HRW.out 5 (by omega)).ext (HER.out.trans hW)) ((HRW.out 6 (by omega)).ext (HER.out.trans hW))
      have HC5 : Hid (∀ W g, Ext wr W → g = W.heap.size → Calls Tryd.prog 15 #[.string id, .slice (some ⟨g, 0, none⟩) 5 5] (W.alloc (Obj.cells #[.slice (R 0).A (R 0).m (R 0).c, .slice (R 1).A (R 1).m (R 1).c, .slice (R 2).A (R 2).m (R 2).c, .slice (R 3).A (R 3).m (R 3).c, .slice (R 4).A (R 4).m (R 4).c] 22)) fun e w' => e = .returned (.int .i64 1) ∧ Ext W w') := fun W g hW hg => by
        subst hg
        have h9 := C5 W hW
        rw [show cntB (repL r 0) id + cntB (repL r 1) id + cntB (repL r 2) id + cntB (repL r 3) id + cntB (repL r 4) id = 1 from HO.out.1] at h9
        exact h9.mono fun e w' ⟨h1, h2⟩ => ⟨h1, by rw [← h2]; exact (Ext.refl _).alloc _⟩
      have HC2 : Hid (∀ W g, Ext wr W → g = W.heap.size → Calls Tryd.prog 15 #[.string id, .slice (some ⟨g, 0, none⟩) 2 2] (W.alloc (Obj.cells #[.slice (R 5).A (R 5).m (R 5).c, .slice (R 6).A (R 6).m (R 6).c] 22)) fun e w' => e = .returned (.int .i64 0) ∧ Ext W w') := fun W g hW hg => by
        subst hg
        have h9 := C2 W hW
        rw [show cntB (repL r 5) id + cntB (repL r 6) id = 0 from HO.out.2] at h9
        exact h9.mono fun e w' ⟨h1, h2⟩ => ⟨h1, by rw [← h2]; exact (Ext.refl _).alloc _⟩
      clear hcs hyq hid C5 C2 y0 hbA
      go_upto_region 11 with fail
      rw [show h.A = some ⟨b, off, none⟩ from HbA.out]
      have hEd : Ext wr wr.drew := (Ext.refl wr).drew
      refine wp_region_held_drew (S := fun w' => Ext wr w') (by kernel_rfl) hEd ?_
      intro hHeld
      refine wpAnyH_takeD (i := 0) (d := 46) (v := ?_) rfl rfl (by kernel_rfl) (by kernel_rfl) (by kernel_rfl) (fun _ _ _ h => h) (Or.inl ⟨by rfl, ?_⟩) hHeld ?_
      rotate_left
      · rintro w hS4; go_simp; try with_reducible rfl
      simp only [Act.put, List.setIfInBounds_toArray, List.set_cons_zero, List.set_cons_succ]
      refine wpAnyH_takeD (i := 1) (d := 47) (v := ?_) rfl rfl (by kernel_rfl) (by kernel_rfl) (by kernel_rfl) (fun _ _ _ h => h) (Or.inl ⟨by rfl, ?_⟩) hHeld ?_
      rotate_left
      · rintro w hS4; go_simp; try with_reducible rfl
      simp only [Act.put, List.setIfInBounds_toArray, List.set_cons_zero, List.set_cons_succ]
      refine wpAnyH_takeD (i := 2) (d := 48) (v := ?_) rfl rfl (by kernel_rfl) (by kernel_rfl) (by kernel_rfl) (fun _ _ _ h => h) (Or.inl ⟨by rfl, ?_⟩) hHeld ?_
      rotate_left
      · rintro w hS4; go_simp; try with_reducible rfl
      simp only [Act.put, List.setIfInBounds_toArray, List.set_cons_zero, List.set_cons_succ]
      refine wpAnyH_takeD (i := 3) (d := 49) (v := ?_) rfl rfl (by kernel_rfl) (by kernel_rfl) (by kernel_rfl) (fun _ _ _ h => h) (Or.inl ⟨by rfl, ?_⟩) hHeld ?_
      rotate_left
      · rintro w hS4; go_simp; try with_reducible rfl
      simp only [Act.put, List.setIfInBounds_toArray, List.set_cons_zero, List.set_cons_succ]
      refine wpAnyH_takeD (i := 4) (d := 50) (v := ?_) rfl rfl (by kernel_rfl) (by kernel_rfl) (by kernel_rfl) (fun _ _ _ h => h) (Or.inl ⟨by rfl, ?_⟩) hHeld ?_
      rotate_left
      · rintro w hS4; go_simp; try with_reducible rfl
      simp only [Act.put, List.setIfInBounds_toArray, List.set_cons_zero, List.set_cons_succ]
      refine wpAnyH_takeD (i := 5) (d := 51) (v := ?_) rfl rfl (by kernel_rfl) (by kernel_rfl) (by kernel_rfl) (fun _ _ _ h => h) (Or.inl ⟨by rfl, ?_⟩) hHeld ?_
      rotate_left
      · rintro w hS4; go_simp; try with_reducible rfl
      simp only [Act.put, List.setIfInBounds_toArray, List.set_cons_zero, List.set_cons_succ]
      refine wpAnyH_takeD (i := 6) (d := 52) (v := ?_) rfl rfl (by kernel_rfl) (by kernel_rfl) (by kernel_rfl) (fun _ _ _ h => h) (Or.inl ⟨by rfl, ?_⟩) hHeld ?_
      rotate_left
      · rintro w hS4; go_simp; try with_reducible rfl
      simp only [Act.put, List.setIfInBounds_toArray, List.set_cons_zero, List.set_cons_succ]
      refine wpAnyH_takeD (i := 7) (d := 53) (v := ?_) rfl rfl (by kernel_rfl) (by kernel_rfl) (by kernel_rfl) (fun _ _ _ h => h) (Or.inl ⟨by rfl, ?_⟩) hHeld ?_
      rotate_left
      · rintro w hS4; go_simp; try with_reducible rfl
      simp only [Act.put, List.setIfInBounds_toArray, List.set_cons_zero, List.set_cons_succ]
      refine wpAnyH_takeD (i := 8) (d := 54) (v := ?_) rfl rfl (by kernel_rfl) (by kernel_rfl) (by kernel_rfl) (fun _ _ _ h => h) (Or.inl ⟨by rfl, ?_⟩) hHeld ?_
      rotate_left
      · rintro w hS4; go_simp; try with_reducible rfl
      simp only [Act.put, List.setIfInBounds_toArray, List.set_cons_zero, List.set_cons_succ]
      refine wpAnyH_takeD (i := 9) (d := 55) (v := ?_) rfl rfl (by kernel_rfl) (by kernel_rfl) (by kernel_rfl) (fun _ _ _ h => h) (Or.inl ⟨by rfl, ?_⟩) hHeld ?_
      rotate_left
      · rintro w hS4; go_simp; try with_reducible rfl
      simp only [Act.put, List.setIfInBounds_toArray, List.set_cons_zero, List.set_cons_succ]
      refine wpAnyH_takeD (i := 10) (d := 56) (v := ?_) rfl rfl (by kernel_rfl) (by kernel_rfl) (by kernel_rfl) (fun _ _ _ h => h) (Or.inl ⟨by rfl, ?_⟩) hHeld ?_
      rotate_left
      · rintro w hS4; go_simp; try with_reducible rfl
      simp only [Act.put, List.setIfInBounds_toArray, List.set_cons_zero, List.set_cons_succ]
      refine wpAnyH_takeD (i := 11) (d := 57) (v := ?_) rfl rfl (by kernel_rfl) (by kernel_rfl) (by kernel_rfl) (fun _ _ _ h => h) (Or.inl ⟨by rfl, ?_⟩) hHeld ?_
      rotate_left
      · rintro w hS4; go_simp; try with_reducible rfl
      simp only [Act.put, List.setIfInBounds_toArray, List.set_cons_zero, List.set_cons_succ]
      refine wpAnyH_takeD (i := 12) (d := 58) (v := ?_) rfl rfl (by kernel_rfl) (by kernel_rfl) (by kernel_rfl) (fun _ _ _ h => h) (Or.inl ⟨by rfl, ?_⟩) hHeld ?_
      rotate_left
      · rintro w hS4; go_simp; try with_reducible rfl
      simp only [Act.put, List.setIfInBounds_toArray, List.set_cons_zero, List.set_cons_succ]
      refine wpAnyH_takeD (i := 13) (d := 59) (v := ?_) rfl rfl (by kernel_rfl) (by kernel_rfl) (by kernel_rfl) (fun _ _ _ h => h) (Or.inl ⟨by rfl, ?_⟩) hHeld ?_
      rotate_left
      · rintro w hS4; go_simp; try with_reducible rfl
      simp only [Act.put, List.setIfInBounds_toArray, List.set_cons_zero, List.set_cons_succ]
      refine wpAnyH_takeD (i := 14) (d := 60) (v := ?_) rfl rfl (by kernel_rfl) (by kernel_rfl) (by kernel_rfl) (fun _ _ _ h => h) (Or.inl ⟨by rfl, ?_⟩) hHeld ?_
      rotate_left
      · rintro w hS4; go_simp; try with_reducible rfl
      simp only [Act.put, List.setIfInBounds_toArray, List.set_cons_zero, List.set_cons_succ]
      refine wpAnyH_ready (rs := [15]) (by kernel_rfl) (by simp) ?_
      refine AllReadyH.cons rfl (fun K hK => ?_) AllReadyH.nil
      go_simp
      refine hK.out _ _ ((hEd).alloc _) (fun _ => ?_)
      clear hK K
      refine wpAnyH_ready (rs := [16]) (by kernel_rfl) (by simp) ?_
      refine AllReadyH.cons rfl (fun K hK => ?_) AllReadyH.nil
      go_simp
      go_at_call 15
      refine (HC5.out wr.drew _ hEd (by simp)).mono ?_
      rintro e w8 ⟨rfl, hE8⟩
      have hHeld : Ext wr w8 := hEd.trans hE8
      refine hK.out _ _ hHeld (fun _ => ?_)
      clear hK K
      refine wpAnyH_takeD (i := 17) (d := 63) (v := ?_) rfl rfl (by kernel_rfl) (by kernel_rfl) (by kernel_rfl) (fun _ _ _ h => h) (Or.inl ⟨by rfl, ?_⟩) hHeld ?_
      rotate_left
      · rintro w hS4; go_simp; try with_reducible rfl
      simp only [Act.put, List.setIfInBounds_toArray, List.set_cons_zero, List.set_cons_succ]
      refine wpAnyH_takeD (i := 18) (d := 64) (v := ?_) rfl rfl (by kernel_rfl) (by kernel_rfl) (by kernel_rfl) (fun _ _ _ h => h) (Or.inl ⟨by rfl, ?_⟩) hHeld ?_
      rotate_left
      · rintro w hS4; go_simp; try with_reducible rfl
      simp only [Act.put, List.setIfInBounds_toArray, List.set_cons_zero, List.set_cons_succ]
      refine wpAnyH_takeD (i := 19) (d := 65) (v := ?_) rfl rfl (by kernel_rfl) (by kernel_rfl) (by kernel_rfl) (fun _ _ _ h => h) (Or.inl ⟨by rfl, ?_⟩) hHeld ?_
      rotate_left
      · rintro w hS4; go_simp; try with_reducible rfl
      simp only [Act.put, List.setIfInBounds_toArray, List.set_cons_zero, List.set_cons_succ]
      refine wpAnyH_takeD (i := 20) (d := 66) (v := ?_) rfl rfl (by kernel_rfl) (by kernel_rfl) (by kernel_rfl) (fun _ _ _ h => h) (Or.inl ⟨by rfl, ?_⟩) hHeld ?_
      rotate_left
      · rintro w hS4; go_simp; try with_reducible rfl
      simp only [Act.put, List.setIfInBounds_toArray, List.set_cons_zero, List.set_cons_succ]
      refine wpAnyH_takeD (i := 21) (d := 67) (v := ?_) rfl rfl (by kernel_rfl) (by kernel_rfl) (by kernel_rfl) (fun _ _ _ h => h) (Or.inl ⟨by rfl, ?_⟩) hHeld ?_
      rotate_left
      · rintro w hS4; go_simp; try with_reducible rfl
      simp only [Act.put, List.setIfInBounds_toArray, List.set_cons_zero, List.set_cons_succ]
      refine wpAnyH_takeD (i := 22) (d := 68) (v := ?_) rfl rfl (by kernel_rfl) (by kernel_rfl) (by kernel_rfl) (fun _ _ _ h => h) (Or.inl ⟨by rfl, ?_⟩) hHeld ?_
      rotate_left
      · rintro w hS4; go_simp; try with_reducible rfl
      simp only [Act.put, List.setIfInBounds_toArray, List.set_cons_zero, List.set_cons_succ]
      refine wpAnyH_takeD (i := 23) (d := 69) (v := ?_) rfl rfl (by kernel_rfl) (by kernel_rfl) (by kernel_rfl) (fun _ _ _ h => h) (Or.inl ⟨by rfl, ?_⟩) hHeld ?_
      rotate_left
      · rintro w hS4; go_simp; try with_reducible rfl
      simp only [Act.put, List.setIfInBounds_toArray, List.set_cons_zero, List.set_cons_succ]
      refine wpAnyH_takeD (i := 24) (d := 70) (v := ?_) rfl rfl (by kernel_rfl) (by kernel_rfl) (by kernel_rfl) (fun _ _ _ h => h) (Or.inl ⟨by rfl, ?_⟩) hHeld ?_
      rotate_left
      · rintro w hS4; go_simp; try with_reducible rfl
      simp only [Act.put, List.setIfInBounds_toArray, List.set_cons_zero, List.set_cons_succ]
      refine wpAnyH_takeD (i := 25) (d := 71) (v := ?_) rfl rfl (by kernel_rfl) (by kernel_rfl) (by kernel_rfl) (fun _ _ _ h => h) (Or.inl ⟨by rfl, ?_⟩) hHeld ?_
      rotate_left
      · rintro w hS4; go_simp; try with_reducible rfl
      simp only [Act.put, List.setIfInBounds_toArray, List.set_cons_zero, List.set_cons_succ]
      refine wpAnyH_takeD (i := 26) (d := 72) (v := ?_) rfl rfl (by kernel_rfl) (by kernel_rfl) (by kernel_rfl) (fun _ _ _ h => h) (Or.inl ⟨by rfl, ?_⟩) hHeld ?_
      rotate_left
      · rintro w hS4; go_simp; try with_reducible rfl
      simp only [Act.put, List.setIfInBounds_toArray, List.set_cons_zero, List.set_cons_succ]
      refine wpAnyH_takeD (i := 27) (d := 73) (v := ?_) rfl rfl (by kernel_rfl) (by kernel_rfl) (by kernel_rfl) (fun _ _ _ h => h) (Or.inl ⟨by rfl, ?_⟩) hHeld ?_
      rotate_left
      · rintro w hS4; go_simp; try with_reducible rfl
      simp only [Act.put, List.setIfInBounds_toArray, List.set_cons_zero, List.set_cons_succ]
      refine wpAnyH_ready (rs := [28]) (by kernel_rfl) (by simp) ?_
      refine AllReadyH.cons rfl (fun K hK => ?_) AllReadyH.nil
      go_simp
      refine hK.out _ _ ((hHeld).alloc _) (fun _ => ?_)
      clear hK K
      refine wpAnyH_ready (rs := [29]) (by kernel_rfl) (by simp) ?_
      refine AllReadyH.cons rfl (fun K hK => ?_) AllReadyH.nil
      go_simp
      go_at_call 15
      refine (HC2.out w8 _ (hEd.trans hE8) (by simp)).mono ?_
      rintro e w9 ⟨rfl, hE9⟩
      have hHeld : Ext wr w9 := (hEd.trans hE8).trans hE9
      refine hK.out _ _ hHeld (fun _ => ?_)
      clear hK K
      refine wpAnyH_takeD (i := 30) (d := 76) (v := ?_) rfl rfl (by kernel_rfl) (by kernel_rfl) (by kernel_rfl) (fun _ _ _ h => h) (Or.inl ⟨by rfl, ?_⟩) hHeld ?_
      rotate_left
      · rintro w hS4; go_simp; try with_reducible rfl
      simp only [Act.put, List.setIfInBounds_toArray, List.set_cons_zero, List.set_cons_succ]
      refine wpAnyH_takeD (i := 31) (d := 77) (v := ?_) rfl rfl (by kernel_rfl) (by kernel_rfl) (by kernel_rfl) (fun _ _ _ h => h) (Or.inl ⟨by rfl, ?_⟩) hHeld ?_
      rotate_left
      · rintro w hS4; go_simp; try with_reducible rfl
      simp only [Act.put, List.setIfInBounds_toArray, List.set_cons_zero, List.set_cons_succ]
      refine wpAnyH_done (by kernel_rfl) ?_ _
      rw [← show h.A = some ⟨b, off, none⟩ from HbA.out]
      have HEN := Lib.hid (HER.out.trans hHeld)
      clear B0 B1 B2 B3 B4 B5 B6 Y0 hErr HC5 HC2 hEd hE8 hE9 hHeld
      go_wp2
      go_roundw
      case rel => exact ⟨q + 1, by omega, by go_num, HEN.out⟩
      case measure => simp [intOf]; omega
      --S]
    · have hi1 : ¬ (q : Int) < (h.m : Int) := by omega
      obtain ⟨w8, rfl⟩ : ∃ w8 : World, w8 = wr := ⟨_, rfl⟩
      have HE8 := HER
      clear HER
      go_wp2
      go_loopw [10, 9] (fun v gv wr => ∃ q : Nat, q ≤ he.m ∧ v = .int .i64 q ∧ ∃ gn : Nat, gn ≤ 1000 ∧ gv = .int .i64 gn ∧ Hid (gn = ((ces.map Ent.p).take q).countP (lostB tk ((es.map Ent.p).map Ep.id))) ∧ Hid (Ext W5 wr)) (fun v _ _ => he.m - (intOf v).toNat)
      case atStart => exact ⟨0, Nat.zero_le _, rfl, 0, by omega, rfl, rfl, HE8.out⟩
      case round =>
        obtain ⟨q, hq, rfl, gn, hgn, rfl, HGN, HER⟩ := hrel
        have HE1R := Lib.hid (HE15.out.trans HER.out)
        by_cases hlt : q < he.m
        · have hskip : True := trivial
          --S[ l2
          have hER := HER.out
          obtain ⟨xzb, xzo, hzA, -, hcs⟩ := ((HX.out.ext (HE05.out.trans hER)).e).sl.at_ hlt (by omega)
          have HxzA := Lib.hid hzA
          clear hzA
          have xzlt : q < (ces).length := by rw [← (HL2).out]; exact hlt
          obtain ⟨y, hyq⟩ : ∃ y, y = (ces)[q] := ⟨_, rfl⟩
          have y0 := hcs q xzlt 0 (by omega)
          have y1 := hcs q xzlt 1 (by omega)
          have y2 := hcs q xzlt 2 (by omega)
          have y3 := hcs q xzlt 3 (by omega)
          have y4 := hcs q xzlt 4 (by omega)
          have y5 := hcs q xzlt 5 (by omega)
          have y6 := hcs q xzlt 6 (by omega)
          simp only [← hyq, entC, List.getElem_cons_zero, List.getElem_cons_succ, Nat.add_zero, ← Nat.add_assoc] at y0 y1 y2 y3 y4 y5 y6
          have HxzM : Hid (y ∈ ces) := by show _ ∈ _; rw [hyq]; exact List.getElem_mem xzlt
          have HxzW : Hid (EntW wr y) := ((HX.out.ext (HE05.out.trans hER)).e).good y HxzM.out
          have HxzQ : Hid ((ces)[q]? = some y) := by show _ = _; rw [List.getElem?_eq_getElem xzlt, hyq]
          have xzi : (q : Int) < (he.m : Int) := by omega
          clear hcs hyq
          obtain ⟨⟨xid, xsrc, xtgt, xcom, xfl, xst, xfd⟩, xhc, xhf, xhd⟩ := y
          dsimp only at y0 y1 y2 y3 y4 y5 y6
          have hbY := Blk.new wr 35 #[.string xid, .string xsrc, .string xtgt, .slice xhc.A xhc.m xhc.c, .slice xhf.A xhf.m xhf.c, .int .i64 xst, .slice xhd.A xhd.m xhd.c]
          obtain ⟨W6, hW6⟩ : ∃ W : World, W = wr.alloc (Obj.cells #[.string xid, .string xsrc, .string xtgt, .slice xhc.A xhc.m xhc.c, .slice xhf.A xhf.m xhf.c, .int .i64 xst, .slice xhd.A xhd.m xhd.c] 35) := ⟨_, rfl⟩
          rw [← hW6] at hbY
          have hEW6 : Ext wr W6 := by rw [hW6]; exact (Ext.refl _).alloc _
          obtain ⟨g9, hg9⟩ : ∃ n, n = wr.heap.size := ⟨_, rfl⟩
          rw [← hg9] at hbY
          have Yx0 := laters (show _ = some (.string xid) from hbY.cell 0)
          have Yx1 := laters (show _ = some (.string xsrc) from hbY.cell 1)
          have Yx2 := laters (show _ = some (.string xtgt) from hbY.cell 2)
          have Yx3 := laters (show _ = some (.slice xhc.A xhc.m xhc.c) from hbY.cell 3)
          have Yx4 := laters (show _ = some (.slice xhf.A xhf.m xhf.c) from hbY.cell 4)
          have Yx5 := laters (show _ = some (.int .i64 xst) from hbY.cell 5)
          have Yx6 := laters (show _ = some (.slice xhd.A xhd.m xhd.c) from hbY.cell 6)
          clear hbY
          have X3r := X3 wr HE1R.out
          rw [show he.A = some ⟨xzb, xzo, none⟩ from HxzA.out] at X3r
          have HE6 := Lib.hid (hER.trans hEW6)
          have hg8 : gn ≤ 8 := by
            have h1 := HGN.out
            have h2 : ((ces.map Ent.p).take q).countP (lostB tk ((es.map Ent.p).map Ep.id)) ≤ ((ces.map Ent.p).take q).length := List.countP_le_length
            rw [List.length_take] at h2
            omega
          have hql : q < (ces.map Ent.p).length := by rw [List.length_map]; exact xzlt
          have HGS : Hid (((ces.map Ent.p).take (q + 1)).countP (lostB tk ((es.map Ent.p).map Ep.id)) = gn + if lostB tk ((es.map Ent.p).map Ep.id) ⟨xid, xsrc, xtgt, xcom, xfl, xst, xfd⟩ = true then 1 else 0) := by
            show _ = _
            rw [countP_take _ hql, ← HGN.out, List.getElem_map, (List.getElem?_eq_some_iff.1 HxzQ.out).2]
          clear hER hql
          go_upto_region 18 with fail
          rw [← hW6, ← hg9]
          clear hW6 hg9 y0 y1 y2 y3 y4 y5 y6 X3r
          obtain ⟨wo, rfl⟩ : ∃ wo : World, wo = wr := ⟨_, rfl⟩
          have hE66 := Ext.refl W6
          have HIDS : Hid (∀ W, Ext W6 W → Calls Tryd.prog 16 #[.agg #[.string ⟨#[]⟩, .slice none 0 0, .slice none 0 0, .slice h.A h.m h.c]] W fun e w' => (∃ A m c, e = .returned (.slice A m c) ∧ SlC strF 1 w' A m ((es.map Ent.p).map Ep.id) ∧ m ≤ 1000) ∧ Ext W w') := fun W hW =>
            rids_any (x := ⟨⟨#[]⟩, [], [], es, ⟨none, 0, 0⟩, ⟨none, 0, 0⟩, h⟩) ⟨by show ByteArray.size ⟨#[]⟩ ≤ _; exact Nat.zero_le _, HW.nil_ strF_len, HW.nil_ fdC_len, EntsW.ext HS.out (HE05.out.trans (HE6.out.trans hW))⟩ (by show h.m ≤ 1000; omega)
          cases hin : inB ((es.map Ent.p).map Ep.id) xid with
          | true =>
            have hcp := (cntB_pos (l := (es.map Ent.p).map Ep.id) (s := xid)).2 hin
            obtain ⟨ci, hci⟩ : ∃ ci, cntB ((es.map Ent.p).map Ep.id) xid = ci := ⟨_, rfl⟩
            rw [hci] at hcp
            have hcp1 : (0 : Int) < (ci : Int) := by omega
            have HCV := Lib.hid hci
            have HN : Hid (gn = ((ces.map Ent.p).take (q + 1)).countP (lostB tk ((es.map Ent.p).map Ep.id))) := by
              show _ = _
              rw [HGS.out]
              unfold lostB
              rw [hin]
              rfl
            clear hin hci
            have hEd : Ext W6 W6.drew := (Ext.refl W6).drew
            refine wp_region_held_drew (S := fun w' => Ext W6 w') (by kernel_rfl) hEd ?_
            intro hHeld
            refine wpAnyH_takeD (i := 0) (d := 90) (v := ?_) rfl rfl (by kernel_rfl) (by kernel_rfl) (by kernel_rfl) (fun _ _ _ h => h) (Or.inl ⟨by rfl, ?_⟩) hHeld ?_
            rotate_left
            · rintro w hS4; go_simp; try with_reducible rfl
            simp only [Act.put, List.setIfInBounds_toArray, List.set_cons_zero, List.set_cons_succ]
            refine wpAnyH_takeD (i := 1) (d := 91) (v := ?_) rfl rfl (by kernel_rfl) (by kernel_rfl) (by kernel_rfl) (fun _ _ _ h => h) (Or.inl ⟨by rfl, ?_⟩) hHeld ?_
            rotate_left
            · rintro w hS4; go_simp; try with_reducible rfl
            simp only [Act.put, List.setIfInBounds_toArray, List.set_cons_zero, List.set_cons_succ]
            refine wpAnyH_takeD (i := 2) (d := 92) (v := ?_) rfl rfl (by kernel_rfl) (by kernel_rfl) (by kernel_rfl) (fun _ _ _ h => h) (Or.inl ⟨by rfl, ?_⟩) hHeld ?_
            rotate_left
            · rintro w hS4; go_simp; try with_reducible rfl
            simp only [Act.put, List.setIfInBounds_toArray, List.set_cons_zero, List.set_cons_succ]
            refine wpAnyH_takeD (i := 3) (d := 93) (v := ?_) rfl rfl (by kernel_rfl) (by kernel_rfl) (by kernel_rfl) (fun _ _ _ h => h) (Or.inl ⟨by rfl, ?_⟩) hHeld ?_
            rotate_left
            · rintro w hS4; go_simp; try with_reducible rfl
            simp only [Act.put, List.setIfInBounds_toArray, List.set_cons_zero, List.set_cons_succ]
            refine wpAnyH_ready (rs := [4]) (by kernel_rfl) (by simp) ?_
            refine AllReadyH.cons rfl (fun K hK => ?_) AllReadyH.nil
            go_simp
            go_at_call 16
            refine (HIDS.out _ hEd).mono ?_
            rintro e w7 ⟨⟨A7, m7, c7, rfl, hs7, hm7⟩, hE7'⟩
            have hE7 : Ext W6 w7 := hEd.trans hE7'
            have hcn := cnt1_any w7 xid ⟨A7, m7, c7⟩ hs7
            dsimp only at hcn
            rw [HCV.out] at hcn
            refine hK.out _ _ hE7 (fun _ => ?_)
            clear hK K hHeld
            refine wpAnyH_ready (rs := [5]) (by kernel_rfl) (by simp) ?_
            refine AllReadyH.cons rfl (fun K hK => ?_) AllReadyH.nil
            go_simp
            refine hK.out _ _ ((hE7).alloc _) (fun _ => ?_)
            clear hK K
            refine wpAnyH_ready (rs := [6]) (by kernel_rfl) (by simp) ?_
            refine AllReadyH.cons rfl (fun K hK => ?_) AllReadyH.nil
            go_simp
            go_at_call 15
            refine hcn.mono ?_
            rintro e w8 ⟨rfl, hw8⟩
            have hHeld : Ext W6 w8 := by rw [← hw8]; exact hE7.alloc _
            refine hK.out _ _ hHeld (fun _ => ?_)
            clear hK K hw8 hcn hs7
            refine wpAnyH_takeD (i := 7) (d := 97) (v := ?_) rfl rfl (by kernel_rfl) (by kernel_rfl) (by kernel_rfl) (fun _ _ _ h => h) (Or.inl ⟨by rfl, ?_⟩) hHeld ?_
            rotate_left
            · rintro w hS4; go_simp; try with_reducible rfl
            simp only [Act.put, List.setIfInBounds_toArray, List.set_cons_zero, List.set_cons_succ]
            refine wpAnyH_done (by kernel_rfl) ?_ _
            have HE7 := Lib.hid hHeld
            clear hE7' hE7 hEd hHeld
            have HEN := Lib.hid (HE6.out.trans HE7.out)
            go_wp2
            go_roundw
            case rel => exact ⟨q + 1, by omega, by go_num, gn, by omega, rfl, HN.out, HEN.out⟩
            case measure => simp [intOf]; omega
          | false =>
            have HCV : Hid (cntB ((es.map Ent.p).map Ep.id) xid = 0) := by
              show _ = _
              have h1 := cntB_pos (l := (es.map Ent.p).map Ep.id) (s := xid)
              rw [hin] at h1
              have h2 : ¬ 0 < cntB ((es.map Ent.p).map Ep.id) xid := fun e => by cases h1.1 e
              omega
            have HRC : Hid (RepC _ _ _ _ _) := HOT.out _ HxzM.out hin
            clear hin
            have hEd : Ext W6 W6.drew := (Ext.refl W6).drew
            refine wp_region_held_drew (S := fun w' => Ext W6 w') (by kernel_rfl) hEd ?_
            intro hHeld
            refine wpAnyH_takeD (i := 0) (d := 90) (v := ?_) rfl rfl (by kernel_rfl) (by kernel_rfl) (by kernel_rfl) (fun _ _ _ h => h) (Or.inl ⟨by rfl, ?_⟩) hHeld ?_
            rotate_left
            · rintro w hS4; go_simp; try with_reducible rfl
            simp only [Act.put, List.setIfInBounds_toArray, List.set_cons_zero, List.set_cons_succ]
            refine wpAnyH_takeD (i := 1) (d := 91) (v := ?_) rfl rfl (by kernel_rfl) (by kernel_rfl) (by kernel_rfl) (fun _ _ _ h => h) (Or.inl ⟨by rfl, ?_⟩) hHeld ?_
            rotate_left
            · rintro w hS4; go_simp; try with_reducible rfl
            simp only [Act.put, List.setIfInBounds_toArray, List.set_cons_zero, List.set_cons_succ]
            refine wpAnyH_takeD (i := 2) (d := 92) (v := ?_) rfl rfl (by kernel_rfl) (by kernel_rfl) (by kernel_rfl) (fun _ _ _ h => h) (Or.inl ⟨by rfl, ?_⟩) hHeld ?_
            rotate_left
            · rintro w hS4; go_simp; try with_reducible rfl
            simp only [Act.put, List.setIfInBounds_toArray, List.set_cons_zero, List.set_cons_succ]
            refine wpAnyH_takeD (i := 3) (d := 93) (v := ?_) rfl rfl (by kernel_rfl) (by kernel_rfl) (by kernel_rfl) (fun _ _ _ h => h) (Or.inl ⟨by rfl, ?_⟩) hHeld ?_
            rotate_left
            · rintro w hS4; go_simp; try with_reducible rfl
            simp only [Act.put, List.setIfInBounds_toArray, List.set_cons_zero, List.set_cons_succ]
            refine wpAnyH_ready (rs := [4]) (by kernel_rfl) (by simp) ?_
            refine AllReadyH.cons rfl (fun K hK => ?_) AllReadyH.nil
            go_simp
            go_at_call 16
            refine (HIDS.out _ hEd).mono ?_
            rintro e w7 ⟨⟨A7, m7, c7, rfl, hs7, hm7⟩, hE7'⟩
            have hE7 : Ext W6 w7 := hEd.trans hE7'
            have hcn := cnt1_any w7 xid ⟨A7, m7, c7⟩ hs7
            dsimp only at hcn
            rw [HCV.out] at hcn
            refine hK.out _ _ hE7 (fun _ => ?_)
            clear hK K hHeld
            refine wpAnyH_ready (rs := [5]) (by kernel_rfl) (by simp) ?_
            refine AllReadyH.cons rfl (fun K hK => ?_) AllReadyH.nil
            go_simp
            refine hK.out _ _ ((hE7).alloc _) (fun _ => ?_)
            clear hK K
            refine wpAnyH_ready (rs := [6]) (by kernel_rfl) (by simp) ?_
            refine AllReadyH.cons rfl (fun K hK => ?_) AllReadyH.nil
            go_simp
            go_at_call 15
            refine hcn.mono ?_
            rintro e w8 ⟨rfl, hw8⟩
            have hHeld : Ext W6 w8 := by rw [← hw8]; exact hE7.alloc _
            refine hK.out _ _ hHeld (fun _ => ?_)
            clear hK K hw8 hcn hs7
            refine wpAnyH_takeD (i := 7) (d := 97) (v := ?_) rfl rfl (by kernel_rfl) (by kernel_rfl) (by kernel_rfl) (fun _ _ _ h => h) (Or.inl ⟨by rfl, ?_⟩) hHeld ?_
            rotate_left
            · rintro w hS4; go_simp; try with_reducible rfl
            simp only [Act.put, List.setIfInBounds_toArray, List.set_cons_zero, List.set_cons_succ]
            refine wpAnyH_done (by kernel_rfl) ?_ _
            have HE7 := Lib.hid hHeld
            clear hE7' hE7 hEd hHeld
            have A0 := laters (show W5.cell? ⟨g5, 0, none⟩ = some (.string atag) from HBA.out.cell 0)
            have A1 := laters (show W5.cell? ⟨g5, 1, none⟩ = some (.slice ahc.A ahc.m ahc.c) from HBA.out.cell 1)
            have A2 := laters (show W5.cell? ⟨g5, 2, none⟩ = some (.slice ahd.A ahd.m ahd.c) from HBA.out.cell 2)
            have A3 := laters (show W5.cell? ⟨g5, 3, none⟩ = some (.slice ahe.A ahe.m ahe.c) from HBA.out.cell 3)
            have hE68 := HE7.out
            have hE58 := HE6.out.trans hE68
            rcases HRC.out with ⟨hO, hR, hS, hl⟩ | ⟨hO, hR, hS, ht, hl⟩ | ⟨hO, hR, hS, hl⟩ | ⟨hO, hR, hS, h4, hl⟩
            · have HO := Lib.hid hO
              have HR := Lib.hid hR
              have HSS := Lib.hid hS
              have HN : Hid (gn + 1 = ((ces.map Ent.p).take (q + 1)).countP (lostB tk ((es.map Ent.p).map Ep.id))) := by show _ = _; rw [HGS.out, hl]; rfl
              clear hO hR hS hl
              have hc2 := cnt2_any w8 xid (R 5) (R 6) ((HRW.out 5 (by omega)).ext hE58) ((HRW.out 6 (by omega)).ext hE58)
              rw [show cntB (repL r 5) xid + cntB (repL r 6) xid = 0 from by show cntB r.obs xid + cntB r.removed xid = _; rw [show cntB r.obs xid = 0 from HO.out, show cntB r.removed xid = 0 from HR.out]] at hc2
              go_wp2_with (first
                | (go_at_call 15; refine Hid.out ?_))
              refine Hid.mk_ ((hc2).mono ?_)
              rintro e w9 ⟨rfl, hw9⟩
              have hE89 : Ext w8 w9 := by rw [← hw9]; exact (Ext.refl _).alloc _
              have hE59 := hE58.trans hE89
              have hE69 := hE68.trans hE89
              clear hc2 hw9 hE58 hE68 hE89
              have hfd := refFind_any (HW4.out.ext (HE45.out.trans hE59)) xid
              unfold catV at hfd
              dsimp only at hfd
              go_wp2_with (first
                | (go_at_call 17; refine Hid.out ?_))
              refine Hid.mk_ ((hfd).mono ?_)
              rintro e wF ⟨⟨z, hz, rfl⟩, hEF⟩
              obtain ⟨kz, hkz⟩ := findV_still hz
              rw [hkz, show inB ((Cat.p ⟨atag, acom, afd, aes, ahc, ahd, ahe⟩).es.map Ep.id) xid = _ from HSS.out]
              have hE5F := hE59.trans hEF
              have hE6F := hE69.trans hEF
              clear hfd hz hkz hE59 hE69 hEF
              have hcr := cnt1_any wF xid (R 6) ((HRW.out 6 (by omega)).ext hE5F)
              rw [show cntB (repL r 6) xid = 0 from HR.out] at hcr
              go_wp2_with (first
                | (go_at_call 15; refine Hid.out ?_))
              refine Hid.mk_ ((hcr).mono ?_)
              rintro e wG ⟨rfl, hwG⟩
              have hEFG : Ext wF wG := by rw [← hwG]; exact (Ext.refl _).alloc _
              have hE5G := hE5F.trans hEFG
              have hE6G := hE6F.trans hEFG
              clear hcr hwG hE5F hE6F hEFG
              have hco := cnt1_any wG xid (R 5) ((HRW.out 5 (by omega)).ext hE5G)
              rw [show cntB (repL r 5) xid = 0 from HO.out] at hco
              go_wp2_with (first
                | (go_at_call 15; refine Hid.out ?_))
              refine Hid.mk_ ((hco).mono ?_)
              rintro e wH ⟨rfl, hwH⟩
              have hEGH : Ext wG wH := by rw [← hwH]; exact (Ext.refl _).alloc _
              have hE5H := hE5G.trans hEGH
              have hE6H := hE6G.trans hEGH
              have HEN := Lib.hid hE5H
              clear hco hwH hE5G hE6G hEGH
              go_wp2
              go_roundw
              case rel => exact ⟨q + 1, by omega, by go_num, gn + 1, by omega, by go_num, HN.out, by first | exact HEN.out | trivial⟩
              case measure => simp [intOf]; omega
            · have HO := Lib.hid hO
              have HR := Lib.hid hR
              have HSS := Lib.hid hS
              have HN : Hid (gn = ((ces.map Ent.p).take (q + 1)).countP (lostB tk ((es.map Ent.p).map Ep.id))) := by show _ = _; rw [HGS.out, hl]; rfl
              have ht1 : xtgt.toList.isEmpty = true := by rw [isEmpty_size, show xtgt.size = 0 from ht]; rfl
              clear hO hR hS hl ht
              have hc2 := cnt2_any w8 xid (R 5) (R 6) ((HRW.out 5 (by omega)).ext hE58) ((HRW.out 6 (by omega)).ext hE58)
              rw [show cntB (repL r 5) xid + cntB (repL r 6) xid = 1 from by show cntB r.obs xid + cntB r.removed xid = _; rw [show cntB r.obs xid = 0 from HO.out, show cntB r.removed xid = 1 from HR.out]] at hc2
              go_wp2_with (first
                | (go_at_call 15; refine Hid.out ?_))
              refine Hid.mk_ ((hc2).mono ?_)
              rintro e w9 ⟨rfl, hw9⟩
              have hE89 : Ext w8 w9 := by rw [← hw9]; exact (Ext.refl _).alloc _
              have hE59 := hE58.trans hE89
              have hE69 := hE68.trans hE89
              clear hc2 hw9 hE58 hE68 hE89
              have hfd := refFind_any (HW4.out.ext (HE45.out.trans hE59)) xid
              unfold catV at hfd
              dsimp only at hfd
              go_wp2_with (first
                | (go_at_call 17; refine Hid.out ?_))
              refine Hid.mk_ ((hfd).mono ?_)
              rintro e wF ⟨⟨z, hz, rfl⟩, hEF⟩
              obtain ⟨kz, hkz⟩ := findV_still hz
              rw [hkz, show inB ((Cat.p ⟨atag, acom, afd, aes, ahc, ahd, ahe⟩).es.map Ep.id) xid = _ from HSS.out]
              have hE5F := hE59.trans hEF
              have hE6F := hE69.trans hEF
              clear hfd hz hkz hE59 hE69 hEF
              have hcr := cnt1_any wF xid (R 6) ((HRW.out 6 (by omega)).ext hE5F)
              rw [show cntB (repL r 6) xid = 1 from HR.out] at hcr
              go_wp2_with (first
                | (go_at_call 15; refine Hid.out ?_))
              refine Hid.mk_ ((hcr).mono ?_)
              rintro e wG ⟨rfl, hwG⟩
              have hEFG : Ext wF wG := by rw [← hwG]; exact (Ext.refl _).alloc _
              have hE5G := hE5F.trans hEFG
              have hE6G := hE6F.trans hEFG
              clear hcr hwG hE5F hE6F hEFG
              have hco := cnt1_any wG xid (R 5) ((HRW.out 5 (by omega)).ext hE5G)
              rw [show cntB (repL r 5) xid = 0 from HO.out] at hco
              go_wp2_with (first
                | (go_at_call 15; refine Hid.out ?_))
              refine Hid.mk_ ((hco).mono ?_)
              rintro e wH ⟨rfl, hwH⟩
              have hEGH : Ext wG wH := by rw [← hwH]; exact (Ext.refl _).alloc _
              have hE5H := hE5G.trans hEGH
              have hE6H := hE6G.trans hEGH
              have HEN := Lib.hid hE5H
              clear hco hwH hE5G hE6G hEGH
              go_wp2
              go_roundw
              case rel => exact ⟨q + 1, by omega, by go_num, gn, by omega, by go_num, HN.out, by first | exact HEN.out | trivial⟩
              case measure => simp [intOf]; omega
            · have HO := Lib.hid hO
              have HR := Lib.hid hR
              have HSS := Lib.hid hS
              have HN : Hid (gn = ((ces.map Ent.p).take (q + 1)).countP (lostB tk ((es.map Ent.p).map Ep.id))) := by show _ = _; rw [HGS.out, hl]; rfl
              clear hO hR hS hl
              have hc2 := cnt2_any w8 xid (R 5) (R 6) ((HRW.out 5 (by omega)).ext hE58) ((HRW.out 6 (by omega)).ext hE58)
              rw [show cntB (repL r 5) xid + cntB (repL r 6) xid = 1 from by show cntB r.obs xid + cntB r.removed xid = _; rw [show cntB r.obs xid = 1 from HO.out, show cntB r.removed xid = 0 from HR.out]] at hc2
              go_wp2_with (first
                | (go_at_call 15; refine Hid.out ?_))
              refine Hid.mk_ ((hc2).mono ?_)
              rintro e w9 ⟨rfl, hw9⟩
              have hE89 : Ext w8 w9 := by rw [← hw9]; exact (Ext.refl _).alloc _
              have hE59 := hE58.trans hE89
              have hE69 := hE68.trans hE89
              clear hc2 hw9 hE58 hE68 hE89
              have hfd := refFind_any (HW4.out.ext (HE45.out.trans hE59)) xid
              unfold catV at hfd
              dsimp only at hfd
              go_wp2_with (first
                | (go_at_call 17; refine Hid.out ?_))
              refine Hid.mk_ ((hfd).mono ?_)
              rintro e wF ⟨⟨z, hz, rfl⟩, hEF⟩
              obtain ⟨kz, hkz⟩ := findV_still hz
              rw [hkz, show inB ((Cat.p ⟨atag, acom, afd, aes, ahc, ahd, ahe⟩).es.map Ep.id) xid = _ from HSS.out]
              have hE5F := hE59.trans hEF
              have hE6F := hE69.trans hEF
              clear hfd hz hkz hE59 hE69 hEF
              have hcr := cnt1_any wF xid (R 6) ((HRW.out 6 (by omega)).ext hE5F)
              rw [show cntB (repL r 6) xid = 0 from HR.out] at hcr
              go_wp2_with (first
                | (go_at_call 15; refine Hid.out ?_))
              refine Hid.mk_ ((hcr).mono ?_)
              rintro e wG ⟨rfl, hwG⟩
              have hEFG : Ext wF wG := by rw [← hwG]; exact (Ext.refl _).alloc _
              have hE5G := hE5F.trans hEFG
              have hE6G := hE6F.trans hEFG
              clear hcr hwG hE5F hE6F hEFG
              have hco := cnt1_any wG xid (R 5) ((HRW.out 5 (by omega)).ext hE5G)
              rw [show cntB (repL r 5) xid = 1 from HO.out] at hco
              go_wp2_with (first
                | (go_at_call 15; refine Hid.out ?_))
              refine Hid.mk_ ((hco).mono ?_)
              rintro e wH ⟨rfl, hwH⟩
              have hEGH : Ext wG wH := by rw [← hwH]; exact (Ext.refl _).alloc _
              have hE5H := hE5G.trans hEGH
              have hE6H := hE6G.trans hEGH
              have HEN := Lib.hid hE5H
              clear hco hwH hE5G hE6G hEGH
              go_wp2
              go_roundw
              case rel => exact ⟨q + 1, by omega, by go_num, gn, by omega, by go_num, HN.out, by first | exact HEN.out | trivial⟩
              case measure => simp [intOf]; omega
            · have HO := Lib.hid hO
              have HR := Lib.hid hR
              have HSS := Lib.hid hS
              have HN : Hid (gn = ((ces.map Ent.p).take (q + 1)).countP (lostB tk ((es.map Ent.p).map Ep.id))) := by show _ = _; rw [HGS.out, hl]; rfl
              have e4 : (xst != 4) = false := by rw [show xst = 4 from h4]; rfl
              clear hO hR hS hl h4
              have hc2 := cnt2_any w8 xid (R 5) (R 6) ((HRW.out 5 (by omega)).ext hE58) ((HRW.out 6 (by omega)).ext hE58)
              rw [show cntB (repL r 5) xid + cntB (repL r 6) xid = 0 from by show cntB r.obs xid + cntB r.removed xid = _; rw [show cntB r.obs xid = 0 from HO.out, show cntB r.removed xid = 0 from HR.out]] at hc2
              go_wp2_with (first
                | (go_at_call 15; refine Hid.out ?_))
              refine Hid.mk_ ((hc2).mono ?_)
              rintro e w9 ⟨rfl, hw9⟩
              have hE89 : Ext w8 w9 := by rw [← hw9]; exact (Ext.refl _).alloc _
              have hE59 := hE58.trans hE89
              have hE69 := hE68.trans hE89
              clear hc2 hw9 hE58 hE68 hE89
              have hfd := refFind_any (HW4.out.ext (HE45.out.trans hE59)) xid
              unfold catV at hfd
              dsimp only at hfd
              go_wp2_with (first
                | (go_at_call 17; refine Hid.out ?_))
              refine Hid.mk_ ((hfd).mono ?_)
              rintro e wF ⟨⟨z, hz, rfl⟩, hEF⟩
              obtain ⟨kz, hkz⟩ := findV_still hz
              rw [hkz, show inB ((Cat.p ⟨atag, acom, afd, aes, ahc, ahd, ahe⟩).es.map Ep.id) xid = _ from HSS.out]
              have hE5F := hE59.trans hEF
              have hE6F := hE69.trans hEF
              clear hfd hz hkz hE59 hE69 hEF
              have hcr := cnt1_any wF xid (R 6) ((HRW.out 6 (by omega)).ext hE5F)
              rw [show cntB (repL r 6) xid = 0 from HR.out] at hcr
              go_wp2_with (first
                | (go_at_call 15; refine Hid.out ?_))
              refine Hid.mk_ ((hcr).mono ?_)
              rintro e wG ⟨rfl, hwG⟩
              have hEFG : Ext wF wG := by rw [← hwG]; exact (Ext.refl _).alloc _
              have hE5G := hE5F.trans hEFG
              have hE6G := hE6F.trans hEFG
              clear hcr hwG hE5F hE6F hEFG
              have hco := cnt1_any wG xid (R 5) ((HRW.out 5 (by omega)).ext hE5G)
              rw [show cntB (repL r 5) xid = 0 from HO.out] at hco
              go_wp2_with (first
                | (go_at_call 15; refine Hid.out ?_))
              refine Hid.mk_ ((hco).mono ?_)
              rintro e wH ⟨rfl, hwH⟩
              have hEGH : Ext wG wH := by rw [← hwH]; exact (Ext.refl _).alloc _
              have hE5H := hE5G.trans hEGH
              have hE6H := hE6G.trans hEGH
              have HEN := Lib.hid hE5H
              clear hco hwH hE5G hE6G hEGH
              go_wp2
              go_roundw
              case rel => exact ⟨q + 1, by omega, by go_num, gn, by omega, by go_num, HN.out, by first | exact HEN.out | trivial⟩
              case measure => simp [intOf]; omega
          --S]
        · have hi1 : ¬ (q : Int) < (he.m : Int) := by omega
          have hE1r := HE1R.out
          have hE5r := HER.out
          have HGR : Hid (gn = (R 3).m) := by
            have h1 := HGN.out
            rw [List.take_of_length_le (by rw [List.length_map]; have := HL2.out; omega)] at h1
            rw [h1]
            exact HLO.out
          have HEX := Lib.hid (HE05.out.trans HER.out)
          have hg1 : ((gn : Int) == ((R 3).m : Int)) = true := by rw [HGR.out]; simp
          go_wp2
          go_ret
          exact ⟨by first | rfl | simp, HEX.out⟩
end
set_option maxRecDepth 100000 in
theorem liftedUpdateReport (os : Os) (started : os.Started) (H : Type) (enc : TypeId × Value → H) :
    ReturnsInHanded {} Tryd.checked os 5 .any (fun w args => (Rows.updateReportSpec.pre enc Tryd.prog Tryd.f5 [] false w args ∧ laidMetH Tryd.prog laidL2 w) ∧ sizedMet enc Tryd.prog Tryd.f5 (OpenSpec.ofChange Rows.updateReportSpec) false w args) (Rows.updateReportSpec.post enc Tryd.prog Tryd.f5 false true false false) := by
  refine returnsInHanded_of_change_and (C := Tryd.checked) (X := fun w _ => laidMetH Tryd.prog laidL2 w) (fun _ _ _ hh h => h.of_heap hh) ownK started (by kernel_rfl) Tryd.func5
    (ChangeSpec.witness_shaped (enc := enc) (C := Tryd.checked) (os := os) (X := fun w _ => laidMetH Tryd.prog laidL2 w) false (World.laidAll Tryd.prog os laidL2) #[.agg #[.string ⟨#[]⟩, .slice none 0 0, .slice none 0 0, .slice none 0 0], .slice none 0 0] 8 (World.laidAll_os _ _ _)
      (World.shaped_of_ZipB (by kernel_rfl) (by kernel_rfl)) (by kernel_rfl) (by kernel_rfl) (by kernel_rfl)
      (by rw [MakeChecks.laidMetH_plain _ _ _ (by kernel_rfl)]; exact laidMet_laidAll _ (by kernel_rfl) (by kernel_rfl))) ?_
  intro W base args ds gs before hval0 hW hcnd hsz0 hL _
  have hT := tabs2 hL
  have hval : ∀ (j : Nat) t v, Tryd.f5.params[j]? = some t → args[j]? = some v → Value.okWide Tryd.prog W .any base t v := hval0
  have hW' := hW
  obtain ⟨p, q, hA0, hV, rfl, hfz, hnd⟩ := hW
  have hA : DataW.TrodAll enc Tryd.prog W 0 (fun _ => true) true Tryd.f5.params.toList args.toList ds p := hA0
  have hsz : (DataW.weightsEach Tryd.prog (Tryd.f5.params.toList ++ Rows.updateReportSpec.plain.varTypes Tryd.prog) (ds ++ gs)).all (· ≤ reachBytes) = true := hsz0
  rw [Tryd.params5] at hA hval hsz
  obtain ⟨v0, vs0, d0, ds0, p0, q0, hargs0, rfl, rfl, h0, r0⟩ := trodAll_cons hA
  obtain ⟨v1, vs1, d1, ds1, p1, q1, hargs1, rfl, rfl, h1, r1⟩ := trodAll_cons r0
  obtain ⟨rfl, rfl, rfl⟩ := trodAll_nil r1
  obtain rfl : args = #[v0, v1] := by cases args; simp_all
  obtain ⟨rfl, rfl⟩ := trodVars_none hV
  have k0 := h0
  have lt0 : ∀ x ∈ p0, x.block < W.heap.size := by obtain ⟨m, hm⟩ := k0; exact DataW.trod_lt m _ _ _ hm
  have k1 := h1
  have lt1 : ∀ x ∈ p1, x.block < W.heap.size := by obtain ⟨m, hm⟩ := k1; exact DataW.trod_lt m _ _ _ hm
  obtain ⟨x0, rfl, g0⟩ := opn_top_agg opn_cat ((okWide_struct Tryd.underlying26 (hval 0 26 v0 rfl rfl)).imp fun _ hh => hh.1) h0 (WOk.top hsz (j := 0) rfl rfl)
  obtain ⟨A1, m1, c1, l1, rfl, wf1, gf1, hc1, hb1⟩ := opn_top_slice Tryd.underlying24 opn_entries (hval 1 24 v1 rfl rfl) h1 (WOk.top hsz (j := 1) rfl rfl)
  have g1 : EntsW W ⟨A1, m1, c1⟩ l1 := ⟨wf1, hc1, Nat.le_trans (Nat.mul_le_mul_right _ hc1) hb1, gf1⟩
  clear hA0 hval0
  refine (report_walk g0 g1 hT).mono fun e W' ⟨he, bel⟩ => ?_
  subst he
  exact ⟨_, rfl, _, _, _, [], _, [], hW', trodAll_mk1 (shut_bool Tryd.underlying4 _), (trodAll_cons_mk (Below.trod laidK (by kernel_rfl) (of_decide_eq_true (by kernel_rfl)) k0 bel lt0) (trodAll_cons_mk (Below.trod laidK (by kernel_rfl) (of_decide_eq_true (by kernel_rfl)) k1 bel lt1) trodAll_mk0)), rfl, Below.frame bel _, fun h => by cases h⟩
theorem UpdateReport_row : Rows.UpdateReportSaid :=
  OpenClaim.holds_of_wide 5 Tryd.f5 rfl rfl rfl rfl rfl rfl rfl ⟨rfl, rfl, rfl, rfl, rfl⟩ rfl rfl rfl rfl rfl (by kernel_rfl) Tryd.func5 (by kernel_rfl)
    (of_decide_eq_true (by kernel_rfl)) (by unfold Func.isWrapper; rw [if_neg (of_decide_eq_false (by kernel_rfl))]; exact ⟨rfl, rfl⟩)
    (fun os started H enc _ => liftedUpdateReport os started H enc)
theorem UpdateReport_holds : Rows.UpdateReportCardSaid :=
  Claim7.holds_tied_plain_at .later [] Rows.updateReportCard.laidKinds true Rows.updateReportCard.stood.harness Rows.updateReportCard.stood.looks
    UpdateReport_row (fun _ h => by cases h) (by kernel_rfl) (fun _ h => by cases h) updateReport_row_tie rfl ⟨rfl, rfl⟩ (by kernel_rfl) rfl
    (fun f fn hf hfn => by
      obtain rfl : f = 5 := Option.some.inj ((show Tryd.prog.funcNamed Rows.updateReportRow.func = some 5 by kernel_rfl).symm.trans hf) |>.symm
      obtain rfl : fn = Tryd.f5 := (Option.some.inj (Tryd.func5.symm.trans hfn)).symm
      exact ⟨by kernel_rfl, fun j t ht => by
        rw [Tryd.params5] at ht
        have hm : t ∈ [26, 24] := by simpa using Array.mem_of_getElem? ht
        have hall : ([26, 24].all fun u => !Tryd.prog.wantsStandIn u) = true := by kernel_rfl
        exact (show Tryd.prog.wantsStandIn t = false by simpa using List.all_eq_true.1 hall t hm)⟩)
    (by kernel_rfl)
#print axioms UpdateReport_holds
end Go.Proofs.YtcdpmgdocgddcaaDoor
