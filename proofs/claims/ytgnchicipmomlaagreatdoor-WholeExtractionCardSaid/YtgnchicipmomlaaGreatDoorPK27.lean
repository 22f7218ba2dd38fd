/- The best candidate: what the program computes. -/
import Derived.Test.YtgnchicipmomlaaGreatDoorPK26
import Derived.Test.YtgnchicipmomlaaGreatDoorPK18
import Derived.Test.YtgnchicipmomlaaGreatDoorPK20
import Derived.Test.YtgnchicipmomlaaGreatDoorPK15
import Derived.Test.YtgnchicipmomlaaGreatDoorPK25
import Derived.Test.YtgnchicipmomlaaGreatDoorPK22
import Derived.Test.YtgnchicipmomlaaGreatDoorPK21
import Derived.Laws.OwnMore
import Derived.Test.YtgnchicipmomlaaGreatDoorPK24
namespace Go.Proofs.YtgnchicipmomlaaGreatDoor
open Go.RowKit
set_option maxRecDepth 100000
attribute [local go_sem] ext_refl_t ext_alloc_t ext_drew_t ext_drewN_t ext_alloc2_t ext_alloc3_t ext_alloc4_t ext_alloc5_t ext_alloc6_t ext_alloc7_t ext_alloc8_t ext_alloc1d_t ext_alloc2d_t ext_alloc3d_t ext_alloc4d_t
section
variable {w : World}
set_option maxHeartbeats 6400000 in
theorem consider_yes {gw gm ga : Nat} {Aw : Option Addr} {mw cw : Nat} {L : List ByteArray} (i : Int) (x : Ent) (most v a0 : Int) (hw : w.cell? ⟨gw, 0, none⟩ = some (.slice Aw mw cw)) (hsl : SlC stC 1 w Aw mw L)
    (hm : w.cell? ⟨gm, 0, none⟩ = some (.int .i64 most)) (ha : w.cell? ⟨ga, 0, none⟩ = some (.int .i64 a0)) (fm : w.frozen? ⟨gm, 0, none⟩ = false) (fa : w.frozen? ⟨ga, 0, none⟩ = false) (hg : ga ≠ gm)
    (hv : v = simL L (wordsS x.p.src)) (hx : x.p.src.size ≤ 1000000) (hb : most < v) :
    Calls Tryz.prog 61 #[.int .i64 i, entV x, .pointer (some ⟨gw, 0, none⟩), .pointer (some ⟨gm, 0, none⟩), .pointer (some ⟨ga, 0, none⟩)] w fun e w' => e = .returned (.tuple #[]) ∧ ∃ w1, Ext w w1 ∧ w' = (w1.setCell ⟨ga, 0, none⟩ (.int .i64 i)).setCell ⟨gm, 0, none⟩ (.int .i64 v) := by
  obtain ⟨⟨id, src, tgt, com, fl, st, fd⟩, hc, hf, hd⟩ := x
  unfold entV
  dsimp only at *
  have HS := Lib.hid hv.symm
  have HW := Lib.hid hsl
  have KW := laters hw
  have KM := laters hm
  have KA := laters ha
  have HFM : Hid (∀ W, Ext w W → W.frozen? ⟨gm, 0, none⟩ = false) := fun W hE => (hE.frozen (p := ⟨gm, 0, none⟩) (World.block_lt_of_cell? w _ hm)).trans fm
  have HFA : Hid (∀ W, Ext w W → W.frozen? ⟨ga, 0, none⟩ = false) := fun W hE => (hE.frozen (p := ⟨ga, 0, none⟩) (World.block_lt_of_cell? w _ ha)).trans fa
  have hE1 : Ext w (w.alloc (Obj.cells #[.string id, .string src, .string tgt, .slice hc.A hc.m hc.c, .slice hf.A hf.m hf.c, .int .i64 st, .slice hd.A hd.m hd.c] 39)) := (Ext.refl w).alloc _
  have hb1 := Blk.new w 39 #[.string id, .string src, .string tgt, .slice hc.A hc.m hc.c, .slice hf.A hf.m hf.c, .int .i64 st, .slice hd.A hd.m hd.c]
  clear hv hsl hw hm ha fm fa
  go_enter Tryz.func61, Tryz.ntmps61
  go_wp2
  go_region_law
    (go_simp
     first
      | (go_at_call 60; refine (words_any src (by omega)).mono ?_; rintro e w2 ⟨A2, m2, c2, rfl, ho2, hE2'⟩; have hE02 := hE1.trans (Ext.trans (by first | exact Ext.refl _ | exact (Ext.refl _).drew) hE2'); have Hs2 := Lib.hid ho2.sl)
      | (go_at_call 62; refine (similar_any cw c2 (HW.out.ext (hE02.trans (by first | exact Ext.refl _ | exact (Ext.refl _).drew))) (Hs2.out.ext (by first | exact Ext.refl _ | exact (Ext.refl _).drew))).mono ?_; rintro e w3 ⟨rfl, hE3'⟩; have hE3 := Ext.trans (by first | exact Ext.refl w2 | exact (Ext.refl w2).drew) hE3'; have hE03 := hE02.trans hE3; rw [HS.out])
      | fail)
  all_goals
    have fa3 := HFA.out _ hE03
    have fm3 := HFM.out _ hE03
    have ca3 := KA w3 hE03
    have cm3 := KM w3 hE03
    have HE3 := Lib.hid hE03
    clear hE03 hE02 hE1 hE2' hE3' hE3 ho2 hb1 KW KM KA
    go_wp2
    go_end0
    exact ⟨rfl, _, HE3.out, rfl⟩
set_option maxHeartbeats 6400000 in
theorem consider_no {gw gm ga : Nat} {Aw : Option Addr} {mw cw : Nat} {L : List ByteArray} (i : Int) (x : Ent) (most v : Int) (hw : w.cell? ⟨gw, 0, none⟩ = some (.slice Aw mw cw)) (hsl : SlC stC 1 w Aw mw L)
    (hm : w.cell? ⟨gm, 0, none⟩ = some (.int .i64 most))
    (hv : v = simL L (wordsS x.p.src)) (hx : x.p.src.size ≤ 1000000) (hb : ¬ most < v) :
    Calls Tryz.prog 61 #[.int .i64 i, entV x, .pointer (some ⟨gw, 0, none⟩), .pointer (some ⟨gm, 0, none⟩), .pointer (some ⟨ga, 0, none⟩)] w fun e w' => e = .returned (.tuple #[]) ∧ Ext w w' := by
  obtain ⟨⟨id, src, tgt, com, fl, st, fd⟩, hc, hf, hd⟩ := x
  unfold entV
  dsimp only at *
  have HS := Lib.hid hv.symm
  have HW := Lib.hid hsl
  have KW := laters hw
  have KM := laters hm
  have hE1 : Ext w (w.alloc (Obj.cells #[.string id, .string src, .string tgt, .slice hc.A hc.m hc.c, .slice hf.A hf.m hf.c, .int .i64 st, .slice hd.A hd.m hd.c] 39)) := (Ext.refl w).alloc _
  have hb1 := Blk.new w 39 #[.string id, .string src, .string tgt, .slice hc.A hc.m hc.c, .slice hf.A hf.m hf.c, .int .i64 st, .slice hd.A hd.m hd.c]
  clear hv hsl hw hm
  go_enter Tryz.func61, Tryz.ntmps61
  go_wp2
  go_region_law
    (go_simp
     first
      | (go_at_call 60; refine (words_any src (by omega)).mono ?_; rintro e w2 ⟨A2, m2, c2, rfl, ho2, hE2'⟩; have hE02 := hE1.trans (Ext.trans (by first | exact Ext.refl _ | exact (Ext.refl _).drew) hE2'); have Hs2 := Lib.hid ho2.sl)
      | (go_at_call 62; refine (similar_any cw c2 (HW.out.ext (hE02.trans (by first | exact Ext.refl _ | exact (Ext.refl _).drew))) (Hs2.out.ext (by first | exact Ext.refl _ | exact (Ext.refl _).drew))).mono ?_; rintro e w3 ⟨rfl, hE3'⟩; have hE3 := Ext.trans (by first | exact Ext.refl w2 | exact (Ext.refl w2).drew) hE3'; have hE03 := hE02.trans hE3; rw [HS.out])
      | fail)
  all_goals
    have cm3 := KM w3 hE03
    have HE3 := Lib.hid hE03
    clear hE03 hE02 hE1 hE2' hE3' hE3 ho2 hb1 KW KM
    go_wp2
    go_end0
    exact ⟨rfl, HE3.out⟩
end
theorem grown_cell (w : World) (g i : Nat) (u : Value) : w.grownBy (w.setCell ⟨g, i, none⟩ u) (some g) :=
  ⟨rfl, rfl, rfl, by simp, fun k _ hn => Below.heap_setCell w _ u k (fun e => hn (by rw [e]))⟩
theorem OsC.setFar {α : Type} {cs : α → List Value} {e t : TypeId} {k : Nat} {w : World} {base : Nat} {A : Option Addr} {m c : Nat} {l : List α} {g : Nat} {xs : Array Value} (h : OsC cs e k w base A m c l) (hb : Blk w g t xs) (hne : e ≠ t) (i : Nat) (u : Value) : OsC cs e k (w.setCell ⟨g, i, none⟩ u) base A m c l :=
  h.kept (grown_cell w g i u) (.inr (by have h1 := own_blk_ne h.own hb hne; rw [ob_own] at h1; exact h1))
/-- What best keeps in memory while it looks at entries. -/
structure BestW (w0 w : World) (gw gm ga : Nat) (Aw : Option Addr) (mw cw : Nat) (L : List ByteArray) (s : Nat × Int) : Prop where
  bw : Blk w gw 28 #[.slice Aw mw cw]
  bm : Blk w gm 3 #[.int .i64 s.2]
  ba : Blk w ga 3 #[.int .i64 (s.1 : Int)]
  wo : OsC stC 9 1 w w0.heap.size Aw mw cw L
  ne : ga ≠ gm
  nw : gw ≠ gm ∧ gw ≠ ga
  ext : Ext w0 w
  gm0 : w0.heap.size ≤ gm
  ga0 : w0.heap.size ≤ ga
section
variable {w0 w w' : World} {gw gm ga : Nat} {Aw : Option Addr} {mw cw : Nat} {L : List ByteArray} {s : Nat × Int}
theorem BestW.more (h : BestW w0 w gw gm ga Aw mw cw L s) (hE : Ext w w') : BestW w0 w' gw gm ga Aw mw cw L s :=
  ⟨h.bw.below hE h.bw.lt, h.bm.below hE h.bm.lt, h.ba.below hE h.ba.lt, h.wo.ext hE, h.ne, h.nw, h.ext.trans hE, h.gm0, h.ga0⟩
theorem BestW.set (h : BestW w0 w gw gm ga Aw mw cw L s) (i : Nat) (v : Int) : BestW w0 ((w.setCell ⟨ga, 0, none⟩ (.int .i64 (i : Int))).setCell ⟨gm, 0, none⟩ (.int .i64 v)) gw gm ga Aw mw cw L (i, v) := by
  have b1 := h.ba.set_ 0 (.int .i64 (i : Int))
  have b2 := (h.bm.far (p := ⟨ga, 0, none⟩) (Ne.symm h.ne) (.int .i64 (i : Int)))
  have b3 := (h.bw.far (p := ⟨ga, 0, none⟩) h.nw.2 (.int .i64 (i : Int)))
  refine ⟨b3.far (p := ⟨gm, 0, none⟩) h.nw.1 _, b2.set_ 0 _, b1.far (p := ⟨gm, 0, none⟩) h.ne _, ?_, h.ne, h.nw, (h.ext.set_ (p := ⟨ga, 0, none⟩) h.ga0 _).set_ (p := ⟨gm, 0, none⟩) h.gm0 _, h.gm0, h.ga0⟩
  exact (h.wo.setFar h.ba (by decide) 0 _).setFar b2 (by decide) 0 _
end
theorem bestN_succ (sim : Ep → Int) (may : Ep → Bool) (es : List Ep) (k : Nat) (h : k < es.length) : bestN sim may es (k + 1) = bestS sim may (bestN sim may es k) k es[k] := by
  show (match es[k]? with | some z => bestS sim may (bestN sim may es k) k z | none => bestN sim may es k) = _
  rw [List.getElem?_eq_getElem h]
theorem bestN_le (sim : Ep → Int) (may : Ep → Bool) (es : List Ep) (hs : ∀ z, sim z ≤ 1000) (k : Nat) : 699 ≤ (bestN sim may es k).2 ∧ (bestN sim may es k).2 ≤ 1000 ∧ (bestN sim may es k).1 ≤ k := by
  induction k with
  | zero => exact ⟨Int.le_refl _, by show (699 : Int) ≤ 1000; omega, Nat.le_refl _⟩
  | succ k ih =>
    unfold bestN
    cases es[k]? with
    | none => exact ⟨ih.1, ih.2.1, Nat.le_succ_of_le ih.2.2⟩
    | some z =>
      dsimp only
      unfold bestS
      split
      · rename_i h; exact ⟨by have := h.2.2; have := ih.1; show _ ≤ sim z; omega, hs z, by show k ≤ _; omega⟩
      · exact ⟨ih.1, ih.2.1, by have := ih.2.2; omega⟩
theorem simL_le {α : Type} [DecidableEq α] (a b : List α) : simL a b ≤ 1000 ∧ -1 ≤ simL a b := by
  unfold simL
  split
  · omega
  · split
    · omega
    · have h3 : (max a.length b.length - dstL a b a.length b.length) * 1000 / max a.length b.length ≤ 1000 :=
        Nat.div_le_of_le_mul (Nat.mul_le_mul_right 1000 (Nat.sub_le _ _))
      generalize (max a.length b.length - dstL a b a.length b.length) * 1000 / max a.length b.length = q at h3 ⊢
      omega
section
variable {w : World}
set_option maxHeartbeats 12800000 in
theorem best_fresh {x : Cat} (hx : CatW w x) (src : ByteArray) (hs : src.size ≤ 1000000) (hsrc : ∀ y ∈ x.es, y.p.src.size ≤ 1000000) (may : Ep → Bool) {gy : Nat}
    (hmay : ∀ W, Ext w W → ∀ y ∈ x.es, Calls Tryz.prog 34 #[entV y, .pointer (some ⟨gy, 0, none⟩)] W fun e W' => e = .returned (.bool (may y.p)) ∧ Ext W W') :
    Calls Tryz.prog 33 #[catV x, .string src, .func (.func 34) #[] #[.pointer (some ⟨gy, 0, none⟩)]] w fun e w' =>
      e = .returned (.tuple #[.int .i64 ((bestN (fun z => simP src z.src) may x.p.es x.es.length).1 : Nat), .bool (decide (700 ≤ (bestN (fun z => simP src z.src) may x.p.es x.es.length).2))]) ∧ Ext w w' := by
  obtain ⟨tag, com, fd, es, hc, hd, ⟨eA, em, ec⟩⟩ := x
  obtain ⟨_, _, _, ke⟩ := hx
  unfold catV Cat.p
  dsimp only at *
  have HL := Lib.hid ke.sl.len
  have hle := ke.sl.le
  have HKE := Lib.hid ke
  have HMAY := Lib.hid hmay
  have HSRC := Lib.hid hsrc
  dsimp only at HL hle
  obtain ⟨st, hst⟩ : ∃ st : Nat → Nat × Int, st = bestN (fun z => simP src z.src) may (es.map Ent.p) := ⟨_, rfl⟩
  have HB0 : Hid (st 0 = (0, 699)) := by show _ = _; rw [hst]; rfl
  have HBS : Hid (∀ k (h : k < es.length), st (k + 1) = bestS (fun z => simP src z.src) may (st k) k es[k].p) := fun k h => by
    rw [hst, bestN_succ _ _ _ _ (by rw [List.length_map]; exact h), List.getElem_map]
  have HBL : Hid (∀ k, 699 ≤ (st k).2 ∧ (st k).2 ≤ 1000 ∧ (st k).1 ≤ k) := fun k => by rw [hst]; exact bestN_le _ _ _ (fun z => (simL_le _ _).1) k
  rw [← hst]
  rw [← HL.out]
  have hE1 : Ext w (w.alloc (Obj.cells #[.string tag, .slice hc.A hc.m hc.c, .slice hd.A hd.m hd.c, .slice eA em ec] 32)) := (Ext.refl w).alloc _
  have hb1 := Blk.new w 32 #[.string tag, .slice hc.A hc.m hc.c, .slice hd.A hd.m hd.c, .slice eA em ec]
  have KC := laters (show _ = some (.slice eA em ec) from hb1.cell 3)
  clear hst ke hmay hsrc hb1
  go_enter Tryz.func33, Tryz.ntmps33
  go_wp2_with (first
    | (go_at_call 60; refine Hid.out ?_))
  refine Hid.mk_ ((words_any src (by omega)).mono ?_)
  rintro e w2 ⟨Aw, mw, cw, rfl, ho2, hE2⟩
  have hE02 := hE1.trans hE2
  have KC2 := fun W hW => KC W (hE2.trans hW)
  obtain ⟨gc, hgc⟩ : ∃ gc, gc = w.heap.size := ⟨_, rfl⟩
  rw [← hgc] at KC2 ⊢
  clear KC hgc
  have HBW : Hid (BestW w (((w2.alloc (Obj.cells #[.slice Aw mw cw] 28)).alloc (Obj.cells #[.int .i64 0] 3)).alloc (Obj.cells #[.int .i64 699] 3)) w2.heap.size (w2.heap.size + 1 + 1) (w2.heap.size + 1) Aw mw cw (wordsS src) (st 0)) := by
    have s1 : (w2.alloc (Obj.cells #[.slice Aw mw cw] 28)).heap.size = w2.heap.size + 1 := by simp
    have s2 : ((w2.alloc (Obj.cells #[.slice Aw mw cw] 28)).alloc (Obj.cells #[.int .i64 0] 3)).heap.size = w2.heap.size + 1 + 1 := by simp
    have b2 := Blk.new (w2.alloc (Obj.cells #[.slice Aw mw cw] 28)) 3 #[.int .i64 0]
    have b3 := Blk.new ((w2.alloc (Obj.cells #[.slice Aw mw cw] 28)).alloc (Obj.cells #[.int .i64 0] 3)) 3 #[.int .i64 699]
    rw [s1] at b2
    rw [s2] at b3
    rw [HB0.out]
    have hsz := hE02.size_le
    exact ⟨((Blk.new w2 _ _).alloc _).alloc _, b3, b2.alloc _, ((ho2.ext (((Ext.refl w2).alloc _).alloc _ |>.alloc _)).mono hE1.size_le), by omega, ⟨by omega, by omega⟩, ((hE02.alloc _).alloc _).alloc _, by omega, by omega⟩
  have HKC3 : Hid (∀ W, Ext (((w2.alloc (Obj.cells #[.slice Aw mw cw] 28)).alloc (Obj.cells #[.int .i64 0] 3)).alloc (Obj.cells #[.int .i64 699] 3)) W → Ext w2 W) := fun W hW => ((((Ext.refl w2).alloc _).alloc _).alloc _).trans hW
  clear ho2
  go_wp2
  obtain ⟨gw, hgw⟩ : ∃ gw, gw = w2.heap.size := ⟨_, rfl⟩
  obtain ⟨ga, hga⟩ : ∃ ga, ga = w2.heap.size + 1 := ⟨_, rfl⟩
  obtain ⟨gm, hgm⟩ : ∃ gm, gm = w2.heap.size + 1 + 1 := ⟨_, rfl⟩
  rw [← hgm, ← hga, ← hgw] at HBW
  rw [← hgm, ← hga, ← hgw]
  clear hgm hga hgw
  obtain ⟨w3, hw3⟩ : ∃ w3, w3 = (((w2.alloc (Obj.cells #[.slice Aw mw cw] 28)).alloc (Obj.cells #[.int .i64 0] 3)).alloc (Obj.cells #[.int .i64 699] 3)) := ⟨_, rfl⟩
  rw [← hw3] at HBW HKC3 ⊢
  clear hw3 KC2
  go_loopw [20] (fun v wr => ∃ q : Nat, q ≤ em ∧ v = .int .i64 q ∧ Hid (BestW w wr gw gm ga Aw mw cw (wordsS src) (st q))) (fun v _ => em - (intOf v).toNat)
  case atStart => exact ⟨0, Nat.zero_le _, rfl, HBW⟩
  case round =>
    obtain ⟨q, hq, rfl, HB⟩ := hrel
    by_cases hlt : q < em
    · obtain ⟨b, off, e0, hbl, hcs⟩ := (HKE.out.sl.ext HB.out.ext).at_ hlt (by omega)
      dsimp only at e0
      subst e0
      have hlt1 : q < es.length := by rw [← HL.out]; exact hlt
      have hqm : q ≤ 140737488355328 := by omega
      obtain ⟨y, hyq⟩ : ∃ y, y = es[q] := ⟨_, rfl⟩
      have y0 := hcs q hlt1 0 (by omega)
      have y1 := hcs q hlt1 1 (by omega)
      have y2 := hcs q hlt1 2 (by omega)
      have y3 := hcs q hlt1 3 (by omega)
      have y4 := hcs q hlt1 4 (by omega)
      have y5 := hcs q hlt1 5 (by omega)
      have y6 := hcs q hlt1 6 (by omega)
      simp only [← hyq, entC, List.getElem_cons_zero, List.getElem_cons_succ, Nat.add_zero, ← Nat.add_assoc] at y0 y1 y2 y3 y4 y5 y6
      have HSQ : Hid (st (q + 1) = bestS (fun z => simP src z.src) may (st q) q y.p) := by show _ = _; rw [HBS.out q hlt1, hyq]
      have hym : y ∈ es := by rw [hyq]; exact List.getElem_mem hlt1
      have HYS : Hid (y.p.src.size ≤ 1000000) := HSRC.out y hym
      have HMY := Lib.hid (fun W hW => HMAY.out W hW y hym)
      have hi1 : (q : Int) < (em : Int) := by omega
      obtain ⟨hbl1, hbl2, hbl3⟩ := HBL.out q
      clear hcs hyq hym
      obtain ⟨⟨id, ysrc, tgt, ycom, yfl, yst, yfd⟩, yhc, yhf, yhd⟩ := y
      dsimp only at y0 y1 y2 y3 y4 y5 y6
      by_cases ht : tgt.size = 0
      · have ht1 : tgt.toList.isEmpty = true := by rw [isEmpty_size, ht]; rfl
        have HB2 : Hid (BestW w (wr.alloc (Obj.cells #[.string id, .string ysrc, .string tgt, .slice yhc.A yhc.m yhc.c, .slice yhf.A yhf.m yhf.c, .int .i64 yst, .slice yhd.A yhd.m yhd.c] 39)) gw gm ga Aw mw cw (wordsS src) (st (q + 1))) := by
          have h1 : st (q + 1) = st q := by rw [HSQ.out]; unfold bestS; rw [if_neg (fun e => e.1 ht)]
          rw [h1]
          exact HB.out.more ((Ext.refl _).alloc _)
        clear ht
        go_wp2
        go_roundw
        case rel => exact ⟨q + 1, by omega, by go_num, HB2⟩
        case measure => simp [intOf]; omega
      · have ht1 : tgt.toList.isEmpty = false := by rw [isEmpty_size]; exact decide_eq_false ht
        have HMY1 := HMY.out _ (HB.out.ext.alloc (Obj.cells #[.string id, .string ysrc, .string tgt, .slice yhc.A yhc.m yhc.c, .slice yhf.A yhf.m yhf.c, .int .i64 yst, .slice yhd.A yhd.m yhd.c] 39))
        unfold entV at HMY1
        dsimp only at HMY1
        have hbc := Blk.new wr 39 #[.string id, .string ysrc, .string tgt, .slice yhc.A yhc.m yhc.c, .slice yhf.A yhf.m yhf.c, .int .i64 yst, .slice yhd.A yhd.m yhd.c]
        have HM := Lib.hid HMY1
        have HT := Lib.hid ht
        clear HMY1 ht
        go_wp2_with (first
          | (go_at_call 34; refine Hid.out ?_))
        refine Hid.mk_ ((HM.out).mono ?_)
        rintro e w5 ⟨rfl, hE5⟩
        have hE35 := ((Ext.refl wr).alloc (Obj.cells #[.string id, .string ysrc, .string tgt, .slice yhc.A yhc.m yhc.c, .slice yhf.A yhf.m yhf.c, .int .i64 yst, .slice yhd.A yhd.m yhd.c] 39)).trans hE5
        have hB5 := HB.out.more hE35
        cases hmy : may ⟨id, ysrc, tgt, ycom, yfl, yst, yfd⟩ with
        | false =>
          have HB2 : Hid (BestW w w5 gw gm ga Aw mw cw (wordsS src) (st (q + 1))) := by
            have h1 : st (q + 1) = st q := by
              rw [HSQ.out]; unfold bestS; rw [if_neg (fun e => by have h9 := e.2.1; rw [hmy] at h9; cases h9)]
            rw [h1]
            exact hB5
          clear hmy hB5 hbc
          go_wp2
          go_roundw
          case rel => exact ⟨q + 1, by omega, by go_num, HB2⟩
          case measure => simp [intOf]; omega
        | true =>
          have hb5 := hbc.below hE5 hbc.lt
          have c0 := hb5.cell 0
          have c1 := hb5.cell 1
          have c2 := hb5.cell 2
          have c3 := hb5.cell 3
          have c4 := hb5.cell 4
          have c5 := hb5.cell 5
          have c6 := hb5.cell 6
          obtain ⟨v, hv⟩ : ∃ v, v = simP src ysrc := ⟨_, rfl⟩
          have HMT := Lib.hid hmy
          clear hmy hbc hb5
          by_cases hgt : (st q).2 < v
          · have HB2 : Hid (∀ w6, Ext w5 w6 → BestW w ((w6.setCell ⟨ga, 0, none⟩ (.int .i64 (q : Int))).setCell ⟨gm, 0, none⟩ (.int .i64 v)) gw gm ga Aw mw cw (wordsS src) (st (q + 1))) := fun w6 hE6 => by
              have h1 : st (q + 1) = (q, v) := by
                rw [HSQ.out]; unfold bestS; rw [if_pos ⟨HT.out, HMT.out, by show _ < simP src ysrc; rw [← hv]; exact hgt⟩]
                rw [hv]
              rw [h1]
              exact (hB5.more hE6).set q v
            have HCO := Lib.hid (consider_yes (q : Int) ⟨⟨id, ysrc, tgt, ycom, yfl, yst, yfd⟩, yhc, yhf, yhd⟩ (st q).2 v ((st q).1 : Int) (hB5.bw.cell 0) hB5.wo.sl (hB5.bm.cell 0) (hB5.ba.cell 0) (hB5.bm.frozen 0) (hB5.ba.frozen 0) hB5.ne hv HYS.out hgt)
            unfold entV at HCO
            dsimp only at HCO
            clear hB5 hv hgt
            go_wp2_with (first
              | (go_at_call 61; refine Hid.out ?_))
            refine Hid.mk_ ((HCO.out).mono ?_)
            rintro e w7 ⟨rfl, w6, hE6, rfl⟩
            have HB3 := Lib.hid (HB2.out w6 hE6)
            go_wp2
            go_roundw
            case rel => exact ⟨q + 1, by omega, by go_num, HB3⟩
            case measure => simp [intOf]; omega
          · have HB2 : Hid (∀ w6, Ext w5 w6 → BestW w w6 gw gm ga Aw mw cw (wordsS src) (st (q + 1))) := fun w6 hE6 => by
              have h1 : st (q + 1) = st q := by
                rw [HSQ.out]; unfold bestS; rw [if_neg (fun e => hgt (by have h9 := e.2.2; rw [hv]; exact h9))]
              rw [h1]
              exact hB5.more hE6
            have HCO := Lib.hid (consider_no (ga := ga) (q : Int) ⟨⟨id, ysrc, tgt, ycom, yfl, yst, yfd⟩, yhc, yhf, yhd⟩ (st q).2 v (hB5.bw.cell 0) hB5.wo.sl (hB5.bm.cell 0) hv HYS.out hgt)
            unfold entV at HCO
            dsimp only at HCO
            clear hB5 hv hgt
            go_wp2_with (first
              | (go_at_call 61; refine Hid.out ?_))
            refine Hid.mk_ ((HCO.out).mono ?_)
            rintro e w7 ⟨rfl, hE6⟩
            have HB3 := Lib.hid (HB2.out w7 hE6)
            go_wp2
            go_roundw
            case rel => exact ⟨q + 1, by omega, by go_num, HB3⟩
            case measure => simp [intOf]; omega
    · have hi1 : ¬ (q : Int) < (em : Int) := by omega
      obtain rfl : q = em := by omega
      have c1 := HB.out.ba.cell 0
      have c2 := HB.out.bm.cell 0
      have HE := Lib.hid (HB.out.ext)
      obtain ⟨hbl1, hbl2, hbl3⟩ := HBL.out q
      go_wp2
      go_quiet (fail)
      go_wp2
      go_ret2
      exact ⟨rfl, HE.out.drewN _⟩
end
end Go.Proofs.YtgnchicipmomlaaGreatDoor

/- The two closures that say which entries may be reused; Contains of the library, and the reference's has. -/
namespace Go.Proofs.YtgnchicipmomlaaGreatDoor
open Go.RowKit
set_option maxRecDepth 100000
attribute [local go_sem] ext_refl_t ext_alloc_t ext_drew_t ext_drewN_t ext_alloc2_t ext_alloc3_t ext_alloc4_t ext_alloc5_t ext_alloc6_t ext_alloc7_t ext_alloc8_t ext_alloc1d_t ext_alloc2d_t ext_alloc3d_t ext_alloc4d_t
theorem inB_take {l : List ByteArray} {s : ByteArray} {q : Nat} (h : inB (l.take q) s = false) (hq : q < l.length) : inB (l.take (q + 1)) s = decide (l[q] = s) := by
  rw [List.take_succ_eq_append_getElem hq]
  unfold inB at h ⊢
  rw [List.any_append, h, Bool.false_or]
  simp
theorem inB_more {l : List ByteArray} {s : ByteArray} {q : Nat} (h : inB (l.take q) s = true) : inB l s = true := by
  rw [inB_iff] at h ⊢
  exact List.mem_of_mem_take h
/-- What Index gives. -/
def IdxS (l : List ByteArray) (s : ByteArray) (z : Int) : Prop := (inB l s = true ∧ 0 ≤ z ∧ z ≤ 140737488355328) ∨ (inB l s = false ∧ z = -1)
section
variable {w : World}
set_option maxHeartbeats 1600000 in
theorem indexS_any {A : Option Addr} {m : Nat} (c : Nat) {l : List ByteArray} (hs : SlC strF 1 w A m l) (s : ByteArray) :
    Calls Tryz.prog 90 #[.slice A m c, .string s] w fun e w' => RetZ (IdxS l s) e ∧ w = w' := by
  have HL := Lib.hid hs.len
  have hle := hs.le
  go_enter Tryz.func90, Tryz.ntmps90
  go_wp2
  go_loop [8] (fun v => ∃ q : Nat, q ≤ m ∧ v = .int .i64 q ∧ Hid (inB (l.take q) s = false)) (fun v => m - (intOf v).toNat)
  case atStart => exact ⟨0, Nat.zero_le _, rfl, rfl⟩
  case round =>
    obtain ⟨q, hq, rfl, HC⟩ := hrel
    by_cases hlt : q < m
    · obtain ⟨b, off, rfl, _, hcs⟩ := hs.at_ hlt (by omega)
      have hql : q < l.length := by rw [← HL.out]; exact hlt
      obtain ⟨x, hx⟩ : ∃ x, x = l[q] := ⟨_, rfl⟩
      have x0 := hcs q hql 0 (by omega)
      simp only [← hx, strF, List.getElem_cons_zero, Nat.mul_one, Nat.add_zero] at x0
      have HT := Lib.hid (inB_take HC.out hql)
      have HX := Lib.hid hx
      have hi1 : (q : Int) < (m : Int) := by omega
      clear hcs hx
      by_cases hxs : x = s
      · have e1 : (x.toList == s.toList) = true := by rw [hxs]; simp
        have e2 : (s.toList == x.toList) = true := by rw [hxs]; simp
        have HF : Hid (inB l s = true) := inB_more (q := q + 1) (by rw [HT.out, ← HX.out]; exact decide_eq_true hxs)
        clear hxs
        go_wp2
        go_ret
        exact ⟨⟨_, rfl, .inl ⟨HF.out, by omega, by omega⟩⟩, rfl⟩
      · have e1 : (x.toList == s.toList) = false := by rw [beq_eq_false_iff_ne]; exact fun e => hxs (toList_iff.1 e)
        have e2 : (s.toList == x.toList) = false := by rw [beq_eq_false_iff_ne]; exact fun e => hxs (toList_iff.1 e).symm
        have HN : Hid (inB (l.take (q + 1)) s = false) := by show _ = _; rw [HT.out, ← HX.out]; exact decide_eq_false hxs
        clear hxs
        go_wp2
        go_round
        case rel => exact ⟨q + 1, by omega, by go_num, HN⟩
        case measure => simp [intOf]; omega
    · have hi1 : ¬ (q : Int) < (m : Int) := by omega
      have HF : Hid (inB l s = false) := by
        have := HC.out
        rw [List.take_of_length_le (by rw [← HL.out]; omega)] at this
        exact this
      go_wp2
      go_ret
      exact ⟨⟨_, rfl, .inr ⟨HF.out, rfl⟩⟩, rfl⟩
set_option maxHeartbeats 1600000 in
theorem containsS_any {A : Option Addr} {m : Nat} (c : Nat) {l : List ByteArray} (hs : SlC strF 1 w A m l) (s : ByteArray) :
    Calls Tryz.prog 52 #[.slice A m c, .string s] w fun e w' => e = .returned (.bool (inB l s)) ∧ w = w' := by
  go_enter Tryz.func52, Tryz.ntmps52
  go_wp2_with (first
    | (go_at_call 90; refine Hid.out ?_))
  refine Hid.mk_ ((indexS_any c hs s).mono ?_)
  rintro e w1 ⟨⟨z, rfl, hz⟩, rfl⟩
  rcases hz with ⟨h1, h2, h3⟩ | ⟨h1, rfl⟩
  · have H1 := Lib.hid h1
    clear h1
    go_wp2
    go_ret
    exact ⟨by rw [H1.out]; rfl, rfl⟩
  · have H1 := Lib.hid h1
    clear h1
    go_wp2
    go_ret
    exact ⟨by rw [H1.out]; rfl, rfl⟩
end
open Classical in
theorem SM.looks {w : World} {bm n : Nat} {S : List ByteArray} (h : SM w bm n S) (s : ByteArray) (hs : s.size ≤ maxLen) : (Instr.lookup 50 (.map (some bm)) (.string s) false).run Tryz.prog w = .ok (.bool (inB S s)) w := by
  rw [h.look s hs]
  have : decide (s ∈ S) = inB S s := by
    by_cases h : s ∈ S
    · rw [decide_eq_true h, inB_iff.2 h]
    · rw [decide_eq_false h, inB_not.2 h]
  rw [this]
section
variable {w : World}
set_option maxHeartbeats 1600000 in
theorem mayFresh_any {gb U bt n : Nat} {tk : List ByteArray} (hb : w.cell? ⟨gb, 0, none⟩ = some (.pointer (some ⟨U, 0, none⟩))) (ht : w.cell? ⟨U, 12, none⟩ = some (.map (some bt))) (hm : SM w bt n tk) (y : Ent) (hy : GoodStr y.p.id) :
    Calls Tryz.prog 34 #[entV y, .pointer (some ⟨gb, 0, none⟩)] w fun e w' => e = .returned (.bool (mayP tk y.p)) ∧ Ext w w' := by
  have hlt := World.block_lt_of_cell? w _ hb
  have hlt2 := World.block_lt_of_cell? w _ ht
  obtain ⟨⟨id, src, tgt, com, fl, st, fd⟩, hc, hf, hd⟩ := y
  unfold entV mayP
  dsimp only at *
  have hid : id.size ≤ maxLen := by unfold GoodStr at hy; unfold maxLen; omega
  have HLK : Hid (∀ W, Ext w W → (Instr.lookup 50 (.map (some bt)) (.string id) false).run Tryz.prog W = .ok (.bool (inB tk id)) W) := fun W hE => (hm.ext hE).looks id hid
  have KB := laters hb
  have KT := laters ht
  have hE1 : Ext w (w.alloc (Obj.cells #[.string id, .string src, .string tgt, .slice hc.A hc.m hc.c, .slice hf.A hf.m hf.c, .int .i64 st, .slice hd.A hd.m hd.c] 39)) := (Ext.refl w).alloc _
  have KL := HLK.out
  clear hb ht hm hy hid
  go_enter Tryz.func34, Tryz.ntmps34
  go_wp2
  go_quiet (fail)
  go_wp2
  go_ret
  exact ⟨rfl, hE1.drewN _⟩
end
end Go.Proofs.YtgnchicipmomlaaGreatDoor

/- SetField, the program's and the reference's. -/
namespace Go.Proofs.YtgnchicipmomlaaGreatDoor
open Go.RowKit
set_option maxRecDepth 100000
theorem flat_set {α : Type} {cs : α → List Value} {k : Nat} (h1 : ∀ x, (cs x).length = k) (l : List α) (i j : Nat) (hi : i < l.length) (hj : j < k) (y : α) (u : Value) (hy : cs y = (cs l[i]).set j u) : (l.flatMap cs).set (i * k + j) u = (l.set i y).flatMap cs := by
  induction l generalizing i with
  | nil => simp at hi
  | cons x t ih =>
    cases i with
    | zero =>
      simp only [List.getElem_cons_zero] at hy
      rw [List.flatMap_cons, List.set_cons_zero, List.flatMap_cons, hy, Nat.zero_mul, Nat.zero_add, List.set_append_left _ _ (by rw [h1]; exact hj)]
    | succ i =>
      simp only [List.getElem_cons_succ] at hy
      have e1 : (i + 1) * k + j - k = i * k + j := by rw [Nat.succ_mul]; omega
      rw [List.flatMap_cons, List.set_cons_succ, List.flatMap_cons, List.set_append_right _ _ (by rw [h1, Nat.succ_mul]; omega), h1, e1, ih i (by simpa using hi) hy]
theorem OsC.setAt {α : Type} {cs : α → List Value} {e : TypeId} {k : Nat} {w : World} {base g m c : Nat} {l : List α} (h : OsC cs e k w base (some ⟨g, 0, none⟩) m c l) {i j : Nat} (hi : i < l.length) (hj : j < k) (y : α) (u : Value) (hy : cs y = (cs l[i]).set j u) :
    OsC cs e k (w.setCell ⟨g, i * k + j, none⟩ u) base (some ⟨g, 0, none⟩) m c (l.set i y) := by
  refine ⟨?_, h.one, h.cell, by rw [List.length_set]; exact h.len, h.le⟩
  rw [← flat_set h.one l i j hi hj y u hy]
  exact (World.ownsRow.stored h.own _ u).1
section
variable {w : World}
set_option maxHeartbeats 6400000 in
theorem insertF_any {base : Nat} {A : Option Addr} {m c : Nat} {l : List _} (hown : OsC fdC 56 2 w base A m c l) (i : Nat) (hi : i ≤ m) (x : _) {vb : Nat} (hvB : Blk w vb 56 (fdC x).toArray) (hvb : some vb ≠ ob A) (hbase : base ≤ w.heap.size) (hbig : (m + 1) * 32 ≤ 70368744177664) :
    Calls Tryz.prog 59 #[.slice A m c, .int .i64 i, .slice (some ⟨vb, 0, none⟩) 1 1] w fun e w' => ∃ A' c', e = .returned (.slice A' (m + 1) c') ∧ OsC fdC 56 2 w' base A' (m + 1) c' (l.take i ++ [x] ++ l.drop i) ∧ w.grownBy w' (ob A) ∧ NewOr w.heap.size (ob A) (ob A') := by
  have hcap := hown.cap
  have hle := hown.le
  have hlen := Lib.hid hown.len
  have hv := Blk.slc fdC_len hvB
  have i1 : (i : Int) ≤ (m : Int) := by omega
  have i3 : (m : Int) ≤ (c : Int) := by omega
  have i4 : (i : Int) ≤ (c : Int) := by omega
  have i6 : (0 : Int) ≤ (i : Int) := by omega
  by_cases him : i = m
  · subst him
    have HL : Hid (l.take i ++ [x] ++ l.drop i = l ++ [x]) := by
      show _ = _
      rw [List.take_of_length_le (by rw [← hlen.out]; exact Nat.le_refl _), List.drop_eq_nil_of_le (by rw [← hlen.out]; exact Nat.le_refl _), List.append_nil]
    by_cases hci : c = i
    · subst hci
      have e1 : ((c : Int) == (c : Int)) = true := by simp
      go_enter Tryz.func59, Tryz.ntmps59
      go_wp2_with (first
        | (at_builtin; refine Hid.out ?_))
      refine Hid.mk_ ?_
      refine (appC einfo_fd) rfl _ _ rfl hown rfl hv rfl (by omega) hbase ?_
      intro A2 m2 c2 w2 ho2 hg2 hat2
      have hm2 : m2 = c + 1 := by rw [ho2.len, List.length_append, ← hlen.out]; rfl
      rw [hm2] at ho2 ⊢
      clear hm2
      go_wp2
      go_ret
      exact ⟨A2, c2, rfl, by rw [HL.out]; exact ho2, hg2, hat2⟩
    · have e1 : ((i : Int) == (i : Int)) = true := by simp
      go_enter Tryz.func59, Tryz.ntmps59
      go_wp2_with (first
        | (at_builtin; refine Hid.out ?_))
      refine Hid.mk_ ?_
      refine (appC einfo_fd) rfl _ _ rfl hown rfl hv rfl (by omega) hbase ?_
      intro A2 m2 c2 w2 ho2 hg2 hat2
      have hm2 : m2 = i + 1 := by rw [ho2.len, List.length_append, ← hlen.out]; rfl
      rw [hm2] at ho2 ⊢
      clear hm2
      go_wp2
      go_ret
      exact ⟨A2, c2, rfl, by rw [HL.out]; exact ho2, hg2, hat2⟩
  · have hlt : i < m := by omega
    obtain ⟨g, cur, hA, hg, hh, hmc, hcm, hsz, htk⟩ := hown.row (by omega)
    subst hA
    have hgl : g < w.heap.size := (Array.getElem?_eq_some_iff.1 hh).1
    have hvg : vb ≠ g := fun e => hvb (by rw [e]; rfl)
    have e0 : ((i : Int) == (m : Int)) = false := by rw [beq_eq_false_iff_ne]; omega
    have e2 : ¬ (c = i) := by omega
    have HCM := Lib.hid hcm
    have HTK := Lib.hid htk
    have HSZ := Lib.hid hsz
    have hcm' : c ≤ 9223372036854775807 := by simpa [maxLen] using hcm
    have hsl := hown.sl.cut (i := i) (by omega) hmc
    rw [cutA_lt (by omega), Nat.zero_add] at hsl
    clear htk hsz hcm
    by_cases hroom : m + 1 ≤ c
    · have r1 : (m : Int) + 1 ≤ (c : Int) := by omega
      have hov : ∀ lb cb, (callFunc 92 #[.slice (some ⟨vb, 0, none⟩) 1 1, .slice (some ⟨g, (i + 1) * 2, none⟩) lb cb]).run Tryz.prog w = .ok (.value (.bool false)) w := fun lb cb => by
        rw [run_callFunc_extern Tryz.func92 (by kernel_rfl) (by kernel_rfl) (by kernel_rfl) (e := Extern.SlicesOverlaps.overlaps #[29, 29] #[4]) (by kernel_rfl),
          Lib.run_overlaps_apart w 29 4 56 (einfo_fd).u 2 (fun w => (einfo_fd).size_ w) ⟨vb, 0, none⟩ ⟨g, (i + 1) * 2, none⟩ 1 1 lb cb hvg 56 56 2 cur.size (by unfold Blk at hvB; simp [World.shape?, hvB]; exact fdC_len x) (by simp [World.shape?, hh]) (by rw [HSZ.out]; omega) (hvB.frozen 0) (hvB.frozen 2)]
        rfl
      have e3 : ¬ (c = i + 1) := by omega
      go_enter Tryz.func59, Tryz.ntmps59
      go_wp2_with (simp only [hov])
      refine wp_region_ext_tail 8 (by kernel_rfl) (by kernel_rfl) ?_
      simp only [List.take_succ_cons, List.take_zero, List.drop_succ_cons, List.drop_zero]
      repeat (go_big_quiet_step (fail))
      refine wpQuiet_nil ?_
      rintro w5 ⟨⟨_, h5⟩, rfl⟩
      try dsimp only
      have hh5 : w5.heap[g]? = some (.cells cur 56 (0, 0)) := (h5.block g hgl).trans hh
      have hfit1 : (i + 1 + (m - i)) * 2 ≤ cur.size := by rw [HSZ.out]; exact Nat.mul_le_mul_right _ (by omega)
      have hfit2 : (i + 1) * 2 ≤ cur.size := by rw [HSZ.out]; exact Nat.mul_le_mul_right _ (by omega)
      have hmin1 : Nat.min (m + 1 - i) (m - i) = m - i := by simp only [Nat.min_def]; split <;> omega
      have hmin2 : Nat.min 1 (m + 1 - i) = 1 := by simp only [Nat.min_def]; split <;> omega
      have HF1 := Lib.hid hfit1
      have HF2 := Lib.hid hfit2
      clear hfit1 hfit2
      have hcp1 := fun ty dc sc => run_copyC einfo_fd ty (o := i + 1) (dCap := dc) (d := sc) hh5 (hsl.ext h5) fdC_cell hmin1 HF1.out
      obtain ⟨c1, hc1⟩ : ∃ c1, c1 = (cur.toList.take ((i + 1) * 2) ++ (l.drop i).flatMap fdC ++ cur.toList.drop ((i + 1 + (m - i)) * 2)).toArray := ⟨_, rfl⟩
      have hs1 : c1.size = cur.size := by rw [hc1]; have := splice_size (cur := cur) (o := (i + 1) * 2) (n := (m - i) * 2) (xs := (l.drop i).flatMap fdC) (by rw [flat_len fdC_len, List.length_drop, ← hlen.out]) (by rw [← Nat.add_mul]; exact HF1.out); rw [← Nat.add_mul] at this; exact this
      rw [← hc1] at hcp1
      have hh6 := setRow_heap' hh5 c1
      have hg6 : w.grownBy (w5.setRow g c1) (some g) := (h5.grownBy _).trans (grown_setRow w5 g c1)
      have hv6 := hv.kept hg6 (.inr (by show some vb ≠ some g; intro e; injection e with e; exact hvg e))
      obtain ⟨w6, hw6⟩ : ∃ w6, w6 = w5.setRow g c1 := ⟨_, rfl⟩
      rw [← hw6] at hh6 hg6 hv6
      simp only [← hw6] at hcp1
      have hcp2 := fun ty dc sc => run_copyC einfo_fd ty (o := i) (dCap := dc) (d := sc) hh6 hv6 fdC_cell hmin2 (by rw [hs1]; exact HF2.out)
      obtain ⟨c2, hc2⟩ : ∃ c2, c2 = (c1.toList.take (i * 2) ++ [x].flatMap fdC ++ c1.toList.drop ((i + 1) * 2)).toArray := ⟨_, rfl⟩
      rw [← hc2] at hcp2
      have hit := ins_take fdC_len hlt hlen.out HTK.out (by rw [Array.length_toList, HSZ.out]; exact Nat.mul_le_mul_right _ hroom) x (cur1 := c1.toList) (cur2 := c2.toList) (by rw [hc1]) (by rw [hc2])
      have hh7 := setRow_heap' hh6 c2
      have hg7 : w.grownBy (w6.setRow g c2) (some g) := hg6.trans (grown_setRow w6 g c2)
      obtain ⟨w7, hw7⟩ : ∃ w7, w7 = w6.setRow g c2 := ⟨_, rfl⟩
      rw [← hw7] at hh7 hg7
      simp only [← hw7] at hcp2
      have HIT := Lib.hid hit
      have HH7 := Lib.hid hh7
      clear hc1 hs1 hw6 hh5 hov hc2 hit hw7 hmin1 hmin2 hh6 hh7 hh hsl
      go_wp2
      go_ret
      exact ⟨some ⟨g, 0, none⟩, c, rfl, OsC.of_row rfl hg HH7.out hroom HCM.out (by have := HIT.out.2; rw [Array.length_toList, Array.length_toList] at this; rw [this, HSZ.out]) HIT.out.1 fdC_len fdC_cell (by have := hlen.out; simp only [List.length_append, List.length_take, List.length_drop, List.length_singleton]; omega) (by omega), hg7, NewOr.refl _ _⟩
    · obtain ⟨kk, hkk⟩ : ∃ kk : Nat, kk = m + 1 - i := ⟨_, rfl⟩
      have hik : i + kk = m + 1 := by omega
      have hki : (m : Int) + 1 - (i : Int) = (kk : Int) := by omega
      have r1 : (c : Int) < (m : Int) + 1 := by omega
      have hkb : kk * 32 ≤ (m + 1) * 32 := Nat.mul_le_mul_right _ (by omega)
      obtain ⟨i0, z, hi0, hz0, hz1, hz2, hz3⟩ := (einfo_fd).i
      obtain ⟨G, hG⟩ : ∃ G, G = grownCap w (m + 1) c 56 := ⟨_, rfl⟩
      obtain ⟨ROW, hROW⟩ : ∃ ROW : Array Value, ROW = ((l.take i).flatMap fdC).toArray ++ Builtin.zeroCells z.cells kk ++ Builtin.zeroCells z.cells (G - (m + 1)) := ⟨_, rfl⟩
      have hrz : ∀ ty, (Builtin.append_ #[29, 3] ty #[.slice (some ⟨g, 0, none⟩) i c, .int .i64 (kk : Int)]).run Tryz.prog w = .ok (.slice (some ⟨w.heap.size, 0, none⟩) (m + 1) G) (w.drew.alloc (.cells ROW 56)) := fun ty => by
        have h := Lib.run_append_grow_zeros w 29 3 ty 56 i0 z .i64 .i64 (einfo_fd).u Tryz.underlying3 hi0 hz0 (some ⟨g, 0, none⟩) i c ((l.take i).flatMap fdC) (by rw [hz1]; exact run_firstC (SlC.ext (hown.sl.take_ (by omega)) (Ext.refl w).drew)) kk (by omega) (by rw [hz1]; omega) (by omega) (by omega) (by rw [hz2]; omega) (by rw [hz2, hik]; exact growslice_fits (by omega) (by omega))
        rw [hik] at h
        rw [hG] at hROW
        rw [hROW, hG]
        exact h
      have hGn : m + 1 ≤ G := by rw [hG]; exact grownCap_ge w _ _ _
      have hG63 : G ≤ maxLen := by rw [hG]; exact grownCap_le_maxLen w _ _ _ (by simp only [maxLen]; omega)
      have hG63' : G ≤ 9223372036854775807 := by simpa [maxLen] using hG63
      obtain ⟨zs, hzs⟩ : ∃ zs, zs = (Builtin.zeroCells z.cells kk).toList ++ (Builtin.zeroCells z.cells (G - (m + 1))).toList := ⟨_, rfl⟩
      have hzl : zs.length = kk * 2 + (G - (m + 1)) * 2 := by rw [hzs]; simp [Builtin.zeroCells, hz3]
      have hrow : ROW.toList = (l.take i).flatMap fdC ++ zs := by rw [hROW, hzs]; simp
      have hrl : ROW.size = G * 2 := by
        rw [← Array.length_toList, hrow, List.length_append, hzl, flat_len fdC_len, List.length_take, Nat.min_eq_left (by have := hlen.out; omega)]
        rw [← Nat.add_mul, ← Nat.add_mul, show i + (kk + (G - (m + 1))) = G by omega]
      have HROW := Lib.hid hrow
      have HRL := Lib.hid hrl
      have HZL := Lib.hid hzl
      have HG63 := Lib.hid hG63
      have HKK := Lib.hid hkk
      have hmin1 : Nat.min 1 (m + 1 - i) = 1 := by simp only [Nat.min_def]; split <;> omega
      have hmin2 : Nat.min (m - i) (m - i) = m - i := by simp
      have hEW1 : Ext w (w.drew.alloc (.cells ROW 56)) := (Ext.refl w).drew.alloc _
      have hhn : (w.drew.alloc (.cells ROW 56)).heap[w.heap.size]? = some (.cells ROW 56 (0, 0)) := heap_alloc_new w.drew _
      obtain ⟨g2, hg2⟩ : ∃ g2, g2 = w.heap.size := ⟨_, rfl⟩
      obtain ⟨W1, hW1⟩ : ∃ W1, W1 = w.drew.alloc (.cells ROW 56) := ⟨_, rfl⟩
      rw [← hW1] at hrz hEW1 hhn
      rw [← hg2] at hrz hhn
      have HG2 := Lib.hid hg2
      have hcp1 := fun ty dc sc => run_copyC einfo_fd ty (o := i) (dCap := dc) (d := sc) hhn (hv.ext hEW1) fdC_cell hmin1 (by rw [HRL.out]; exact Nat.mul_le_mul_right _ (by omega))
      obtain ⟨c1, hc1⟩ : ∃ c1, c1 = (ROW.toList.take (i * 2) ++ [x].flatMap fdC ++ ROW.toList.drop ((i + 1) * 2)).toArray := ⟨_, rfl⟩
      rw [← hc1] at hcp1
      have hh2 := setRow_heap' hhn c1
      have hEW2 : Ext w (W1.setRow g2 c1) := hEW1.grown (grown_setRow W1 g2 c1) (fun k hk => by injection hk with hk; rw [← hk, HG2.out]; exact Nat.le_refl _)
      obtain ⟨W2, hW2⟩ : ∃ W2, W2 = W1.setRow g2 c1 := ⟨_, rfl⟩
      rw [← hW2] at hh2 hEW2
      simp only [← hW2] at hcp1
      have hg2l : g2 < W2.heap.size := (Array.getElem?_eq_some_iff.1 hh2).1
      have HC1 := Lib.hid hc1
      have n1 : ¬ (G = i) := by omega
      have n2 : ¬ (G = i + 1) := by omega
      have n3 : (m : Int) + 1 ≤ (G : Int) := by omega
      have n4 : (i : Int) ≤ (G : Int) := by omega
      have n5 : (i : Int) + 1 ≤ (G : Int) := by omega
      clear hkk hik hG hROW hzs hzl hrow hrl hG63 hmin1 hW1 hg2 hc1 hW2 hEW1 hhn hi0 hz0 hz1 hz2 hz3 hh
      go_enter Tryz.func59, Tryz.ntmps59
      go_wp2_with (first
        | (at_builtin; refine Lib.wpList_append_run _ rfl _ _ _ _ rfl _ _ rfl rfl _ _ (hrz _) ?_))
      refine wp_region_ext_tail 8 (by kernel_rfl) (by kernel_rfl) ?_
      simp only [List.take_succ_cons, List.take_zero, List.drop_succ_cons, List.drop_zero]
      repeat (go_big_quiet_step (fail))
      refine wpQuiet_nil ?_
      rintro w5 ⟨⟨_, h5⟩, rfl⟩
      try dsimp only
      have hEw5 := hEW2.trans h5
      have hh5 : w5.heap[g2]? = some (.cells c1 56 (0, 0)) := (h5.block g2 hg2l).trans hh2
      have hgt := grow_take fdC_len hlt hlen.out x HROW.out (by rw [HZL.out, HKK.out]; omega) (cur1 := c1.toList) (cur2 := (c1.toList.take ((i + 1) * 2) ++ (l.drop i).flatMap fdC ++ c1.toList.drop ((i + 1 + (m - i)) * 2))) (by rw [HC1.out]) rfl
      have hc1l : c1.size = G * 2 := by have h9 := hgt.2.2; rw [Array.length_toList, Array.length_toList, HRL.out] at h9; exact h9
      have hcp2 := fun ty dc sc => run_copyC einfo_fd ty (o := i + 1) (dCap := dc) (d := sc) hh5 (hsl.ext hEw5) fdC_cell hmin2 (by rw [hc1l]; exact Nat.mul_le_mul_right _ (by omega))
      obtain ⟨c2, hc2⟩ : ∃ c2, c2 = (c1.toList.take ((i + 1) * 2) ++ (l.drop i).flatMap fdC ++ c1.toList.drop ((i + 1 + (m - i)) * 2)).toArray := ⟨_, rfl⟩
      rw [← hc2] at hcp2
      have hh6 := setRow_heap' hh5 c2
      have hEw6 : Ext w (w5.setRow g2 c2) := hEw5.grown (grown_setRow w5 g2 c2) (fun k hk => by injection hk with hk; rw [← hk, HG2.out]; exact Nat.le_refl _)
      obtain ⟨w6, hw6⟩ : ∃ w6, w6 = w5.setRow g2 c2 := ⟨_, rfl⟩
      rw [← hw6] at hh6 hEw6
      simp only [← hw6] at hcp2
      have HIT : Hid (c2.toList.take ((m + 1) * 2) = (l.take i ++ [x] ++ l.drop i).flatMap fdC ∧ c2.size = G * 2) := by
        rw [hc2]
        refine ⟨hgt.1, ?_⟩
        have h9 := hgt.2.1
        rw [show ROW.toList.length = ROW.size from Array.length_toList, HRL.out] at h9
        exact h9
      have HH6 := Lib.hid hh6
      clear hgt hc1l hc2 hw6 hh5 hh6 hmin2 hh2
      go_wp2
      go_ret
      exact ⟨some ⟨g2, 0, none⟩, G, rfl, OsC.of_row rfl (by rw [HG2.out]; exact hbase) HH6.out hGn HG63.out HIT.out.2 HIT.out.1 fdC_len fdC_cell (by have := hlen.out; simp only [List.length_append, List.length_take, List.length_drop, List.length_singleton]; omega) (by omega), hEw6.grownBy _, NewOr.of_ge fun k hk => by
        have h9 : some g2 = some k := hk
        injection h9 with h9
        rw [← h9, HG2.out]
        exact Nat.le_refl _⟩
end
attribute [local go_sem] ext_refl_t ext_alloc_t ext_drew_t ext_drewN_t ext_alloc2_t ext_alloc3_t ext_alloc4_t ext_alloc5_t ext_alloc6_t ext_alloc7_t ext_alloc8_t ext_alloc1d_t ext_alloc2d_t ext_alloc3d_t ext_alloc4d_t
section
variable {w : World}
set_option maxHeartbeats 6400000 in
theorem psetF_any {h : SlH} {l : List Fd} (hs : FdsW w h l) (n v : ByteArray) (hm : h.m ≤ 4000) :
    Calls Tryz.prog 31 #[.slice h.A h.m h.c, .string n, .string v] w fun e w' => (∃ A m c L, e = .returned (.slice A m c) ∧ SetR l n v L ∧ OsC fdC 56 2 w' w.heap.size A m c L) ∧ Ext w w' := by
  obtain ⟨W0, hW0⟩ : ∃ W0, W0 = w.alloc (Obj.cells #[.string n] 9) := ⟨_, rfl⟩
  have hEa : Ext w W0 := by rw [hW0]; exact (Ext.refl w).alloc _
  have hb0 : Blk W0 w.heap.size 9 #[.string n] := by rw [hW0]; exact Blk.new w _ _
  obtain ⟨gb, hgb⟩ : ∃ gb, gb = w.heap.size := ⟨_, rfl⟩
  have hcl := cloneF_any (HW.ext hs hEa)
  go_enter Tryz.func31, Tryz.ntmps31
  go_wp2_with (first
    | (go_at_call 13; refine Hid.out ?_))
  rw [← hW0, ← hgb]
  rw [← hgb] at hb0
  have HGB := Lib.hid hgb
  refine Hid.mk_ (hcl.mono ?_)
  have X0 := laters (show W0.cell? ⟨gb, 0, none⟩ = some (.string n) from hb0.cell 0)
  clear hW0 hgb hcl
  rintro e w1 ⟨⟨A1, m1, c1⟩, rfl, hw1, ho1, hE1⟩
  dsimp only at *
  have HM1 := Lib.hid ho1.len
  have HM2 := Lib.hid (hs.sl.len)
  have hm1 : m1 ≤ 4000 := by have h1 := HM1.out; have h2 := HM2.out; omega
  have hcap := ho1.cap
  have hE01 := hEa.trans hE1
  go_wp2_with (first
    | (go_at_call 56; refine Hid.out ?_))
  refine Hid.mk_ ((place_any ho1.sl n).mono ?_)
  rintro e w2 ⟨⟨z, rfl, hz⟩, hE2⟩
  have HZ := Lib.hid hz
  have hE02 := hE01.trans hE2
  have ho2 := ho1.ext hE2
  rcases hz with ⟨rfl, _⟩ | ⟨k, rfl, hk, _⟩
  · skip
    go_wp2_with (first
      | (go_at_call 57; refine Hid.out ?_))
    refine Hid.mk_ ((idxGt_any ho2.sl n (X0 _ (hE1.trans hE2))).mono ?_)
    rintro e w3 ⟨⟨z, rfl, hz⟩, hE3⟩
    have hE03 := hE02.trans hE3
    have hE13 := (hE1.trans hE2).trans hE3
    have ho3 := ho2.ext hE3
    have hnew : Blk (w3.alloc (Obj.cells #[.string n, .string v] 56)) w3.heap.size 56 (fdC (n, v)).toArray := Blk.new w3 _ _
    have hEn : Ext w3 (w3.alloc (Obj.cells #[.string n, .string v] 56)) := (Ext.refl _).alloc _
    have hvb : some w3.heap.size ≠ ob A1 := fun e => by have h9 := ho3.lt _ e.symm; omega
    have hba : W0.heap.size ≤ (w3.alloc (Obj.cells #[.string n, .string v] 56)).heap.size := Nat.le_trans hE1.size_le (Nat.le_trans hE2.size_le (Nat.le_trans hE3.size_le hEn.size_le))
    have hGt : Hid (∃ i : Nat, GtAt n l i ∧ ((z = -1 ∧ i = l.length) ∨ z = i)) := by
      rcases hz with ⟨h0, hn⟩ | ⟨k, h0, hk, h1, h2⟩
      · exact ⟨l.length, ⟨Nat.le_refl _, fun j _ h => hn j h, fun h => absurd h (Nat.lt_irrefl _)⟩, .inl ⟨h0, rfl⟩⟩
      · exact ⟨k, ⟨by omega, fun j hj h => h2 j hj, fun _ => h1⟩, .inr h0⟩
    clear hz
    obtain ⟨i, hi, hzi⟩ := hGt.out
    have HI := Lib.hid hi
    have hil := hi.1
    have HM3 : Hid (m1 = l.length) := Lib.hid HM1.out
    have him : i ≤ m1 := by rw [HM3.out]; exact hil
    have hins := insertF_any (ho3.ext hEn) i him (n, v) hnew hvb hba (by omega)
    have HR : Hid (SetR l n v (l.take i ++ [(n, v)] ++ l.drop i)) := .inr ⟨HZ.out, i, HI.out, rfl⟩
    have HBASE := hEa.size_le
    rcases hzi with ⟨rfl, h9⟩ | rfl
    · have e9 : m1 = i := by rw [HM3.out, h9]
      clear h9
      subst e9
      clear hi hil HM1 HM2
      go_wp2_with (first
        | (go_at_call 59; refine Hid.out ?_))
      refine Hid.mk_ (hins.mono ?_)
      rintro e w4 ⟨A4, c4, rfl, ho4, hg4, hat4⟩
      go_wp2
      go_ret
      exact ⟨⟨A4, m1 + 1, c4, _, rfl, HR.out, ho4.mono HBASE⟩, (hE03.trans hEn).grown hg4 (fun j hj => Nat.le_trans HBASE (ho3.ge j hj))⟩
    · clear hi hil HM1 HM2
      go_wp2_with (first
        | (go_at_call 59; refine Hid.out ?_))
      refine Hid.mk_ (hins.mono ?_)
      rintro e w4 ⟨A4, c4, rfl, ho4, hg4, hat4⟩
      go_wp2
      go_ret
      exact ⟨⟨A4, m1 + 1, c4, _, rfl, HR.out, ho4.mono HBASE⟩, (hE03.trans hEn).grown hg4 (fun j hj => Nat.le_trans HBASE (ho3.ge j hj))⟩
  · have hlt : k < m1 := by rw [HM1.out]; exact hk
    obtain ⟨g, cur, hA, hg, hh, hmc, hcm, hsz, htk⟩ := ho2.row (by omega)
    subst hA
    obtain ⟨b, off, e0, hbl, hcs⟩ := ho2.sl.at_ hlt (by omega)
    simp only [Option.some.injEq, Addr.mk.injEq, and_true] at e0
    obtain ⟨e0, e00⟩ := e0
    subst e0
    subst e00
    have y1 := hcs k hk 1 (by omega)
    simp only [fdC, List.getElem_cons_zero, List.getElem_cons_succ, Nat.zero_add, ← Nat.add_assoc] at y1
    have f1 : w2.frozen? ⟨g, k * 2 + 1, none⟩ = false := World.ownsRow.frozenAt ho2.own _
    have hk1 : (k : Int) < (m1 : Int) := by omega
    have hat := fdIs_iff.1 (HZ.out.at_ hk)
    have hset := ho2.setAt (i := k) (j := 1) hk (by omega) (n, v) (.string v) (by show [_, _] = List.set [_, _] 1 _; rw [hat]; rfl)
    have HS : Hid (OsC fdC 56 2 (w2.setCell ⟨g, k * 2 + 1, none⟩ (.string v)) W0.heap.size (some ⟨g, 0, none⟩) m1 c1 (l.set k (n, v))) := hset
    have HR : Hid (SetR l n v (l.set k (n, v))) := .inl ⟨k, HZ.out, rfl⟩
    have HBASE := hEa.size_le
    clear hcs hset hh htk hsz hat hcm
    go_wp2
    go_ret
    exact ⟨⟨_, _, _, _, rfl, HR.out, HS.out.mono HBASE⟩, hE02.set_ (Nat.le_trans HBASE hg) _⟩
end
end Go.Proofs.YtgnchicipmomlaaGreatDoor

/- The reference's SetField; DropField, the program's and the reference's. -/
namespace Go.Proofs.YtgnchicipmomlaaGreatDoor
open Go.RowKit
set_option maxRecDepth 100000
attribute [local go_sem] ext_refl_t ext_alloc_t ext_drew_t ext_drewN_t ext_alloc2_t ext_alloc3_t ext_alloc4_t ext_alloc5_t ext_alloc6_t ext_alloc7_t ext_alloc8_t ext_alloc1d_t ext_alloc2d_t ext_alloc3d_t ext_alloc4d_t
section
variable {w : World}
end
end Go.Proofs.YtgnchicipmomlaaGreatDoor

/- The program's DropField. -/
namespace Go.Proofs.YtgnchicipmomlaaGreatDoor
open Go.RowKit
set_option maxRecDepth 100000
attribute [local go_sem] ext_refl_t ext_alloc_t ext_drew_t ext_drewN_t ext_alloc2_t ext_alloc3_t ext_alloc4_t ext_alloc5_t ext_alloc6_t ext_alloc7_t ext_alloc8_t ext_alloc1d_t ext_alloc2d_t ext_alloc3d_t ext_alloc4d_t
section
variable {w : World}
end
end Go.Proofs.YtgnchicipmomlaaGreatDoor

/- Words for the laws of fields. -/
namespace Go.Proofs.YtgnchicipmomlaaGreatDoor
open Go.RowKit
open Go.WideShapes Go.ChangeShapes Go.Deep
set_option maxRecDepth 100000
section
variable {w w' : World}
theorem OsC.fds {base : Nat} {A : Option Addr} {m c : Nat} {l : List Fd} (ho : OsC fdC 56 2 w base A m c l) (hm : m ≤ 4000) (hg : ∀ x ∈ l, GoodFd x) : FdsW w ⟨A, m, c⟩ l := ⟨ho.sl, ho.cap, by show m * 32 ≤ _; omega, hg⟩
theorem SetR.good {l L : List Fd} {n v : ByteArray} (h : SetR l n v L) (hl : ∀ x ∈ l, GoodFd x) (hn : GoodStr n) (hv : GoodStr v) : ∀ x ∈ L, GoodFd x := by
  intro x hx
  rcases h with ⟨k, _, rfl⟩ | ⟨_, i, _, rfl⟩
  · rcases List.mem_or_eq_of_mem_set hx with h9 | h9
    · exact hl x h9
    · rw [h9]; exact ⟨hn, hv⟩
  · rcases List.mem_append.1 hx with h9 | h9
    · rcases List.mem_append.1 h9 with h9 | h9
      · exact hl x (List.mem_of_mem_take h9)
      · rw [List.mem_singleton] at h9; rw [h9]; exact ⟨hn, hv⟩
    · exact hl x (List.mem_of_mem_drop h9)
end
section
variable {H : Type} {enc : TypeId × Value → H} {W : World}
end
end Go.Proofs.YtgnchicipmomlaaGreatDoor
