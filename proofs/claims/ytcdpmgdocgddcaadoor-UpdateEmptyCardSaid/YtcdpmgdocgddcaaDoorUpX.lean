/- The best candidate: what the program computes. -/
import Derived.Test.YtcdpmgdocgddcaaDoorUpL
import Derived.Test.YtcdpmgdocgddcaaDoorDisD
import Derived.Test.YtcdpmgdocgddcaaDoorCatFi
import Derived.Test.YtcdpmgdocgddcaaDoorCatV
namespace Go.Proofs.YtcdpmgdocgddcaaDoor
open Go.RowKit
set_option maxRecDepth 100000
attribute [local go_sem] ext_refl_t ext_alloc_t ext_drew_t ext_drewN_t ext_alloc2_t ext_alloc3_t ext_alloc4_t ext_alloc5_t ext_alloc6_t ext_alloc7_t ext_alloc8_t ext_alloc1d_t ext_alloc2d_t ext_alloc3d_t ext_alloc4d_t
theorem flat_stC (l : List ByteArray) : l.flatMap stC = l.flatMap strF := rfl
theorem SlC.st {w : World} {A : Option Addr} {m : Nat} {l : List ByteArray} (h : SlC strF 1 w A m l) : SlC stC 1 w A m l := ⟨h.rd, stC_len, h.len, h.le⟩
theorem SlC.sf {w : World} {A : Option Addr} {m : Nat} {l : List ByteArray} (h : SlC stC 1 w A m l) : SlC strF 1 w A m l := ⟨h.rd, strF_len, h.len, h.le⟩
section
variable {w : World}
set_option maxHeartbeats 6400000 in
theorem consider_yes {gw gm ga : Nat} {Aw : Option Addr} {mw cw : Nat} {L : List ByteArray} (i : Int) (x : Ent) (most v a0 : Int) (hw : w.cell? ⟨gw, 0, none⟩ = some (.slice Aw mw cw)) (hsl : SlC stC 1 w Aw mw L)
    (hm : w.cell? ⟨gm, 0, none⟩ = some (.int .i64 most)) (ha : w.cell? ⟨ga, 0, none⟩ = some (.int .i64 a0)) (fm : w.frozen? ⟨gm, 0, none⟩ = false) (fa : w.frozen? ⟨ga, 0, none⟩ = false) (hg : ga ≠ gm)
    (hv : v = simL L (wordsS x.p.src)) (hx : x.p.src.size ≤ 1000000) (hb : most < v) :
    Calls Tryd.prog 60 #[.int .i64 i, entV x, .pointer (some ⟨gw, 0, none⟩), .pointer (some ⟨gm, 0, none⟩), .pointer (some ⟨ga, 0, none⟩)] w fun e w' => e = .returned (.tuple #[]) ∧ ∃ w1, Ext w w1 ∧ w' = (w1.setCell ⟨ga, 0, none⟩ (.int .i64 i)).setCell ⟨gm, 0, none⟩ (.int .i64 v) := by
  obtain ⟨⟨id, src, tgt, com, fl, st, fd⟩, hc, hf, hd⟩ := x
  unfold entV
  dsimp only at *
  have HS := Lib.hid hv.symm
  have HW := Lib.hid hsl
  have KW := laters hw
  have KM := laters hm
  have KA := laters ha
  have HFM : Hid (∀ W, Ext w W → W.frozen? ⟨gm, 0, none⟩ = false) := fun W hE => (hE.frozen (p := ⟨gm, 0, none⟩) (World.block_lt_of_cell? w _ hm)).trans fm
  have HFA : Hid (∀ W, Ext w W → W.frozen? ⟨ga, 0, none⟩ = false) := fun W hE => (hE.frozen (p := ⟨ga, 0, none⟩) (World.block_lt_of_cell? w _ ha)).trans fa
  have hE1 : Ext w (w.alloc (Obj.cells #[.string id, .string src, .string tgt, .slice hc.A hc.m hc.c, .slice hf.A hf.m hf.c, .int .i64 st, .slice hd.A hd.m hd.c] 35)) := (Ext.refl w).alloc _
  have hb1 := Blk.new w 35 #[.string id, .string src, .string tgt, .slice hc.A hc.m hc.c, .slice hf.A hf.m hf.c, .int .i64 st, .slice hd.A hd.m hd.c]
  clear hv hsl hw hm ha fm fa
  go_enter Tryd.func60, Tryd.ntmps60
  go_wp2
  go_region_law
    (go_simp
     first
      | (go_at_call 59; refine (words_any src (by omega)).mono ?_; rintro e w2 ⟨A2, m2, c2, rfl, ho2, hE2'⟩; have hE02 := hE1.trans (Ext.trans (by first | exact Ext.refl _ | exact (Ext.refl _).drew) hE2'); have Hs2 := Lib.hid ho2.sl)
      | (go_at_call 61; refine (similar_any cw c2 (HW.out.ext (hE02.trans (by first | exact Ext.refl _ | exact (Ext.refl _).drew))) (Hs2.out.ext (by first | exact Ext.refl _ | exact (Ext.refl _).drew))).mono ?_; rintro e w3 ⟨rfl, hE3'⟩; have hE3 := Ext.trans (by first | exact Ext.refl w2 | exact (Ext.refl w2).drew) hE3'; have hE03 := hE02.trans hE3; rw [HS.out])
      | fail)
  all_goals
    have fa3 := HFA.out _ hE03
    have fm3 := HFM.out _ hE03
    have ca3 := KA w3 hE03
    have cm3 := KM w3 hE03
    have HE3 := Lib.hid hE03
    clear hE03 hE02 hE1 hE2' hE3' hE3 ho2 hb1 KW KM KA
    go_wp2
    go_end0
    exact ⟨rfl, _, HE3.out, rfl⟩
set_option maxHeartbeats 6400000 in
theorem consider_no {gw gm ga : Nat} {Aw : Option Addr} {mw cw : Nat} {L : List ByteArray} (i : Int) (x : Ent) (most v : Int) (hw : w.cell? ⟨gw, 0, none⟩ = some (.slice Aw mw cw)) (hsl : SlC stC 1 w Aw mw L)
    (hm : w.cell? ⟨gm, 0, none⟩ = some (.int .i64 most))
    (hv : v = simL L (wordsS x.p.src)) (hx : x.p.src.size ≤ 1000000) (hb : ¬ most < v) :
    Calls Tryd.prog 60 #[.int .i64 i, entV x, .pointer (some ⟨gw, 0, none⟩), .pointer (some ⟨gm, 0, none⟩), .pointer (some ⟨ga, 0, none⟩)] w fun e w' => e = .returned (.tuple #[]) ∧ Ext w w' := by
  obtain ⟨⟨id, src, tgt, com, fl, st, fd⟩, hc, hf, hd⟩ := x
  unfold entV
  dsimp only at *
  have HS := Lib.hid hv.symm
  have HW := Lib.hid hsl
  have KW := laters hw
  have KM := laters hm
  have hE1 : Ext w (w.alloc (Obj.cells #[.string id, .string src, .string tgt, .slice hc.A hc.m hc.c, .slice hf.A hf.m hf.c, .int .i64 st, .slice hd.A hd.m hd.c] 35)) := (Ext.refl w).alloc _
  have hb1 := Blk.new w 35 #[.string id, .string src, .string tgt, .slice hc.A hc.m hc.c, .slice hf.A hf.m hf.c, .int .i64 st, .slice hd.A hd.m hd.c]
  clear hv hsl hw hm
  go_enter Tryd.func60, Tryd.ntmps60
  go_wp2
  go_region_law
    (go_simp
     first
      | (go_at_call 59; refine (words_any src (by omega)).mono ?_; rintro e w2 ⟨A2, m2, c2, rfl, ho2, hE2'⟩; have hE02 := hE1.trans (Ext.trans (by first | exact Ext.refl _ | exact (Ext.refl _).drew) hE2'); have Hs2 := Lib.hid ho2.sl)
      | (go_at_call 61; refine (similar_any cw c2 (HW.out.ext (hE02.trans (by first | exact Ext.refl _ | exact (Ext.refl _).drew))) (Hs2.out.ext (by first | exact Ext.refl _ | exact (Ext.refl _).drew))).mono ?_; rintro e w3 ⟨rfl, hE3'⟩; have hE3 := Ext.trans (by first | exact Ext.refl w2 | exact (Ext.refl w2).drew) hE3'; have hE03 := hE02.trans hE3; rw [HS.out])
      | fail)
  all_goals
    have cm3 := KM w3 hE03
    have HE3 := Lib.hid hE03
    clear hE03 hE02 hE1 hE2' hE3' hE3 ho2 hb1 KW KM
    go_wp2
    go_end0
    exact ⟨rfl, HE3.out⟩
end
theorem grown_cell (w : World) (g i : Nat) (u : Value) : w.grownBy (w.setCell ⟨g, i, none⟩ u) (some g) :=
  ⟨rfl, rfl, rfl, by simp, fun k _ hn => Below.heap_setCell w _ u k (fun e => hn (by rw [e]))⟩
theorem OsC.setFar {α : Type} {cs : α → List Value} {e t : TypeId} {k : Nat} {w : World} {base : Nat} {A : Option Addr} {m c : Nat} {l : List α} {g : Nat} {xs : Array Value} (h : OsC cs e k w base A m c l) (hb : Blk w g t xs) (hne : e ≠ t) (i : Nat) (u : Value) : OsC cs e k (w.setCell ⟨g, i, none⟩ u) base A m c l :=
  h.kept (grown_cell w g i u) (.inr (by have h1 := own_blk_ne h.own hb hne; rw [ob_own] at h1; exact h1))
/-- What best keeps in memory while it looks at entries. -/
structure BestW (w0 w : World) (gw gm ga : Nat) (Aw : Option Addr) (mw cw : Nat) (L : List ByteArray) (s : Nat × Int) : Prop where
  bw : Blk w gw 22 #[.slice Aw mw cw]
  bm : Blk w gm 3 #[.int .i64 s.2]
  ba : Blk w ga 3 #[.int .i64 (s.1 : Int)]
  wo : OsC stC 9 1 w w0.heap.size Aw mw cw L
  ne : ga ≠ gm
  nw : gw ≠ gm ∧ gw ≠ ga
  ext : Ext w0 w
  gm0 : w0.heap.size ≤ gm
  ga0 : w0.heap.size ≤ ga
section
variable {w0 w w' : World} {gw gm ga : Nat} {Aw : Option Addr} {mw cw : Nat} {L : List ByteArray} {s : Nat × Int}
theorem BestW.more (h : BestW w0 w gw gm ga Aw mw cw L s) (hE : Ext w w') : BestW w0 w' gw gm ga Aw mw cw L s :=
  ⟨h.bw.below hE h.bw.lt, h.bm.below hE h.bm.lt, h.ba.below hE h.ba.lt, h.wo.ext hE, h.ne, h.nw, h.ext.trans hE, h.gm0, h.ga0⟩
theorem BestW.set (h : BestW w0 w gw gm ga Aw mw cw L s) (i : Nat) (v : Int) : BestW w0 ((w.setCell ⟨ga, 0, none⟩ (.int .i64 (i : Int))).setCell ⟨gm, 0, none⟩ (.int .i64 v)) gw gm ga Aw mw cw L (i, v) := by
  have b1 := h.ba.set_ 0 (.int .i64 (i : Int))
  have b2 := (h.bm.far (p := ⟨ga, 0, none⟩) (Ne.symm h.ne) (.int .i64 (i : Int)))
  have b3 := (h.bw.far (p := ⟨ga, 0, none⟩) h.nw.2 (.int .i64 (i : Int)))
  refine ⟨b3.far (p := ⟨gm, 0, none⟩) h.nw.1 _, b2.set_ 0 _, b1.far (p := ⟨gm, 0, none⟩) h.ne _, ?_, h.ne, h.nw, (h.ext.set_ (p := ⟨ga, 0, none⟩) h.ga0 _).set_ (p := ⟨gm, 0, none⟩) h.gm0 _, h.gm0, h.ga0⟩
  exact (h.wo.setFar h.ba (by decide) 0 _).setFar b2 (by decide) 0 _
end
theorem bestN_succ (sim : Ep → Int) (may : Ep → Bool) (es : List Ep) (k : Nat) (h : k < es.length) : bestN sim may es (k + 1) = bestS sim may (bestN sim may es k) k es[k] := by
  show (match es[k]? with | some z => bestS sim may (bestN sim may es k) k z | none => bestN sim may es k) = _
  rw [List.getElem?_eq_getElem h]
theorem bestN_le (sim : Ep → Int) (may : Ep → Bool) (es : List Ep) (hs : ∀ z, sim z ≤ 1000) (k : Nat) : 699 ≤ (bestN sim may es k).2 ∧ (bestN sim may es k).2 ≤ 1000 ∧ (bestN sim may es k).1 ≤ k := by
  induction k with
  | zero => exact ⟨Int.le_refl _, by show (699 : Int) ≤ 1000; omega, Nat.le_refl _⟩
  | succ k ih =>
    unfold bestN
    cases es[k]? with
    | none => exact ⟨ih.1, ih.2.1, Nat.le_succ_of_le ih.2.2⟩
    | some z =>
      dsimp only
      unfold bestS
      split
      · rename_i h; exact ⟨by have := h.2.2; have := ih.1; show _ ≤ sim z; omega, hs z, by show k ≤ _; omega⟩
      · exact ⟨ih.1, ih.2.1, by have := ih.2.2; omega⟩
theorem simL_le {α : Type} [DecidableEq α] (a b : List α) : simL a b ≤ 1000 ∧ -1 ≤ simL a b := by
  unfold simL
  split
  · omega
  · split
    · omega
    · have h3 : (max a.length b.length - dstL a b a.length b.length) * 1000 / max a.length b.length ≤ 1000 :=
        Nat.div_le_of_le_mul (Nat.mul_le_mul_right 1000 (Nat.sub_le _ _))
      generalize (max a.length b.length - dstL a b a.length b.length) * 1000 / max a.length b.length = q at h3 ⊢
      omega
section
variable {w : World}
set_option maxHeartbeats 12800000 in
theorem best_cand {x : Cat} (hx : CatW w x) (src : ByteArray) (hs : src.size ≤ 1000000) (hsrc : ∀ y ∈ x.es, y.p.src.size ≤ 1000000) (may : Ep → Bool) {gy : Nat}
    (hmay : ∀ W, Ext w W → ∀ y ∈ x.es, Calls Tryd.prog 38 #[entV y, .pointer (some ⟨gy, 0, none⟩)] W fun e W' => e = .returned (.bool (may y.p)) ∧ Ext W W') :
    Calls Tryd.prog 37 #[catV x, .string src, .func (.func 38) #[] #[.pointer (some ⟨gy, 0, none⟩)]] w fun e w' =>
      e = .returned (.tuple #[.int .i64 ((bestN (fun z => simP src z.src) may x.p.es x.es.length).1 : Nat), .bool (decide (700 ≤ (bestN (fun z => simP src z.src) may x.p.es x.es.length).2))]) ∧ Ext w w' := by
  obtain ⟨tag, com, fd, es, hc, hd, ⟨eA, em, ec⟩⟩ := x
  obtain ⟨_, _, _, ke⟩ := hx
  unfold catV Cat.p
  dsimp only at *
  have HL := Lib.hid ke.sl.len
  have hle := ke.sl.le
  have HKE := Lib.hid ke
  have HMAY := Lib.hid hmay
  have HSRC := Lib.hid hsrc
  dsimp only at HL hle
  obtain ⟨st, hst⟩ : ∃ st : Nat → Nat × Int, st = bestN (fun z => simP src z.src) may (es.map Ent.p) := ⟨_, rfl⟩
  have HB0 : Hid (st 0 = (0, 699)) := by show _ = _; rw [hst]; rfl
  have HBS : Hid (∀ k (h : k < es.length), st (k + 1) = bestS (fun z => simP src z.src) may (st k) k es[k].p) := fun k h => by
    rw [hst, bestN_succ _ _ _ _ (by rw [List.length_map]; exact h), List.getElem_map]
  have HBL : Hid (∀ k, 699 ≤ (st k).2 ∧ (st k).2 ≤ 1000 ∧ (st k).1 ≤ k) := fun k => by rw [hst]; exact bestN_le _ _ _ (fun z => (simL_le _ _).1) k
  rw [← hst]
  rw [← HL.out]
  have hE1 : Ext w (w.alloc (Obj.cells #[.string tag, .slice hc.A hc.m hc.c, .slice hd.A hd.m hd.c, .slice eA em ec] 26)) := (Ext.refl w).alloc _
  have hb1 := Blk.new w 26 #[.string tag, .slice hc.A hc.m hc.c, .slice hd.A hd.m hd.c, .slice eA em ec]
  have KC := laters (show _ = some (.slice eA em ec) from hb1.cell 3)
  clear hst ke hmay hsrc hb1
  go_enter Tryd.func37, Tryd.ntmps37
  go_wp2_with (first
    | (go_at_call 59; refine Hid.out ?_))
  refine Hid.mk_ ((words_any src (by omega)).mono ?_)
  rintro e w2 ⟨Aw, mw, cw, rfl, ho2, hE2⟩
  have hE02 := hE1.trans hE2
  have KC2 := fun W hW => KC W (hE2.trans hW)
  obtain ⟨gc, hgc⟩ : ∃ gc, gc = w.heap.size := ⟨_, rfl⟩
  rw [← hgc] at KC2 ⊢
  clear KC hgc
  have HBW : Hid (BestW w (((w2.alloc (Obj.cells #[.slice Aw mw cw] 22)).alloc (Obj.cells #[.int .i64 0] 3)).alloc (Obj.cells #[.int .i64 699] 3)) w2.heap.size (w2.heap.size + 1 + 1) (w2.heap.size + 1) Aw mw cw (wordsS src) (st 0)) := by
    have s1 : (w2.alloc (Obj.cells #[.slice Aw mw cw] 22)).heap.size = w2.heap.size + 1 := by simp
    have s2 : ((w2.alloc (Obj.cells #[.slice Aw mw cw] 22)).alloc (Obj.cells #[.int .i64 0] 3)).heap.size = w2.heap.size + 1 + 1 := by simp
    have b2 := Blk.new (w2.alloc (Obj.cells #[.slice Aw mw cw] 22)) 3 #[.int .i64 0]
    have b3 := Blk.new ((w2.alloc (Obj.cells #[.slice Aw mw cw] 22)).alloc (Obj.cells #[.int .i64 0] 3)) 3 #[.int .i64 699]
    rw [s1] at b2
    rw [s2] at b3
    rw [HB0.out]
    have hsz := hE02.size_le
    exact ⟨((Blk.new w2 _ _).alloc _).alloc _, b3, b2.alloc _, ((ho2.ext (((Ext.refl w2).alloc _).alloc _ |>.alloc _)).mono hE1.size_le), by omega, ⟨by omega, by omega⟩, ((hE02.alloc _).alloc _).alloc _, by omega, by omega⟩
  have HKC3 : Hid (∀ W, Ext (((w2.alloc (Obj.cells #[.slice Aw mw cw] 22)).alloc (Obj.cells #[.int .i64 0] 3)).alloc (Obj.cells #[.int .i64 699] 3)) W → Ext w2 W) := fun W hW => ((((Ext.refl w2).alloc _).alloc _).alloc _).trans hW
  clear ho2
  go_wp2
  obtain ⟨gw, hgw⟩ : ∃ gw, gw = w2.heap.size := ⟨_, rfl⟩
  obtain ⟨ga, hga⟩ : ∃ ga, ga = w2.heap.size + 1 := ⟨_, rfl⟩
  obtain ⟨gm, hgm⟩ : ∃ gm, gm = w2.heap.size + 1 + 1 := ⟨_, rfl⟩
  rw [← hgm, ← hga, ← hgw] at HBW
  rw [← hgm, ← hga, ← hgw]
  clear hgm hga hgw
  obtain ⟨w3, hw3⟩ : ∃ w3, w3 = (((w2.alloc (Obj.cells #[.slice Aw mw cw] 22)).alloc (Obj.cells #[.int .i64 0] 3)).alloc (Obj.cells #[.int .i64 699] 3)) := ⟨_, rfl⟩
  rw [← hw3] at HBW HKC3 ⊢
  clear hw3 KC2
  go_loopw [20] (fun v wr => ∃ q : Nat, q ≤ em ∧ v = .int .i64 q ∧ Hid (BestW w wr gw gm ga Aw mw cw (wordsS src) (st q))) (fun v _ => em - (intOf v).toNat)
  case atStart => exact ⟨0, Nat.zero_le _, rfl, HBW⟩
  case round =>
    obtain ⟨q, hq, rfl, HB⟩ := hrel
    by_cases hlt : q < em
    · obtain ⟨b, off, e0, hbl, hcs⟩ := (HKE.out.sl.ext HB.out.ext).at_ hlt (by omega)
      dsimp only at e0
      subst e0
      have hlt1 : q < es.length := by rw [← HL.out]; exact hlt
      have hqm : q ≤ 140737488355328 := by omega
      obtain ⟨y, hyq⟩ : ∃ y, y = es[q] := ⟨_, rfl⟩
      have y0 := hcs q hlt1 0 (by omega)
      have y1 := hcs q hlt1 1 (by omega)
      have y2 := hcs q hlt1 2 (by omega)
      have y3 := hcs q hlt1 3 (by omega)
      have y4 := hcs q hlt1 4 (by omega)
      have y5 := hcs q hlt1 5 (by omega)
      have y6 := hcs q hlt1 6 (by omega)
      simp only [← hyq, entC, List.getElem_cons_zero, List.getElem_cons_succ, Nat.add_zero, ← Nat.add_assoc] at y0 y1 y2 y3 y4 y5 y6
      have HSQ : Hid (st (q + 1) = bestS (fun z => simP src z.src) may (st q) q y.p) := by show _ = _; rw [HBS.out q hlt1, hyq]
      have hym : y ∈ es := by rw [hyq]; exact List.getElem_mem hlt1
      have HYS : Hid (y.p.src.size ≤ 1000000) := HSRC.out y hym
      have HMY := Lib.hid (fun W hW => HMAY.out W hW y hym)
      have hi1 : (q : Int) < (em : Int) := by omega
      obtain ⟨hbl1, hbl2, hbl3⟩ := HBL.out q
      clear hcs hyq hym
      obtain ⟨⟨id, ysrc, tgt, ycom, yfl, yst, yfd⟩, yhc, yhf, yhd⟩ := y
      dsimp only at y0 y1 y2 y3 y4 y5 y6
      by_cases ht : tgt.size = 0
      · have ht1 : tgt.toList.isEmpty = true := by rw [isEmpty_size, ht]; rfl
        have HB2 : Hid (BestW w (wr.alloc (Obj.cells #[.string id, .string ysrc, .string tgt, .slice yhc.A yhc.m yhc.c, .slice yhf.A yhf.m yhf.c, .int .i64 yst, .slice yhd.A yhd.m yhd.c] 35)) gw gm ga Aw mw cw (wordsS src) (st (q + 1))) := by
          have h1 : st (q + 1) = st q := by rw [HSQ.out]; unfold bestS; rw [if_neg (fun e => e.1 ht)]
          rw [h1]
          exact HB.out.more ((Ext.refl _).alloc _)
        clear ht
        go_wp2
        go_roundw
        case rel => exact ⟨q + 1, by omega, by go_num, HB2⟩
        case measure => simp [intOf]; omega
      · have ht1 : tgt.toList.isEmpty = false := by rw [isEmpty_size]; exact decide_eq_false ht
        have HMY1 := HMY.out _ (HB.out.ext.alloc (Obj.cells #[.string id, .string ysrc, .string tgt, .slice yhc.A yhc.m yhc.c, .slice yhf.A yhf.m yhf.c, .int .i64 yst, .slice yhd.A yhd.m yhd.c] 35))
        unfold entV at HMY1
        dsimp only at HMY1
        have hbc := Blk.new wr 35 #[.string id, .string ysrc, .string tgt, .slice yhc.A yhc.m yhc.c, .slice yhf.A yhf.m yhf.c, .int .i64 yst, .slice yhd.A yhd.m yhd.c]
        have HM := Lib.hid HMY1
        have HT := Lib.hid ht
        clear HMY1 ht
        go_wp2_with (first
          | (go_at_call 38; refine Hid.out ?_))
        refine Hid.mk_ ((HM.out).mono ?_)
        rintro e w5 ⟨rfl, hE5⟩
        have hE35 := ((Ext.refl wr).alloc (Obj.cells #[.string id, .string ysrc, .string tgt, .slice yhc.A yhc.m yhc.c, .slice yhf.A yhf.m yhf.c, .int .i64 yst, .slice yhd.A yhd.m yhd.c] 35)).trans hE5
        have hB5 := HB.out.more hE35
        cases hmy : may ⟨id, ysrc, tgt, ycom, yfl, yst, yfd⟩ with
        | false =>
          have HB2 : Hid (BestW w w5 gw gm ga Aw mw cw (wordsS src) (st (q + 1))) := by
            have h1 : st (q + 1) = st q := by
              rw [HSQ.out]; unfold bestS; rw [if_neg (fun e => by have h9 := e.2.1; rw [hmy] at h9; cases h9)]
            rw [h1]
            exact hB5
          clear hmy hB5 hbc
          go_wp2
          go_roundw
          case rel => exact ⟨q + 1, by omega, by go_num, HB2⟩
          case measure => simp [intOf]; omega
        | true =>
          have hb5 := hbc.below hE5 hbc.lt
          have c0 := hb5.cell 0
          have c1 := hb5.cell 1
          have c2 := hb5.cell 2
          have c3 := hb5.cell 3
          have c4 := hb5.cell 4
          have c5 := hb5.cell 5
          have c6 := hb5.cell 6
          obtain ⟨v, hv⟩ : ∃ v, v = simP src ysrc := ⟨_, rfl⟩
          have HMT := Lib.hid hmy
          clear hmy hbc hb5
          by_cases hgt : (st q).2 < v
          · have HB2 : Hid (∀ w6, Ext w5 w6 → BestW w ((w6.setCell ⟨ga, 0, none⟩ (.int .i64 (q : Int))).setCell ⟨gm, 0, none⟩ (.int .i64 v)) gw gm ga Aw mw cw (wordsS src) (st (q + 1))) := fun w6 hE6 => by
              have h1 : st (q + 1) = (q, v) := by
                rw [HSQ.out]; unfold bestS; rw [if_pos ⟨HT.out, HMT.out, by show _ < simP src ysrc; rw [← hv]; exact hgt⟩]
                rw [hv]
              rw [h1]
              exact (hB5.more hE6).set q v
            have HCO := Lib.hid (consider_yes (q : Int) ⟨⟨id, ysrc, tgt, ycom, yfl, yst, yfd⟩, yhc, yhf, yhd⟩ (st q).2 v ((st q).1 : Int) (hB5.bw.cell 0) hB5.wo.sl (hB5.bm.cell 0) (hB5.ba.cell 0) (hB5.bm.frozen 0) (hB5.ba.frozen 0) hB5.ne hv HYS.out hgt)
            unfold entV at HCO
            dsimp only at HCO
            clear hB5 hv hgt
            go_wp2_with (first
              | (go_at_call 60; refine Hid.out ?_))
            refine Hid.mk_ ((HCO.out).mono ?_)
            rintro e w7 ⟨rfl, w6, hE6, rfl⟩
            have HB3 := Lib.hid (HB2.out w6 hE6)
            go_wp2
            go_roundw
            case rel => exact ⟨q + 1, by omega, by go_num, HB3⟩
            case measure => simp [intOf]; omega
          · have HB2 : Hid (∀ w6, Ext w5 w6 → BestW w w6 gw gm ga Aw mw cw (wordsS src) (st (q + 1))) := fun w6 hE6 => by
              have h1 : st (q + 1) = st q := by
                rw [HSQ.out]; unfold bestS; rw [if_neg (fun e => hgt (by have h9 := e.2.2; rw [hv]; exact h9))]
              rw [h1]
              exact hB5.more hE6
            have HCO := Lib.hid (consider_no (ga := ga) (q : Int) ⟨⟨id, ysrc, tgt, ycom, yfl, yst, yfd⟩, yhc, yhf, yhd⟩ (st q).2 v (hB5.bw.cell 0) hB5.wo.sl (hB5.bm.cell 0) hv HYS.out hgt)
            unfold entV at HCO
            dsimp only at HCO
            clear hB5 hv hgt
            go_wp2_with (first
              | (go_at_call 60; refine Hid.out ?_))
            refine Hid.mk_ ((HCO.out).mono ?_)
            rintro e w7 ⟨rfl, hE6⟩
            have HB3 := Lib.hid (HB2.out w7 hE6)
            go_wp2
            go_roundw
            case rel => exact ⟨q + 1, by omega, by go_num, HB3⟩
            case measure => simp [intOf]; omega
    · have hi1 : ¬ (q : Int) < (em : Int) := by omega
      obtain rfl : q = em := by omega
      have c1 := HB.out.ba.cell 0
      have c2 := HB.out.bm.cell 0
      have HE := Lib.hid (HB.out.ext)
      obtain ⟨hbl1, hbl2, hbl3⟩ := HBL.out q
      go_wp2
      go_quiet (fail)
      go_wp2
      go_ret2
      exact ⟨rfl, HE.out.drewN _⟩
set_option maxHeartbeats 12800000 in
theorem best_fresh {x : Cat} (hx : CatW w x) (src : ByteArray) (hs : src.size ≤ 1000000) (hsrc : ∀ y ∈ x.es, y.p.src.size ≤ 1000000) (may : Ep → Bool) {gy : Nat}
    (hmay : ∀ W, Ext w W → ∀ y ∈ x.es, Calls Tryd.prog 49 #[entV y, .pointer (some ⟨gy, 0, none⟩)] W fun e W' => e = .returned (.bool (may y.p)) ∧ Ext W W') :
    Calls Tryd.prog 37 #[catV x, .string src, .func (.func 49) #[] #[.pointer (some ⟨gy, 0, none⟩)]] w fun e w' =>
      e = .returned (.tuple #[.int .i64 ((bestN (fun z => simP src z.src) may x.p.es x.es.length).1 : Nat), .bool (decide (700 ≤ (bestN (fun z => simP src z.src) may x.p.es x.es.length).2))]) ∧ Ext w w' := by
  obtain ⟨tag, com, fd, es, hc, hd, ⟨eA, em, ec⟩⟩ := x
  obtain ⟨_, _, _, ke⟩ := hx
  unfold catV Cat.p
  dsimp only at *
  have HL := Lib.hid ke.sl.len
  have hle := ke.sl.le
  have HKE := Lib.hid ke
  have HMAY := Lib.hid hmay
  have HSRC := Lib.hid hsrc
  dsimp only at HL hle
  obtain ⟨st, hst⟩ : ∃ st : Nat → Nat × Int, st = bestN (fun z => simP src z.src) may (es.map Ent.p) := ⟨_, rfl⟩
  have HB0 : Hid (st 0 = (0, 699)) := by show _ = _; rw [hst]; rfl
  have HBS : Hid (∀ k (h : k < es.length), st (k + 1) = bestS (fun z => simP src z.src) may (st k) k es[k].p) := fun k h => by
    rw [hst, bestN_succ _ _ _ _ (by rw [List.length_map]; exact h), List.getElem_map]
  have HBL : Hid (∀ k, 699 ≤ (st k).2 ∧ (st k).2 ≤ 1000 ∧ (st k).1 ≤ k) := fun k => by rw [hst]; exact bestN_le _ _ _ (fun z => (simL_le _ _).1) k
  rw [← hst]
  rw [← HL.out]
  have hE1 : Ext w (w.alloc (Obj.cells #[.string tag, .slice hc.A hc.m hc.c, .slice hd.A hd.m hd.c, .slice eA em ec] 26)) := (Ext.refl w).alloc _
  have hb1 := Blk.new w 26 #[.string tag, .slice hc.A hc.m hc.c, .slice hd.A hd.m hd.c, .slice eA em ec]
  have KC := laters (show _ = some (.slice eA em ec) from hb1.cell 3)
  clear hst ke hmay hsrc hb1
  go_enter Tryd.func37, Tryd.ntmps37
  go_wp2_with (first
    | (go_at_call 59; refine Hid.out ?_))
  refine Hid.mk_ ((words_any src (by omega)).mono ?_)
  rintro e w2 ⟨Aw, mw, cw, rfl, ho2, hE2⟩
  have hE02 := hE1.trans hE2
  have KC2 := fun W hW => KC W (hE2.trans hW)
  obtain ⟨gc, hgc⟩ : ∃ gc, gc = w.heap.size := ⟨_, rfl⟩
  rw [← hgc] at KC2 ⊢
  clear KC hgc
  have HBW : Hid (BestW w (((w2.alloc (Obj.cells #[.slice Aw mw cw] 22)).alloc (Obj.cells #[.int .i64 0] 3)).alloc (Obj.cells #[.int .i64 699] 3)) w2.heap.size (w2.heap.size + 1 + 1) (w2.heap.size + 1) Aw mw cw (wordsS src) (st 0)) := by
    have s1 : (w2.alloc (Obj.cells #[.slice Aw mw cw] 22)).heap.size = w2.heap.size + 1 := by simp
    have s2 : ((w2.alloc (Obj.cells #[.slice Aw mw cw] 22)).alloc (Obj.cells #[.int .i64 0] 3)).heap.size = w2.heap.size + 1 + 1 := by simp
    have b2 := Blk.new (w2.alloc (Obj.cells #[.slice Aw mw cw] 22)) 3 #[.int .i64 0]
    have b3 := Blk.new ((w2.alloc (Obj.cells #[.slice Aw mw cw] 22)).alloc (Obj.cells #[.int .i64 0] 3)) 3 #[.int .i64 699]
    rw [s1] at b2
    rw [s2] at b3
    rw [HB0.out]
    have hsz := hE02.size_le
    exact ⟨((Blk.new w2 _ _).alloc _).alloc _, b3, b2.alloc _, ((ho2.ext (((Ext.refl w2).alloc _).alloc _ |>.alloc _)).mono hE1.size_le), by omega, ⟨by omega, by omega⟩, ((hE02.alloc _).alloc _).alloc _, by omega, by omega⟩
  have HKC3 : Hid (∀ W, Ext (((w2.alloc (Obj.cells #[.slice Aw mw cw] 22)).alloc (Obj.cells #[.int .i64 0] 3)).alloc (Obj.cells #[.int .i64 699] 3)) W → Ext w2 W) := fun W hW => ((((Ext.refl w2).alloc _).alloc _).alloc _).trans hW
  clear ho2
  go_wp2
  obtain ⟨gw, hgw⟩ : ∃ gw, gw = w2.heap.size := ⟨_, rfl⟩
  obtain ⟨ga, hga⟩ : ∃ ga, ga = w2.heap.size + 1 := ⟨_, rfl⟩
  obtain ⟨gm, hgm⟩ : ∃ gm, gm = w2.heap.size + 1 + 1 := ⟨_, rfl⟩
  rw [← hgm, ← hga, ← hgw] at HBW
  rw [← hgm, ← hga, ← hgw]
  clear hgm hga hgw
  obtain ⟨w3, hw3⟩ : ∃ w3, w3 = (((w2.alloc (Obj.cells #[.slice Aw mw cw] 22)).alloc (Obj.cells #[.int .i64 0] 3)).alloc (Obj.cells #[.int .i64 699] 3)) := ⟨_, rfl⟩
  rw [← hw3] at HBW HKC3 ⊢
  clear hw3 KC2
  go_loopw [20] (fun v wr => ∃ q : Nat, q ≤ em ∧ v = .int .i64 q ∧ Hid (BestW w wr gw gm ga Aw mw cw (wordsS src) (st q))) (fun v _ => em - (intOf v).toNat)
  case atStart => exact ⟨0, Nat.zero_le _, rfl, HBW⟩
  case round =>
    obtain ⟨q, hq, rfl, HB⟩ := hrel
    by_cases hlt : q < em
    · obtain ⟨b, off, e0, hbl, hcs⟩ := (HKE.out.sl.ext HB.out.ext).at_ hlt (by omega)
      dsimp only at e0
      subst e0
      have hlt1 : q < es.length := by rw [← HL.out]; exact hlt
      have hqm : q ≤ 140737488355328 := by omega
      obtain ⟨y, hyq⟩ : ∃ y, y = es[q] := ⟨_, rfl⟩
      have y0 := hcs q hlt1 0 (by omega)
      have y1 := hcs q hlt1 1 (by omega)
      have y2 := hcs q hlt1 2 (by omega)
      have y3 := hcs q hlt1 3 (by omega)
      have y4 := hcs q hlt1 4 (by omega)
      have y5 := hcs q hlt1 5 (by omega)
      have y6 := hcs q hlt1 6 (by omega)
      simp only [← hyq, entC, List.getElem_cons_zero, List.getElem_cons_succ, Nat.add_zero, ← Nat.add_assoc] at y0 y1 y2 y3 y4 y5 y6
      have HSQ : Hid (st (q + 1) = bestS (fun z => simP src z.src) may (st q) q y.p) := by show _ = _; rw [HBS.out q hlt1, hyq]
      have hym : y ∈ es := by rw [hyq]; exact List.getElem_mem hlt1
      have HYS : Hid (y.p.src.size ≤ 1000000) := HSRC.out y hym
      have HMY := Lib.hid (fun W hW => HMAY.out W hW y hym)
      have hi1 : (q : Int) < (em : Int) := by omega
      obtain ⟨hbl1, hbl2, hbl3⟩ := HBL.out q
      clear hcs hyq hym
      obtain ⟨⟨id, ysrc, tgt, ycom, yfl, yst, yfd⟩, yhc, yhf, yhd⟩ := y
      dsimp only at y0 y1 y2 y3 y4 y5 y6
      by_cases ht : tgt.size = 0
      · have ht1 : tgt.toList.isEmpty = true := by rw [isEmpty_size, ht]; rfl
        have HB2 : Hid (BestW w (wr.alloc (Obj.cells #[.string id, .string ysrc, .string tgt, .slice yhc.A yhc.m yhc.c, .slice yhf.A yhf.m yhf.c, .int .i64 yst, .slice yhd.A yhd.m yhd.c] 35)) gw gm ga Aw mw cw (wordsS src) (st (q + 1))) := by
          have h1 : st (q + 1) = st q := by rw [HSQ.out]; unfold bestS; rw [if_neg (fun e => e.1 ht)]
          rw [h1]
          exact HB.out.more ((Ext.refl _).alloc _)
        clear ht
        go_wp2
        go_roundw
        case rel => exact ⟨q + 1, by omega, by go_num, HB2⟩
        case measure => simp [intOf]; omega
      · have ht1 : tgt.toList.isEmpty = false := by rw [isEmpty_size]; exact decide_eq_false ht
        have HMY1 := HMY.out _ (HB.out.ext.alloc (Obj.cells #[.string id, .string ysrc, .string tgt, .slice yhc.A yhc.m yhc.c, .slice yhf.A yhf.m yhf.c, .int .i64 yst, .slice yhd.A yhd.m yhd.c] 35))
        unfold entV at HMY1
        dsimp only at HMY1
        have hbc := Blk.new wr 35 #[.string id, .string ysrc, .string tgt, .slice yhc.A yhc.m yhc.c, .slice yhf.A yhf.m yhf.c, .int .i64 yst, .slice yhd.A yhd.m yhd.c]
        have HM := Lib.hid HMY1
        have HT := Lib.hid ht
        clear HMY1 ht
        go_wp2_with (first
          | (go_at_call 49; refine Hid.out ?_))
        refine Hid.mk_ ((HM.out).mono ?_)
        rintro e w5 ⟨rfl, hE5⟩
        have hE35 := ((Ext.refl wr).alloc (Obj.cells #[.string id, .string ysrc, .string tgt, .slice yhc.A yhc.m yhc.c, .slice yhf.A yhf.m yhf.c, .int .i64 yst, .slice yhd.A yhd.m yhd.c] 35)).trans hE5
        have hB5 := HB.out.more hE35
        cases hmy : may ⟨id, ysrc, tgt, ycom, yfl, yst, yfd⟩ with
        | false =>
          have HB2 : Hid (BestW w w5 gw gm ga Aw mw cw (wordsS src) (st (q + 1))) := by
            have h1 : st (q + 1) = st q := by
              rw [HSQ.out]; unfold bestS; rw [if_neg (fun e => by have h9 := e.2.1; rw [hmy] at h9; cases h9)]
            rw [h1]
            exact hB5
          clear hmy hB5 hbc
          go_wp2
          go_roundw
          case rel => exact ⟨q + 1, by omega, by go_num, HB2⟩
          case measure => simp [intOf]; omega
        | true =>
          have hb5 := hbc.below hE5 hbc.lt
          have c0 := hb5.cell 0
          have c1 := hb5.cell 1
          have c2 := hb5.cell 2
          have c3 := hb5.cell 3
          have c4 := hb5.cell 4
          have c5 := hb5.cell 5
          have c6 := hb5.cell 6
          obtain ⟨v, hv⟩ : ∃ v, v = simP src ysrc := ⟨_, rfl⟩
          have HMT := Lib.hid hmy
          clear hmy hbc hb5
          by_cases hgt : (st q).2 < v
          · have HB2 : Hid (∀ w6, Ext w5 w6 → BestW w ((w6.setCell ⟨ga, 0, none⟩ (.int .i64 (q : Int))).setCell ⟨gm, 0, none⟩ (.int .i64 v)) gw gm ga Aw mw cw (wordsS src) (st (q + 1))) := fun w6 hE6 => by
              have h1 : st (q + 1) = (q, v) := by
                rw [HSQ.out]; unfold bestS; rw [if_pos ⟨HT.out, HMT.out, by show _ < simP src ysrc; rw [← hv]; exact hgt⟩]
                rw [hv]
              rw [h1]
              exact (hB5.more hE6).set q v
            have HCO := Lib.hid (consider_yes (q : Int) ⟨⟨id, ysrc, tgt, ycom, yfl, yst, yfd⟩, yhc, yhf, yhd⟩ (st q).2 v ((st q).1 : Int) (hB5.bw.cell 0) hB5.wo.sl (hB5.bm.cell 0) (hB5.ba.cell 0) (hB5.bm.frozen 0) (hB5.ba.frozen 0) hB5.ne hv HYS.out hgt)
            unfold entV at HCO
            dsimp only at HCO
            clear hB5 hv hgt
            go_wp2_with (first
              | (go_at_call 60; refine Hid.out ?_))
            refine Hid.mk_ ((HCO.out).mono ?_)
            rintro e w7 ⟨rfl, w6, hE6, rfl⟩
            have HB3 := Lib.hid (HB2.out w6 hE6)
            go_wp2
            go_roundw
            case rel => exact ⟨q + 1, by omega, by go_num, HB3⟩
            case measure => simp [intOf]; omega
          · have HB2 : Hid (∀ w6, Ext w5 w6 → BestW w w6 gw gm ga Aw mw cw (wordsS src) (st (q + 1))) := fun w6 hE6 => by
              have h1 : st (q + 1) = st q := by
                rw [HSQ.out]; unfold bestS; rw [if_neg (fun e => hgt (by have h9 := e.2.2; rw [hv]; exact h9))]
              rw [h1]
              exact hB5.more hE6
            have HCO := Lib.hid (consider_no (ga := ga) (q : Int) ⟨⟨id, ysrc, tgt, ycom, yfl, yst, yfd⟩, yhc, yhf, yhd⟩ (st q).2 v (hB5.bw.cell 0) hB5.wo.sl (hB5.bm.cell 0) hv HYS.out hgt)
            unfold entV at HCO
            dsimp only at HCO
            clear hB5 hv hgt
            go_wp2_with (first
              | (go_at_call 60; refine Hid.out ?_))
            refine Hid.mk_ ((HCO.out).mono ?_)
            rintro e w7 ⟨rfl, hE6⟩
            have HB3 := Lib.hid (HB2.out w7 hE6)
            go_wp2
            go_roundw
            case rel => exact ⟨q + 1, by omega, by go_num, HB3⟩
            case measure => simp [intOf]; omega
    · have hi1 : ¬ (q : Int) < (em : Int) := by omega
      obtain rfl : q = em := by omega
      have c1 := HB.out.ba.cell 0
      have c2 := HB.out.bm.cell 0
      have HE := Lib.hid (HB.out.ext)
      obtain ⟨hbl1, hbl2, hbl3⟩ := HBL.out q
      go_wp2
      go_quiet (fail)
      go_wp2
      go_ret2
      exact ⟨rfl, HE.out.drewN _⟩
end
end Go.Proofs.YtcdpmgdocgddcaaDoor

/- The two closures that say which entries may be reused; Contains of the library, and the reference's has. -/
namespace Go.Proofs.YtcdpmgdocgddcaaDoor
open Go.RowKit
set_option maxRecDepth 100000
attribute [local go_sem] ext_refl_t ext_alloc_t ext_drew_t ext_drewN_t ext_alloc2_t ext_alloc3_t ext_alloc4_t ext_alloc5_t ext_alloc6_t ext_alloc7_t ext_alloc8_t ext_alloc1d_t ext_alloc2d_t ext_alloc3d_t ext_alloc4d_t
theorem inB_take {l : List ByteArray} {s : ByteArray} {q : Nat} (h : inB (l.take q) s = false) (hq : q < l.length) : inB (l.take (q + 1)) s = decide (l[q] = s) := by
  rw [List.take_succ_eq_append_getElem hq]
  unfold inB at h ⊢
  rw [List.any_append, h, Bool.false_or]
  simp
theorem inB_more {l : List ByteArray} {s : ByteArray} {q : Nat} (h : inB (l.take q) s = true) : inB l s = true := by
  rw [inB_iff] at h ⊢
  exact List.mem_of_mem_take h
/-- What Index gives. -/
def IdxS (l : List ByteArray) (s : ByteArray) (z : Int) : Prop := (inB l s = true ∧ 0 ≤ z ∧ z ≤ 140737488355328) ∨ (inB l s = false ∧ z = -1)
section
variable {w : World}
set_option maxHeartbeats 1600000 in
theorem indexS_any {A : Option Addr} {m : Nat} (c : Nat) {l : List ByteArray} (hs : SlC strF 1 w A m l) (s : ByteArray) :
    Calls Tryd.prog 62 #[.slice A m c, .string s] w fun e w' => RetZ (IdxS l s) e ∧ w = w' := by
  have HL := Lib.hid hs.len
  have hle := hs.le
  go_enter Tryd.func62, Tryd.ntmps62
  go_wp2
  go_loop [8] (fun v => ∃ q : Nat, q ≤ m ∧ v = .int .i64 q ∧ Hid (inB (l.take q) s = false)) (fun v => m - (intOf v).toNat)
  case atStart => exact ⟨0, Nat.zero_le _, rfl, rfl⟩
  case round =>
    obtain ⟨q, hq, rfl, HC⟩ := hrel
    by_cases hlt : q < m
    · obtain ⟨b, off, rfl, _, hcs⟩ := hs.at_ hlt (by omega)
      have hql : q < l.length := by rw [← HL.out]; exact hlt
      obtain ⟨x, hx⟩ : ∃ x, x = l[q] := ⟨_, rfl⟩
      have x0 := hcs q hql 0 (by omega)
      simp only [← hx, strF, List.getElem_cons_zero, Nat.mul_one, Nat.add_zero] at x0
      have HT := Lib.hid (inB_take HC.out hql)
      have HX := Lib.hid hx
      have hi1 : (q : Int) < (m : Int) := by omega
      clear hcs hx
      by_cases hxs : x = s
      · have e1 : (x.toList == s.toList) = true := by rw [hxs]; simp
        have e2 : (s.toList == x.toList) = true := by rw [hxs]; simp
        have HF : Hid (inB l s = true) := inB_more (q := q + 1) (by rw [HT.out, ← HX.out]; exact decide_eq_true hxs)
        clear hxs
        go_wp2
        go_ret
        exact ⟨⟨_, rfl, .inl ⟨HF.out, by omega, by omega⟩⟩, rfl⟩
      · have e1 : (x.toList == s.toList) = false := by rw [beq_eq_false_iff_ne]; exact fun e => hxs (toList_iff.1 e)
        have e2 : (s.toList == x.toList) = false := by rw [beq_eq_false_iff_ne]; exact fun e => hxs (toList_iff.1 e).symm
        have HN : Hid (inB (l.take (q + 1)) s = false) := by show _ = _; rw [HT.out, ← HX.out]; exact decide_eq_false hxs
        clear hxs
        go_wp2
        go_round
        case rel => exact ⟨q + 1, by omega, by go_num, HN⟩
        case measure => simp [intOf]; omega
    · have hi1 : ¬ (q : Int) < (m : Int) := by omega
      have HF : Hid (inB l s = false) := by
        have := HC.out
        rw [List.take_of_length_le (by rw [← HL.out]; omega)] at this
        exact this
      go_wp2
      go_ret
      exact ⟨⟨_, rfl, .inr ⟨HF.out, rfl⟩⟩, rfl⟩
set_option maxHeartbeats 1600000 in
theorem rhas_any {A : Option Addr} {m : Nat} (c : Nat) {l : List ByteArray} (hs : SlC strF 1 w A m l) (s : ByteArray) :
    Calls Tryd.prog 40 #[.slice A m c, .string s] w fun e w' => e = .returned (.bool (inB l s)) ∧ w = w' := by
  have HL := Lib.hid hs.len
  have hle := hs.le
  go_enter Tryd.func40, Tryd.ntmps40
  go_wp2
  go_loop [5] (fun v => ∃ q : Nat, q ≤ m ∧ v = .int .i64 q ∧ Hid (inB (l.take q) s = false)) (fun v => m - (intOf v).toNat)
  case atStart => exact ⟨0, Nat.zero_le _, rfl, rfl⟩
  case round =>
    obtain ⟨q, hq, rfl, HC⟩ := hrel
    by_cases hlt : q < m
    · obtain ⟨b, off, rfl, _, hcs⟩ := hs.at_ hlt (by omega)
      have hql : q < l.length := by rw [← HL.out]; exact hlt
      obtain ⟨x, hx⟩ : ∃ x, x = l[q] := ⟨_, rfl⟩
      have x0 := hcs q hql 0 (by omega)
      simp only [← hx, strF, List.getElem_cons_zero, Nat.mul_one, Nat.add_zero] at x0
      have HT := Lib.hid (inB_take HC.out hql)
      have HX := Lib.hid hx
      have hi1 : (q : Int) < (m : Int) := by omega
      clear hcs hx
      by_cases hxs : x = s
      · have e1 : (x.toList == s.toList) = true := by rw [hxs]; simp
        have e2 : (s.toList == x.toList) = true := by rw [hxs]; simp
        have HF : Hid (inB l s = true) := inB_more (q := q + 1) (by rw [HT.out, ← HX.out]; exact decide_eq_true hxs)
        clear hxs
        go_wp2
        go_ret
        exact ⟨by rw [HF.out]; rfl, rfl⟩
      · have e1 : (x.toList == s.toList) = false := by rw [beq_eq_false_iff_ne]; exact fun e => hxs (toList_iff.1 e)
        have e2 : (s.toList == x.toList) = false := by rw [beq_eq_false_iff_ne]; exact fun e => hxs (toList_iff.1 e).symm
        have HN : Hid (inB (l.take (q + 1)) s = false) := by show _ = _; rw [HT.out, ← HX.out]; exact decide_eq_false hxs
        clear hxs
        go_wp2
        go_round
        case rel => exact ⟨q + 1, by omega, by go_num, HN⟩
        case measure => simp [intOf]; omega
    · have hi1 : ¬ (q : Int) < (m : Int) := by omega
      have HF : Hid (inB l s = false) := by
        have := HC.out
        rw [List.take_of_length_le (by rw [← HL.out]; omega)] at this
        exact this
      go_wp2
      go_ret
      exact ⟨by rw [HF.out]; rfl, rfl⟩
set_option maxHeartbeats 1600000 in
theorem containsS_any {A : Option Addr} {m : Nat} (c : Nat) {l : List ByteArray} (hs : SlC strF 1 w A m l) (s : ByteArray) :
    Calls Tryd.prog 39 #[.slice A m c, .string s] w fun e w' => e = .returned (.bool (inB l s)) ∧ w = w' := by
  go_enter Tryd.func39, Tryd.ntmps39
  go_wp2_with (first
    | (go_at_call 62; refine Hid.out ?_))
  refine Hid.mk_ ((indexS_any c hs s).mono ?_)
  rintro e w1 ⟨⟨z, rfl, hz⟩, rfl⟩
  rcases hz with ⟨h1, h2, h3⟩ | ⟨h1, rfl⟩
  · have H1 := Lib.hid h1
    clear h1
    go_wp2
    go_ret
    exact ⟨by rw [H1.out]; rfl, rfl⟩
  · have H1 := Lib.hid h1
    clear h1
    go_wp2
    go_ret
    exact ⟨by rw [H1.out]; rfl, rfl⟩
set_option maxHeartbeats 1600000 in
theorem mayCand_any {gb : Nat} {A : Option Addr} {m c : Nat} {l : List ByteArray} (hb : w.cell? ⟨gb, 0, none⟩ = some (.slice A m c)) (hs : SlC strF 1 w A m l) (y : Ent) :
    Calls Tryd.prog 38 #[entV y, .pointer (some ⟨gb, 0, none⟩)] w fun e w' => e = .returned (.bool (mayP l y.p)) ∧ Ext w w' := by
  have hlt := World.block_lt_of_cell? w _ hb
  obtain ⟨⟨id, src, tgt, com, fl, st, fd⟩, hc, hf, hd⟩ := y
  unfold entV mayP
  dsimp only at *
  have HS := Lib.hid hs
  have KB := laters hb
  clear hb hs
  have hE1 : Ext w (w.alloc (Obj.cells #[.string id, .string src, .string tgt, .slice hc.A hc.m hc.c, .slice hf.A hf.m hf.c, .int .i64 st, .slice hd.A hd.m hd.c] 35)) := (Ext.refl w).alloc _
  go_enter Tryd.func38, Tryd.ntmps38
  go_wp2_with (first
    | (go_at_call 39; refine Hid.out ?_))
  refine Hid.mk_ ((containsS_any c (HS.out.ext hE1) id).mono ?_)
  rintro e w1 ⟨rfl, rfl⟩
  go_wp2
  go_ret
  exact ⟨rfl, hE1⟩
end
open Classical in
theorem SM.looks {w : World} {bm n : Nat} {S : List ByteArray} (h : SM w bm n S) (s : ByteArray) (hs : s.size ≤ maxLen) : (Instr.lookup 54 (.map (some bm)) (.string s) false).run Tryd.prog w = .ok (.bool (inB S s)) w := by
  rw [h.look s hs]
  have : decide (s ∈ S) = inB S s := by
    by_cases h : s ∈ S
    · rw [decide_eq_true h, inB_iff.2 h]
    · rw [decide_eq_false h, inB_not.2 h]
  rw [this]
section
variable {w : World}
set_option maxHeartbeats 1600000 in
theorem mayFresh_any {gb U bt n : Nat} {tk : List ByteArray} (hb : w.cell? ⟨gb, 0, none⟩ = some (.pointer (some ⟨U, 0, none⟩))) (ht : w.cell? ⟨U, 12, none⟩ = some (.map (some bt))) (hm : SM w bt n tk) (y : Ent) (hy : GoodStr y.p.id) :
    Calls Tryd.prog 49 #[entV y, .pointer (some ⟨gb, 0, none⟩)] w fun e w' => e = .returned (.bool (mayP tk y.p)) ∧ Ext w w' := by
  have hlt := World.block_lt_of_cell? w _ hb
  have hlt2 := World.block_lt_of_cell? w _ ht
  obtain ⟨⟨id, src, tgt, com, fl, st, fd⟩, hc, hf, hd⟩ := y
  unfold entV mayP
  dsimp only at *
  have hid : id.size ≤ maxLen := by unfold GoodStr at hy; unfold maxLen; omega
  have HLK : Hid (∀ W, Ext w W → (Instr.lookup 54 (.map (some bt)) (.string id) false).run Tryd.prog W = .ok (.bool (inB tk id)) W) := fun W hE => (hm.ext hE).looks id hid
  have KB := laters hb
  have KT := laters ht
  have hE1 : Ext w (w.alloc (Obj.cells #[.string id, .string src, .string tgt, .slice hc.A hc.m hc.c, .slice hf.A hf.m hf.c, .int .i64 st, .slice hd.A hd.m hd.c] 35)) := (Ext.refl w).alloc _
  have KL := HLK.out
  clear hb ht hm hy hid
  go_enter Tryd.func49, Tryd.ntmps49
  go_wp2
  go_quiet (fail)
  go_wp2
  go_ret
  exact ⟨rfl, hE1.drewN _⟩
end
end Go.Proofs.YtcdpmgdocgddcaaDoor
