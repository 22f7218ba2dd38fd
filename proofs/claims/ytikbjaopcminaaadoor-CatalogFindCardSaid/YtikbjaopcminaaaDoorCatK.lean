/- The copy of a catalog. -/
import Derived.Test.YtikbjaopcminaaaDoorCatC
import Derived.Test.YtikbjaopcminaaaDoorCatV5
namespace Go.Proofs.YtikbjaopcminaaaDoor
open Go.RowKit
set_option maxRecDepth 100000

theorem Apart.turn {α : Type} {cs : α → List Value} {k by_ : Nat} {good : α → Prop} {w : World} {h : SlH} {l : List α} {r r' : Option Nat} {B : Nat} (ha : Apart r h) (hh : HW cs k by_ good w h l) (hN : NewOr B r r') (hB : w.heap.size ≤ B) : Apart r' h := by
  rcases ha with h0 | h0 | h0
  · exact .inl h0
  · exact .inr (.inl h0)
  · cases hr : r' with
    | none => cases hA : ob h.A with
      | none => exact .inr (.inl hA)
      | some k => exact .inr (.inr (by rw [hA]; simp))
    | some j =>
      rcases hN j hr with h1 | h1
      · exact hh.lt (fun g e => by injection e with e; omega)
      · rw [← h1]; exact .inr (.inr h0)
theorem EntA.turn {w : World} {x : Ent} {r r' : Option Nat} {B : Nat} (ha : EntA r x) (hx : EntW w x) (hN : NewOr B r r') (hB : w.heap.size ≤ B) : EntA r' x :=
  ⟨ha.1.turn hx.c hN hB, ha.2.1.turn hx.f hN hB, ha.2.2.turn hx.d hN hB⟩
/-- A catalog whose row of entries is the call's own. -/
structure CatO (w : World) (base : Nat) (y : Cat) : Prop where
  tag : GoodStr y.tag
  c : StrsW w y.c y.com
  d : FdsW w y.d y.fd
  own : OsC entC 30 7 w base y.e.A y.e.m y.e.c y.es
  each : ∀ z ∈ y.es, EntW w z
  apE : ∀ z ∈ y.es, EntA (ob y.e.A) z
  apC : Apart (ob y.e.A) y.c
  apD : Apart (ob y.e.A) y.d
  new : ∀ j, j < base → Apart (some j) y.c ∧ Apart (some j) y.d ∧ ∀ z ∈ y.es, EntA (some j) z
theorem CatO.w {w : World} {base : Nat} {y : Cat} (h : CatO w base y) (hn : y.e.m ≤ 1000000) : CatW w y := ⟨h.tag, h.c, h.d, ⟨h.own.sl, h.own.cap, by omega, h.each⟩⟩
theorem CatO.ext {w w' : World} {base : Nat} {y : Cat} (h : CatO w base y) (hE : Ext w w') : CatO w' base y := ⟨h.tag, h.c.ext hE, h.d.ext hE, h.own.ext hE, fun z hz => (h.each z hz).ext hE, h.apE, h.apC, h.apD, h.new⟩

attribute [local go_sem] ext_refl_t ext_alloc_t ext_drew_t ext_drewN_t ext_alloc2_t ext_alloc3_t ext_alloc4_t ext_alloc5_t ext_alloc6_t ext_alloc7_t ext_alloc8_t ext_alloc1d_t ext_alloc2d_t ext_alloc3d_t ext_alloc4d_t
section
variable {w : World}
set_option maxHeartbeats 12800000 in
theorem clone_any {x : Cat} (hx : CatW w x) (hn : x.e.m ≤ 1000) :
    Calls Tryd.prog 63 #[catV x] w fun e w' => (∃ y : Cat, e = .returned (catV y) ∧ y.p = x.p ∧ CatO w' w.heap.size y) ∧ Ext w w' := by
  obtain ⟨tag, com, fd, es, hc, hd, ⟨eA, em, ec⟩⟩ := x
  obtain ⟨gtag, kc, kd, ke⟩ := hx
  unfold catV
  dsimp only at *
  have HL := Lib.hid ke.sl.len
  dsimp only at HL
  obtain ⟨W0, hW0⟩ : ∃ W0, W0 = ((w.alloc (Obj.cells #[.string tag, .slice hc.A hc.m hc.c, .slice hd.A hd.m hd.c, .slice eA em ec] 28)).alloc (Obj.cells #[.string ⟨#[]⟩, .slice none 0 0, .slice none 0 0, .slice none 0 0] 28)).alloc (Obj.cells #[.string tag, .slice hc.A hc.m hc.c, .slice hd.A hd.m hd.c, .slice eA em ec] 28) := ⟨_, rfl⟩
  have hb0 : Blk W0 w.heap.size 28 #[.string tag, .slice hc.A hc.m hc.c, .slice hd.A hd.m hd.c, .slice eA em ec] := by
    rw [hW0]; exact ((Blk.new w _ _).alloc _).alloc _
  have hb1 : Blk W0 (w.heap.size + 1) 28 #[.string ⟨#[]⟩, .slice none 0 0, .slice none 0 0, .slice none 0 0] := by
    have h := (Blk.new (w.alloc (Obj.cells #[.string tag, .slice hc.A hc.m hc.c, .slice hd.A hd.m hd.c, .slice eA em ec] 28)) 28 #[.string ⟨#[]⟩, .slice none 0 0, .slice none 0 0, .slice none 0 0]).alloc (Obj.cells #[.string tag, .slice hc.A hc.m hc.c, .slice hd.A hd.m hd.c, .slice eA em ec] 28)
    rw [hW0]; simpa using h
  have hb2 : Blk W0 (w.heap.size + 1 + 1) 28 #[.string tag, .slice hc.A hc.m hc.c, .slice hd.A hd.m hd.c, .slice eA em ec] := by
    have h := Blk.new ((w.alloc (Obj.cells #[.string tag, .slice hc.A hc.m hc.c, .slice hd.A hd.m hd.c, .slice eA em ec] 28)).alloc (Obj.cells #[.string ⟨#[]⟩, .slice none 0 0, .slice none 0 0, .slice none 0 0] 28)) 28 #[.string tag, .slice hc.A hc.m hc.c, .slice hd.A hd.m hd.c, .slice eA em ec]
    rw [hW0]; simpa using h
  have hEW0 : Ext w W0 := by rw [hW0]; exact (((Ext.refl w).alloc _).alloc _).alloc _
  have hsz0 : W0.heap.size = w.heap.size + 3 := by rw [hW0]; simp
  go_enter Tryd.func63, Tryd.ntmps63
  go_wp2
  rw [← hW0]
  obtain ⟨g, hg⟩ : ∃ g, g = w.heap.size := ⟨_, rfl⟩
  rw [← hg] at hb0 hb1 hb2 hsz0 ⊢
  obtain ⟨g1, hg1⟩ : ∃ g1, g1 = g + 1 := ⟨_, rfl⟩
  obtain ⟨g2, hg2⟩ : ∃ g2, g2 = g1 + 1 := ⟨_, rfl⟩
  rw [← hg1] at hb1 hb2 ⊢
  rw [← hg2] at hb2 ⊢
  obtain ⟨B, hB⟩ : ∃ B, B = W0.heap.size := ⟨_, rfl⟩
  have HORD : Hid (w.heap.size ≤ g ∧ g < g1 ∧ g1 < g2 ∧ g2 < B ∧ B = W0.heap.size) := by
    show _ ∧ _
    refine ⟨?_, ?_, ?_, ?_, ?_⟩ <;> omega
  have X1 := laters (show _ = some (.slice hc.A hc.m hc.c) from hb0.cell 1)
  have X2 := laters (show _ = some (.slice hd.A hd.m hd.c) from hb0.cell 2)
  have X3 := laters (show _ = some (.slice eA em ec) from hb0.cell 3)
  have hEd : Ext W0 W0.drew := (Ext.refl _).drew
  have hEwd : Ext w W0.drew := hEW0.drew
  clear hW0 hg hsz0 hg1 hg2 hB
  go_cut [] from 7 (fun wx => ∃ (w3 : World) (h1 h2 : SlH), wx = ((w3.setCell ⟨g2, 1, none⟩ (.slice h1.A h1.m h1.c)).setCell ⟨g2, 2, none⟩ (.slice h2.A h2.m h2.c)).setCell ⟨g2, 3, none⟩ (.slice none 0 0) ∧ Ext W0 w3 ∧ StrsW w3 h1 com ∧ FdsW w3 h2 fd ∧
      (∀ k, ob h1.A = some k → W0.heap.size ≤ k) ∧ (∀ k, ob h2.A = some k → W0.heap.size ≤ k))
  case first =>
    first
    | (go_region_law (first
        | (go_simp; go_at_call 88; refine (cloneS_any (kc.ext hEwd)).mono ?_; rintro e w1 ⟨⟨a1, m1, c1⟩, rfl, k1, o1, hE1⟩; have hE01 := hEd.trans hE1; have hEw1 := hEwd.trans hE1)
        | (go_simp; go_at_call 77; refine (cloneF_any (kd.ext hEw1)).mono ?_; rintro e w3 ⟨⟨a3, m3, c3⟩, rfl, k3, o3, hE3⟩; have hE03 := hE01.trans hE3; have hEw3 := hEw1.trans hE3; have hb3 := hb2.below hE03 hb2.lt; have d1 := hb3.cell 1; have d2 := hb3.cell 2; have d3 := hb3.cell 3; have f1 := hb3.frozen 1; have f2 := hb3.frozen 2; have f3 := hb3.frozen 3)
        | fail))
    | fail
    all_goals
      go_wp2
      go_meet
      case rel => exact ⟨w3, ⟨a1, m1, c1⟩, ⟨a3, m3, c3⟩, rfl, hE03, k1.ext hE3, k3, fun k hk => o1.ge k hk, fun k hk => Nat.le_trans hE01.size_le (o3.ge k hk)⟩
  case rest =>
    obtain ⟨w3, h1, h2, rfl, hE3, q1, q2, n1, n2⟩ := hcut
    obtain ⟨o1, o2, o3, o4, o5⟩ := HORD.out
    rw [← o5] at n1 n2
    have hbs := (((hb2.below hE3 hb2.lt).set_ 1 (.slice h1.A h1.m h1.c)).set_ 2 (.slice h2.A h2.m h2.c)).set_ 3 (.slice none 0 0)
    have hrs := (((hb1.below hE3 hb1.lt).far (p := ⟨g2, 1, none⟩) (by show g1 ≠ g2; omega) (.slice h1.A h1.m h1.c)).far (p := ⟨g2, 2, none⟩) (by show g1 ≠ g2; omega) (.slice h2.A h2.m h2.c)).far (p := ⟨g2, 3, none⟩) (by show g1 ≠ g2; omega) (.slice none 0 0)
    have hcs0 := (((hb0.below hE3 hb0.lt).far (p := ⟨g2, 1, none⟩) (by show g ≠ g2; omega) (.slice h1.A h1.m h1.c)).far (p := ⟨g2, 2, none⟩) (by show g ≠ g2; omega) (.slice h2.A h2.m h2.c)).far (p := ⟨g2, 3, none⟩) (by show g ≠ g2; omega) (.slice none 0 0)
    have hwg : w.heap.size ≤ g2 := by omega
    have HEC : Hid (Ext w (((w3.setCell ⟨g2, 1, none⟩ (.slice h1.A h1.m h1.c)).setCell ⟨g2, 2, none⟩ (.slice h2.A h2.m h2.c)).setCell ⟨g2, 3, none⟩ (.slice none 0 0))) := (((hEW0.trans hE3).set_ (p := ⟨g2, 1, none⟩) hwg _).set_ (p := ⟨g2, 2, none⟩) hwg _).set_ (p := ⟨g2, 3, none⟩) hwg _
    have HQ1 : Hid (StrsW (((w3.setCell ⟨g2, 1, none⟩ (.slice h1.A h1.m h1.c)).setCell ⟨g2, 2, none⟩ (.slice h2.A h2.m h2.c)).setCell ⟨g2, 3, none⟩ (.slice none 0 0)) h1 com) := ((q1.set_ (p := ⟨g2, 1, none⟩) (Apart.of_ge n1 o4) _).set_ (p := ⟨g2, 2, none⟩) (Apart.of_ge n1 o4) _).set_ (p := ⟨g2, 3, none⟩) (Apart.of_ge n1 o4) _
    have HQ2 : Hid (FdsW (((w3.setCell ⟨g2, 1, none⟩ (.slice h1.A h1.m h1.c)).setCell ⟨g2, 2, none⟩ (.slice h2.A h2.m h2.c)).setCell ⟨g2, 3, none⟩ (.slice none 0 0)) h2 fd) := ((q2.set_ (p := ⟨g2, 1, none⟩) (Apart.of_ge n2 o4) _).set_ (p := ⟨g2, 2, none⟩) (Apart.of_ge n2 o4) _).set_ (p := ⟨g2, 3, none⟩) (Apart.of_ge n2 o4) _
    have hszc : B ≤ (((w3.setCell ⟨g2, 1, none⟩ (.slice h1.A h1.m h1.c)).setCell ⟨g2, 2, none⟩ (.slice h2.A h2.m h2.c)).setCell ⟨g2, 3, none⟩ (.slice none 0 0)).heap.size := by simp; have := hE3.size_le; omega
    obtain ⟨Wc, hWc⟩ : ∃ Wc, Wc = ((w3.setCell ⟨g2, 1, none⟩ (.slice h1.A h1.m h1.c)).setCell ⟨g2, 2, none⟩ (.slice h2.A h2.m h2.c)).setCell ⟨g2, 3, none⟩ (.slice none 0 0) := ⟨_, rfl⟩
    rw [← hWc] at hbs hrs hcs0 HEC HQ1 HQ2 hszc ⊢
    have y3 : Wc.cell? ⟨g, 3, none⟩ = some (.slice eA em ec) := hcs0.cell 3
    have HBS : Hid (Blk Wc g2 28 #[.string tag, .slice h1.A h1.m h1.c, .slice h2.A h2.m h2.c, .slice none 0 0]) := hbs
    have HRS : Hid (Blk Wc g1 28 #[.string ⟨#[]⟩, .slice none 0 0, .slice none 0 0, .slice none 0 0]) := hrs
    clear hWc q1 q2 hE3 X1 X2 X3 hb0 hb1 hb2 hbs hrs hcs0 hEd hEwd
    go_wp2
    go_loopw [5, 19] (fun _ i wr => ∃ (q : Nat) (A : Option Addr) (m c : Nat) (L : List Ent), q ≤ em ∧ m = q ∧ i = .int .i64 q ∧ OsC entC 30 7 wr B A m c L ∧ Hid (L.map Ent.p = (es.take q).map Ent.p) ∧ Blk wr g2 28 #[.string tag, .slice h1.A h1.m h1.c, .slice h2.A h2.m h2.c, .slice A m c] ∧ Blk wr g1 28 #[.string ⟨#[]⟩, .slice none 0 0, .slice none 0 0, .slice none 0 0] ∧
        Ext w wr ∧ StrsW wr h1 com ∧ FdsW wr h2 fd ∧ Hid (∀ z ∈ L, EntW wr z ∧ EntA (ob A) z ∧ ∀ j, j < B → EntA (some j) z) ∧ Apart (ob A) h1 ∧ Apart (ob A) h2 ∧ B ≤ wr.heap.size) (fun _ i _ => em - (intOf i).toNat)
    case atStart => exact ⟨0, none, 0, 0, [], Nat.zero_le _, rfl, rfl, OsC.nil_ entC_len entC_cell, Lib.hid rfl, HBS.out, HRS.out, HEC.out, HQ1.out, HQ2.out, fun z hz => (by cases hz), Apart.of_new n1 (fun _ h => by cases h), Apart.of_new n2 (fun _ h => by cases h), hszc⟩
    case round =>
      obtain ⟨q, A, m, c, L, hq, hmq, rfl, ho, HLp, hbo, hbr, hE, hq1, hq2, HZ, ha1, ha2, hBw⟩ := hrel
      by_cases hlt : q < em
      · have hi1 : (q : Int) < (em : Int) := by omega
        obtain ⟨b, off, e0, hbl, hcs⟩ := (ke.sl.ext hE).at_ hlt (by omega)
        dsimp only at e0
        subst e0
        have hlt1 : q < es.length := by rw [← HL.out]; exact hlt
        obtain ⟨y, hyq⟩ : ∃ y, y = es[q] := ⟨_, rfl⟩
        have hy := ke.good _ (List.getElem_mem hlt1)
        rw [← hyq] at hy
        have z0 := hcs q hlt1 0 (by omega)
        have z1 := hcs q hlt1 1 (by omega)
        have z2 := hcs q hlt1 2 (by omega)
        have z3 := hcs q hlt1 3 (by omega)
        have z4 := hcs q hlt1 4 (by omega)
        have z5 := hcs q hlt1 5 (by omega)
        have z6 := hcs q hlt1 6 (by omega)
        simp only [← hyq, entC, List.getElem_cons_zero, List.getElem_cons_succ, Nat.add_zero, ← Nat.add_assoc] at z0 z1 z2 z3 z4 z5 z6
        have HY := Lib.hid hyq
        clear hcs hyq
        have HMQ := Lib.hid hmq
        have hmle : m ≤ 1000 := by omega
        clear hmq
        have hEx : Ext wr (wr.alloc (Obj.cells #[.string y.p.id, .string y.p.src, .string y.p.tgt, .slice y.c.A y.c.m y.c.c, .slice y.f.A y.f.m y.f.c, .int .i64 y.p.st, .slice y.d.A y.d.m y.d.c] 30)) := (Ext.refl _).alloc _
        have hbx := Blk.new wr 30 #[.string y.p.id, .string y.p.src, .string y.p.tgt, .slice y.c.A y.c.m y.c.c, .slice y.f.A y.f.m y.f.c, .int .i64 y.p.st, .slice y.d.A y.d.m y.d.c]
        have hbo1 := hbo.below hEx hbo.lt
        have hsz1 : (wr.alloc (Obj.cells #[.string y.p.id, .string y.p.src, .string y.p.tgt, .slice y.c.A y.c.m y.c.c, .slice y.f.A y.f.m y.f.c, .int .i64 y.p.st, .slice y.d.A y.d.m y.d.c] 30)).heap.size = wr.heap.size + 1 := by simp
        have hob1 : ∀ j, ob A = some j → j < wr.heap.size := ho.lt
        go_wp2
        obtain ⟨Wx, hWx⟩ : ∃ Wx, Wx = wr.alloc (Obj.cells #[.string y.p.id, .string y.p.src, .string y.p.tgt, .slice y.c.A y.c.m y.c.c, .slice y.f.A y.f.m y.f.c, .int .i64 y.p.st, .slice y.d.A y.d.m y.d.c] 30) := ⟨_, rfl⟩
        rw [← hWx] at hEx hbx hbo1 hsz1 ⊢
        obtain ⟨gx, hgx⟩ : ∃ gx, gx = wr.heap.size := ⟨_, rfl⟩
        rw [← hgx] at hbx hsz1 ⊢
        have HGX := Lib.hid hgx
        have HSZ1 := Lib.hid hsz1
        have X0 := laters (show _ = some (.string y.p.id) from hbx.cell 0)
        have X1 := laters (show _ = some (.string y.p.src) from hbx.cell 1)
        have X2 := laters (show _ = some (.string y.p.tgt) from hbx.cell 2)
        have X3 := laters (show _ = some (.slice y.c.A y.c.m y.c.c) from hbx.cell 3)
        have X4 := laters (show _ = some (.slice y.f.A y.f.m y.f.c) from hbx.cell 4)
        have X5 := laters (show _ = some (.int .i64 y.p.st) from hbx.cell 5)
        have X6 := laters (show _ = some (.slice y.d.A y.d.m y.d.c) from hbx.cell 6)
        have XO := laters (show _ = some (.slice A m c) from hbo1.cell 3)
        have hEd : Ext Wx Wx.drew := (Ext.refl _).drew
        have hExd : Ext wr Wx.drew := hEx.drew
        have hEwd : Ext w Wx.drew := hE.trans hExd
        clear hWx hgx hsz1 hbx z0 z1 z2 z3 z4 z5 z6
        first
        | (go_region_law (first
            | (go_simp; go_at_call 68; refine (copied_any (x := y) (hy.ext hEwd)).mono ?_; rintro e w2 ⟨z, rfl, hzp, hzW, hE2, hzA⟩; have HZP := Lib.hid hzp; clear hzp; have hE02 := hEd.trans hE2; have hEr2 := hExd.trans hE2; unfold entV; have hEal : Ext w2 (w2.alloc (Obj.cells #[.string z.p.id, .string z.p.src, .string z.p.tgt, .slice z.c.A z.c.m z.c.c, .slice z.f.A z.f.m z.f.c, .int .i64 z.p.st, .slice z.d.A z.d.m z.d.c] 30)) := (Ext.refl _).alloc _; have hEra := hEr2.trans hEal; have hE0a := hE02.trans hEal; have hnew : SlC entC 7 (w2.alloc (Obj.cells #[.string z.p.id, .string z.p.src, .string z.p.tgt, .slice z.c.A z.c.m z.c.c, .slice z.f.A z.f.m z.f.c, .int .i64 z.p.st, .slice z.d.A z.d.m z.d.c] 30)) (some ⟨w2.heap.size, 0, none⟩) 1 [z] := SlC.new_ (cs := entC) w2 [z] entC_len (by simp) _ rfl (0, 0) 1 rfl 30)
            | (refine step_appC einfo_ent rfl _ _ rfl (ho.ext hEra) rfl hnew rfl (by omega) (Nat.le_trans hBw hEra.size_le) ?_; intro A2 m2 c2 w3 ho3 hg3 hat3; have hbo3 := (hbo.below hEra hbo.lt).grown hg3 (fun e => by have h9 := ho.ge g2 e.symm; omega); have d3 := hbo3.cell 3; have f3 := hbo3.frozen 3)
            | fail))
        | fail
        all_goals
          have hm2 : m2 = q + 1 := by rw [ho3.len, List.length_append, ← ho.len, HMQ.out]; rfl
          have HM2 := Lib.hid hm2
          clear hm2
          have hg2A2 : ∀ j, ob A2 = some j → B ≤ j := ho3.ge
          have hne2 : ob A2 = none ∨ ob A2 ≠ some g2 := by
            cases hA2 : ob A2 with
            | none => exact .inl rfl
            | some j => exact .inr (fun e => by injection e with e; have h9 := hg2A2 j hA2; omega)
          have hEw3 : Ext w w3 := (hE.trans hEra).grown hg3 (fun k hk => by have h9 := ho.ge k hk; omega)
          have hEw4 : Ext w (w3.setCell ⟨g2, 3, none⟩ (.slice A2 m2 c2)) := hEw3.set_ (p := ⟨g2, 3, none⟩) hwg _
          have hzz : ∀ v ∈ L ++ [z], EntW (w3.setCell ⟨g2, 3, none⟩ (.slice A2 m2 c2)) v ∧ EntA (ob A2) v ∧ ∀ j, j < B → EntA (some j) v := by
            intro v hv
            have h1 : EntW (w2.alloc (Obj.cells #[.string z.p.id, .string z.p.src, .string z.p.tgt, .slice z.c.A z.c.m z.c.c, .slice z.f.A z.f.m z.f.c, .int .i64 z.p.st, .slice z.d.A z.d.m z.d.c] 30)) v ∧ EntA (ob A) v ∧ ∀ j, j < B → EntA (some j) v := by
              rcases List.mem_append.1 hv with hv | hv
              · obtain ⟨p1, p2, p3⟩ := HZ.out v hv
                exact ⟨p1.ext hEra, p2, p3⟩
              · rw [List.mem_singleton] at hv
                rw [hv]
                have hsx := hExd.size_le
                refine ⟨hzW.ext hEal, hzA _ (fun j hj => ?_), fun j hj => hzA _ (fun k hk => ?_)⟩
                · have h9 := hob1 j hj
                  show j < Wx.drew.heap.size
                  omega
                · injection hk with hk
                  show k < Wx.drew.heap.size
                  omega
            obtain ⟨p1, p2, p3⟩ := h1
            exact ⟨(p1.kept hg3 p2).kept (grown_set w3 ⟨g2, 3, none⟩ _) (p3 g2 o4), p2.turn p1 hat3 (Nat.le_refl _), p3⟩
          have HZZ := Lib.hid hzz
          have hLp2 : (L ++ [z]).map Ent.p = (es.take (q + 1)).map Ent.p := by
            rw [List.take_succ_eq_append_getElem hlt1, List.map_append, List.map_append, HLp.out, ← HY.out]
            simp [HZP.out]
          have HLP2 := Lib.hid hLp2
          have hb4 : Blk (w3.setCell ⟨g2, 3, none⟩ (.slice A2 m2 c2)) g2 28 #[.string tag, .slice h1.A h1.m h1.c, .slice h2.A h2.m h2.c, .slice A2 m2 c2] := hbo3.set_ 3 _
          have hr4 : Blk (w3.setCell ⟨g2, 3, none⟩ (.slice A2 m2 c2)) g1 28 #[.string ⟨#[]⟩, .slice none 0 0, .slice none 0 0, .slice none 0 0] := ((hbr.below hEra hbr.lt).grown hg3 (fun e => by have h9 := ho.ge g1 e.symm; omega)).far (p := ⟨g2, 3, none⟩) (by show g1 ≠ g2; omega) _
          have ho4 : OsC entC 30 7 (w3.setCell ⟨g2, 3, none⟩ (.slice A2 m2 c2)) B A2 m2 c2 (L ++ [z]) := ho3.kept (grown_set w3 ⟨g2, 3, none⟩ _) hne2
          have hs1 := ((hq1.ext hEra).kept hg3 ha1).set_ (p := ⟨g2, 3, none⟩) (Apart.of_ge n1 o4) (.slice A2 m2 c2)
          have hs2 := ((hq2.ext hEra).kept hg3 ha2).set_ (p := ⟨g2, 3, none⟩) (Apart.of_ge n2 o4) (.slice A2 m2 c2)
          have hA1 := ha1.turn (hq1.ext hEra) hat3 (Nat.le_refl _)
          have hA2 := ha2.turn (hq2.ext hEra) hat3 (Nat.le_refl _)
          have hB4 : B ≤ (w3.setCell ⟨g2, 3, none⟩ (.slice A2 m2 c2)).heap.size := by have h9 := hg3.size; have h8 := hEra.size_le; simp; omega
          clear hzz hLp2 hbo3 X0 X1 X2 X3 X4 X5 X6 XO
          go_wp2
          go_roundw
          case rel => exact ⟨q + 1, A2, m2, c2, L ++ [z], by omega, HM2.out, by go_num, ho4, HLP2, hb4, hr4, hEw4, hs1, hs2, HZZ, hA1, hA2, hB4⟩
          case measure => simp [intOf]; omega
      · have hi1 : ¬ (q : Int) < (em : Int) := by omega
        clear hmq
        have hqe : q = em := by omega
        have HLP3 : Hid (L.map Ent.p = es.map Ent.p) := by
          show _ = _
          rw [HLp.out, List.take_of_length_le (by have := HL.out; omega)]
        have r0 : wr.cell? ⟨g2, 0, none⟩ = some (.string tag) := hbo.cell 0
        have r1 : wr.cell? ⟨g2, 1, none⟩ = some (.slice h1.A h1.m h1.c) := hbo.cell 1
        have r2 : wr.cell? ⟨g2, 2, none⟩ = some (.slice h2.A h2.m h2.c) := hbo.cell 2
        have r3 : wr.cell? ⟨g2, 3, none⟩ = some (.slice A m c) := hbo.cell 3
        have s0 := hbr.cell 0
        have s1 := hbr.cell 1
        have s2 := hbr.cell 2
        have s3 := hbr.cell 3
        have t0 := hbr.frozen 0
        have t1 := hbr.frozen 1
        have t2 := hbr.frozen 2
        have t3 := hbr.frozen 3
        have HBR : Hid (Blk wr g1 28 _) := hbr
        clear hbr hbo hqe
        go_wp2
        refine bodyPost_ret (results_cell_row rfl _ _ g1 28 #[.string tag, .slice h1.A h1.m h1.c, .slice h2.A h2.m h2.c, .slice A m c] (0, 0) _ rfl ((((HBR.out.set_ 0 _).set_ 1 _).set_ 2 _).set_ 3 _) Tryd.underlying28 rfl info_cat4) rfl ?_
        have hg1B : g1 < B := by omega
        have hwg1 : w.heap.size ≤ g1 := by omega
        have hne1 : ob A = none ∨ ob A ≠ some g1 := by
          cases hA2 : ob A with
          | none => exact .inl rfl
          | some j => exact .inr (fun e => by injection e with e; have h9 := ho.ge j hA2; omega)
        refine ⟨⟨⟨tag, com, fd, L, h1, h2, ⟨A, m, c⟩⟩, rfl, ?_, ⟨gtag, ?_, ?_, ?_, fun v hv => ?_, fun v hv => (HZ.out v hv).2.1, ha1, ha2, fun j hj => ⟨Apart.of_ge n1 (by omega), Apart.of_ge n2 (by omega), fun v hv => (HZ.out v hv).2.2 j (by omega)⟩⟩⟩, ?_⟩
        · show Cp.mk _ _ _ _ = Cp.mk _ _ _ _
          rw [HLP3.out]
        · iterate 4 refine HW.set_ ?_ (Apart.of_ge n1 hg1B) _
          exact hq1
        · iterate 4 refine HW.set_ ?_ (Apart.of_ge n2 hg1B) _
          exact hq2
        · iterate 4 refine OsC.kept ?_ (grown_set _ ⟨g1, _, none⟩ _) hne1
          exact ho.mono (by omega)
        · iterate 4 refine EntW.kept ?_ (grown_set _ ⟨g1, _, none⟩ _) ((HZ.out v hv).2.2 g1 hg1B)
          exact (HZ.out v hv).1
        · iterate 4 refine Ext.set_ ?_ hwg1 _
          exact hE
end

end Go.Proofs.YtikbjaopcminaaaDoor
