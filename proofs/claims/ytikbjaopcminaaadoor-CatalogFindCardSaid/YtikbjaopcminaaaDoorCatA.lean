/- IDs; the law's example; the document's example. -/
import Derived.Test.YtikbjaopcminaaaDoorCatM
import Derived.Test.YtikbjaopcminaaaDoorSameS
namespace Go.Proofs.YtikbjaopcminaaaDoor
open Go.RowKit
set_option maxRecDepth 100000

theorem flat_strF (l : List ByteArray) : l.flatMap strF = l.map Value.string := by
  induction l with
  | nil => rfl
  | cons x t ih => rw [List.flatMap_cons, ih]; rfl
theorem SlC.sls {w : World} {A : Option Addr} {m : Nat} {l : List ByteArray} (h : SlC strF 1 w A m l) (hm : m ≤ 8796093022208) : SlS w A m l := ⟨by rw [← flat_strF]; exact h.rd, h.len, hm⟩
section
variable {w : World}
set_option maxHeartbeats 3200000 in
theorem ids_any {x : Cat} (hx : CatW w x) (hn : x.e.m ≤ 1000) :
    Calls Tryd.prog 40 #[catV x] w fun e w' => (∃ A m c, e = .returned (.slice A m c) ∧ SlC strF 1 w' A m (x.p.es.map Ep.id) ∧ m ≤ 1000) ∧ Ext w w' := by
  obtain ⟨tag, com, fd, es, hc, hd, ⟨eA, em, ec⟩⟩ := x
  have ke := hx.e
  unfold catV
  dsimp only at *
  have HL := Lib.hid ke.sl.len
  dsimp only at HL
  have hW0 : Ext w (w.alloc (Obj.cells #[.string tag, .slice hc.A hc.m hc.c, .slice hd.A hd.m hd.c, .slice eA em ec] 28)) := (Ext.refl w).alloc _
  clear hx
  go_enter Tryd.func40, Tryd.ntmps40
  go_wp2
  go_loopw [3, 5, 9] (fun o _ i wr => ∃ (q : Nat) (A : Option Addr) (m c : Nat) (L : List ByteArray), q ≤ em ∧ Hid (m = q) ∧ i = .int .i64 q ∧ o = .slice A m c ∧ OsC strF 9 1 wr w.heap.size A m c L ∧ Hid (L = (es.take q).map fun y => y.p.id) ∧ Ext w wr) (fun _ _ i _ => em - (intOf i).toNat)
  case atStart => exact ⟨0, none, 0, 0, [], Nat.zero_le _, Lib.hid rfl, rfl, rfl, OsC.nil_ strF_len strF_cell, Lib.hid rfl, hW0⟩
  case round =>
    obtain ⟨q, A, m, c, L, hq, HMQ, rfl, rfl, ho, HLp, hE⟩ := hrel
    have hm1000 : m ≤ 1000 := by have := HMQ.out; omega
    by_cases hlt : q < em
    · have hi1 : (q : Int) < (em : Int) := by omega
      obtain ⟨b, off, e0, hbl, hcs⟩ := (ke.sl.ext hE).at_ hlt (by omega)
      dsimp only at e0
      subst e0
      have hlt1 : q < es.length := by rw [← HL.out]; exact hlt
      obtain ⟨y, hyq⟩ : ∃ y, y = es[q] := ⟨_, rfl⟩
      have z0 := hcs q hlt1 0 (by omega)
      have z1 := hcs q hlt1 1 (by omega)
      have z2 := hcs q hlt1 2 (by omega)
      have z3 := hcs q hlt1 3 (by omega)
      have z4 := hcs q hlt1 4 (by omega)
      have z5 := hcs q hlt1 5 (by omega)
      have z6 := hcs q hlt1 6 (by omega)
      simp only [← hyq, entC, List.getElem_cons_zero, List.getElem_cons_succ, Nat.add_zero, ← Nat.add_assoc] at z0 z1 z2 z3 z4 z5 z6
      have HY := Lib.hid hyq
      clear hcs hyq
      have hsz : (wr.alloc (Obj.cells #[.string y.p.id, .string y.p.src, .string y.p.tgt, .slice y.c.A y.c.m y.c.c, .slice y.f.A y.f.m y.f.c, .int .i64 y.p.st, .slice y.d.A y.d.m y.d.c] 30)).heap.size = wr.heap.size + 1 := by simp
      have hEa : Ext wr ((wr.alloc (Obj.cells #[.string y.p.id, .string y.p.src, .string y.p.tgt, .slice y.c.A y.c.m y.c.c, .slice y.f.A y.f.m y.f.c, .int .i64 y.p.st, .slice y.d.A y.d.m y.d.c] 30)).alloc (Obj.cells #[.string y.p.id] 9)) := ((Ext.refl _).alloc _).alloc _
      have hnew : SlC strF 1 ((wr.alloc (Obj.cells #[.string y.p.id, .string y.p.src, .string y.p.tgt, .slice y.c.A y.c.m y.c.c, .slice y.f.A y.f.m y.f.c, .int .i64 y.p.st, .slice y.d.A y.d.m y.d.c] 30)).alloc (Obj.cells #[.string y.p.id] 9)) (some ⟨wr.heap.size + 1, 0, none⟩) 1 [y.p.id] := by
        have h := SlC.new_ (cs := strF) (wr.alloc (Obj.cells #[.string y.p.id, .string y.p.src, .string y.p.tgt, .slice y.c.A y.c.m y.c.c, .slice y.f.A y.f.m y.f.c, .int .i64 y.p.st, .slice y.d.A y.d.m y.d.c] 30)) [y.p.id] strF_len (by simp) _ rfl (0, 0) 1 rfl 9
        rw [hsz] at h
        exact h
      clear hsz
      go_wp2_with (first
        | (at_builtin; refine Hid.out ?_))
      refine Hid.mk_ ?_
      refine (appC einfo_ss) rfl _ _ rfl (ho.ext hEa) rfl hnew rfl (by omega) (Nat.le_trans hE.size_le hEa.size_le) ?_
      intro A2 m2 c2 w3 ho3 hg3 hat3
      have HM2 : Hid (m2 = q + 1) := by show _ = _; rw [ho3.len, List.length_append, ← ho.len, HMQ.out]; rfl
      have HL3 : Hid (L ++ [y.p.id] = (es.take (q + 1)).map fun y => y.p.id) := by
        show _ = _
        rw [List.take_succ_eq_append_getElem hlt1, List.map_append, HLp.out, ← HY.out]
        rfl
      have hE3 : Ext w w3 := (hE.trans hEa).grown hg3 ho.ge
      go_wp2
      go_roundw
      case rel => exact ⟨q + 1, A2, m2, c2, L ++ [y.p.id], by omega, HM2, by go_num, rfl, ho3, HL3, hE3⟩
      case measure => simp [intOf]; omega
    · have hi1 : ¬ (q : Int) < (em : Int) := by omega
      have HLL : Hid (L = (es.map Ent.p).map Ep.id) := by
        show _ = _
        rw [HLp.out, List.take_of_length_le (by have := HL.out; omega), List.map_map]
        rfl
      go_wp2
      go_ret
      exact ⟨⟨A, m, ⟨c, rfl⟩, by rw [show Cp.es (Cat.p ⟨tag, com, fd, es, hc, hd, ⟨eA, em, ec⟩⟩) = es.map Ent.p from rfl, ← HLL.out]; exact ho.sl, hm1000⟩, hE⟩

/-- An entry with an ID alone. -/
def epOf (id : ByteArray) : Ep := ⟨id, ⟨#[]⟩, ⟨#[]⟩, [], [], 0, []⟩
def entOf (id : ByteArray) : Ent := ⟨epOf id, ⟨none, 0, 0⟩, ⟨none, 0, 0⟩, ⟨none, 0, 0⟩⟩
theorem entOf_W (w : World) (id : ByteArray) (h : GoodStr id) : EntW w (entOf id) := ⟨HW.nil_ strF_len, HW.nil_ strF_len, HW.nil_ fdC_len, h, by show (0 : Nat) ≤ _; omega, by show (0 : Nat) ≤ _; omega, by show (-9223372036854775808 : Int) ≤ 0; omega, by show (0 : Int) ≤ _; omega⟩
end
attribute [local go_sem] ext_refl_t ext_alloc_t ext_drew_t ext_drewN_t ext_alloc2_t ext_alloc3_t ext_alloc4_t ext_alloc5_t ext_alloc6_t ext_alloc7_t ext_alloc8_t ext_alloc1d_t ext_alloc2d_t ext_alloc3d_t ext_alloc4d_t
section
variable {w : World}
def sDe : ByteArray := ⟨#[100, 101]⟩
set_option maxHeartbeats 6400000 in
theorem example_any {A0 : Option Addr} {m0 : Nat} (c0 : Nat) {l : List ByteArray} (hs : SlC strF 1 w A0 m0 l) (hg : ∀ s ∈ l, GoodStr s) (hm : m0 ≤ 1000) :
    Calls Tryd.prog 51 #[.slice A0 m0 c0] w fun e w' => (∃ y : Cat, e = .returned (catV y) ∧ y.p = ⟨sDe, [], [], l.map epOf⟩ ∧ CatW w' y) ∧ Ext w w' := by
  have HL := Lib.hid hs.len
  have HG := Lib.hid hg
  clear hg
  obtain ⟨W0, hW0⟩ : ∃ W0, W0 = (w.alloc (Obj.cells #[.string ⟨#[]⟩, .slice none 0 0, .slice none 0 0, .slice none 0 0] 28)).alloc (Obj.cells #[.string ⟨#[100, 101]⟩, .slice none 0 0, .slice none 0 0, .slice none 0 0] 28) := ⟨_, rfl⟩
  have hb0 : Blk W0 w.heap.size 28 #[.string ⟨#[]⟩, .slice none 0 0, .slice none 0 0, .slice none 0 0] := by
    rw [hW0]; exact (Blk.new w _ _).alloc _
  have hb1 : Blk W0 (w.heap.size + 1) 28 #[.string ⟨#[100, 101]⟩, .slice none 0 0, .slice none 0 0, .slice none 0 0] := by
    have h := Blk.new (w.alloc (Obj.cells #[.string ⟨#[]⟩, .slice none 0 0, .slice none 0 0, .slice none 0 0] 28)) 28 #[.string ⟨#[100, 101]⟩, .slice none 0 0, .slice none 0 0, .slice none 0 0]
    rw [hW0]; simpa using h
  have hEW0 : Ext w W0 := by rw [hW0]; exact ((Ext.refl w).alloc _).alloc _
  have hsz0 : W0.heap.size = w.heap.size + 2 := by rw [hW0]; simp
  go_enter Tryd.func51, Tryd.ntmps51
  go_wp2
  rw [← hW0]
  obtain ⟨g, hg⟩ : ∃ g, g = w.heap.size := ⟨_, rfl⟩
  rw [← hg] at hb0 hb1 hsz0 ⊢
  obtain ⟨g1, hg1⟩ : ∃ g1, g1 = g + 1 := ⟨_, rfl⟩
  rw [← hg1] at hb1 ⊢
  have o1 : w.heap.size ≤ g := by omega
  have o2 : g < g1 := by omega
  have o3 : g1 < W0.heap.size := by omega
  clear hW0 hg hg1 hsz0
  go_loopw [4] (fun i wr => ∃ (q : Nat) (A : Option Addr) (m c : Nat) (L : List Ent), q ≤ m0 ∧ Hid (m = q) ∧ i = .int .i64 q ∧ OsC entC 30 7 wr W0.heap.size A m c L ∧ Hid (L = (l.take q).map entOf) ∧ Blk wr g1 28 #[.string ⟨#[100, 101]⟩, .slice none 0 0, .slice none 0 0, .slice A m c] ∧ Blk wr g 28 #[.string ⟨#[]⟩, .slice none 0 0, .slice none 0 0, .slice none 0 0] ∧ Ext w wr ∧ W0.heap.size ≤ wr.heap.size) (fun i _ => m0 - (intOf i).toNat)
  case atStart => exact ⟨0, none, 0, 0, [], Nat.zero_le _, Lib.hid rfl, rfl, OsC.nil_ entC_len entC_cell, Lib.hid rfl, hb1, hb0, hEW0, Nat.le_refl _⟩
  case round =>
    obtain ⟨q, A, m, c, L, hq, HMQ, rfl, ho, HLp, hbo, hbr, hE, hBw⟩ := hrel
    have hm1000 : m ≤ 1000 := by have := HMQ.out; omega
    by_cases hlt : q < m0
    · have hi1 : (q : Int) < (m0 : Int) := by omega
      obtain ⟨b, off, e0, hbl, hcs⟩ := (hs.ext hE).at_ hlt (by omega)
      subst e0
      have hlt1 : q < l.length := by rw [← HL.out]; exact hlt
      obtain ⟨s, hsq⟩ : ∃ s, s = l[q] := ⟨_, rfl⟩
      have z0 := hcs q hlt1 0 (by omega)
      simp only [← hsq, strF, List.getElem_cons_zero, Nat.mul_one, Nat.add_zero] at z0
      have HY := Lib.hid hsq
      clear hcs hsq
      have X0 := laters z0
      have X3 := laters (show wr.cell? ⟨g1, 3, none⟩ = some (.slice A m c) from hbo.cell 3)
      have hEa : Ext wr (wr.alloc (Obj.cells #[.string s, .string ⟨#[]⟩, .string ⟨#[]⟩, .slice none 0 0, .slice none 0 0, .int .i64 0, .slice none 0 0] 30)).drew := ((Ext.refl wr).alloc _).drew
      have hnew : SlC entC 7 (wr.alloc (Obj.cells #[.string s, .string ⟨#[]⟩, .string ⟨#[]⟩, .slice none 0 0, .slice none 0 0, .int .i64 0, .slice none 0 0] 30)).drew (some ⟨wr.heap.size, 0, none⟩) 1 [entOf s] := (SlC.new_ (cs := entC) wr [entOf s] entC_len (by simp) _ rfl (0, 0) 1 rfl 30).ext (Ext.refl _).drew
      go_wp2
      first
      | (go_region_law (first
          | (refine step_appC einfo_ent rfl _ _ rfl (ho.ext hEa) rfl hnew rfl (by omega) (Nat.le_trans hBw hEa.size_le) ?_; intro A2 m2 c2 w3 ho3 hg3 hat3; have hbo3 := (hbo.below hEa hbo.lt).grown hg3 (fun e => by have h9 := ho.ge g1 e.symm; omega); have d3 := hbo3.cell 3; have f3 := hbo3.frozen 3)
          | fail))
      | fail
      all_goals
        have HM2 : Hid (m2 = q + 1) := by show _ = _; rw [ho3.len, List.length_append, ← ho.len, HMQ.out]; rfl
        have HL3 : Hid (L ++ [entOf s] = (l.take (q + 1)).map entOf) := by
          show _ = _
          rw [List.take_succ_eq_append_getElem hlt1, List.map_append, HLp.out, ← HY.out]
          rfl
        have hne1 : ob A2 = none ∨ ob A2 ≠ some g1 := by
          cases hA2 : ob A2 with
          | none => exact .inl rfl
          | some j => exact .inr (fun e => by injection e with e; have h9 := ho3.ge j hA2; omega)
        have ho4 := ho3.kept (grown_set w3 ⟨g1, 3, none⟩ (.slice A2 m2 c2)) hne1
        have hb4 := hbo3.set_ 3 (.slice A2 m2 c2)
        have hr4 := ((hbr.below hEa hbr.lt).grown hg3 (fun e => by have h9 := ho.ge g e.symm; omega)).far (p := ⟨g1, 3, none⟩) (by show g ≠ g1; omega) (.slice A2 m2 c2)
        have hE4 : Ext w (w3.setCell ⟨g1, 3, none⟩ (.slice A2 m2 c2)) := ((hE.trans hEa).grown hg3 (fun j hj => by have h9 := ho.ge j hj; have h8 := hEW0.size_le; omega)).set_ (p := ⟨g1, 3, none⟩) (by show w.heap.size ≤ g1; omega) _
        have hB4 : W0.heap.size ≤ (w3.setCell ⟨g1, 3, none⟩ (.slice A2 m2 c2)).heap.size := by have h9 := hg3.size; have h8 := hEa.size_le; simp; omega
        clear hbo3 X0 X3 hnew
        go_wp2
        go_roundw
        case rel => exact ⟨q + 1, A2, m2, c2, L ++ [entOf s], by omega, HM2, by go_num, ho4, HL3, hb4, hr4, hE4, hB4⟩
        case measure => simp [intOf]; omega
    · have hi1 : ¬ (q : Int) < (m0 : Int) := by omega
      have HLL : Hid (L = l.map entOf) := by
        show _ = _
        rw [HLp.out, List.take_of_length_le (by have := HL.out; omega)]
      have r0 : wr.cell? ⟨g1, 0, none⟩ = some (.string ⟨#[100, 101]⟩) := hbo.cell 0
      have r1 : wr.cell? ⟨g1, 1, none⟩ = some (.slice none 0 0) := hbo.cell 1
      have r2 : wr.cell? ⟨g1, 2, none⟩ = some (.slice none 0 0) := hbo.cell 2
      have r3 : wr.cell? ⟨g1, 3, none⟩ = some (.slice A m c) := hbo.cell 3
      have s0 := hbr.cell 0
      have s1 := hbr.cell 1
      have s2 := hbr.cell 2
      have s3 := hbr.cell 3
      have t0 := hbr.frozen 0
      have t1 := hbr.frozen 1
      have t2 := hbr.frozen 2
      have t3 := hbr.frozen 3
      have HBR : Hid (Blk wr g 28 _) := hbr
      clear hbr hbo
      go_wp2
      refine bodyPost_ret (results_cell_row rfl _ _ g 28 #[.string ⟨#[100, 101]⟩, .slice none 0 0, .slice none 0 0, .slice A m c] (0, 0) _ rfl ((((HBR.out.set_ 0 _).set_ 1 _).set_ 2 _).set_ 3 _) Tryd.underlying28 rfl info_cat4) rfl ?_
      have hne0 : ob A = none ∨ ob A ≠ some g := by
        cases hA2 : ob A with
        | none => exact .inl rfl
        | some j => exact .inr (fun e => by injection e with e; have h9 := ho.ge j hA2; omega)
      refine ⟨⟨⟨sDe, [], [], L, ⟨none, 0, 0⟩, ⟨none, 0, 0⟩, ⟨A, m, c⟩⟩, rfl, ?_, ?_, HW.nil_ strF_len, HW.nil_ fdC_len, ⟨?_, ho.cap, by show m * 128 ≤ _; omega, fun v hv => ?_⟩⟩, ?_⟩
      · show Cp.mk _ _ _ _ = Cp.mk _ _ _ _
        rw [HLL.out, List.map_map]
        rfl
      · show (2 : Nat) ≤ _
        omega
      · refine OsC.sl (?_ : OsC entC 30 7 _ W0.heap.size A m c L)
        iterate 4 refine OsC.kept ?_ (grown_set _ ⟨g, _, none⟩ _) hne0
        exact ho
      · rw [HLL.out] at hv
        obtain ⟨s, hs9, rfl⟩ := List.mem_map.1 hv
        exact entOf_W _ s (HG.out s hs9)
      · iterate 4 refine Ext.set_ ?_ o1 _
        exact hE
/-- The catalog of the example, moved. -/
theorem awk_valid : validC ⟨sDe, [], [], [⟨#[97]⟩, ⟨#[98]⟩, ⟨#[99]⟩].map epOf⟩ = true := by decide +kernel
end

end Go.Proofs.YtikbjaopcminaaaDoor
