/- The number of entries with a state; the reference's IDs. -/
import Derived.Test.YtcdpmgdocgddcaaDoorCatPl
namespace Go.Proofs.YtcdpmgdocgddcaaDoor
open Go.RowKit
set_option maxRecDepth 100000
attribute [local go_sem] ext_refl_t ext_alloc_t ext_drew_t ext_drewN_t ext_alloc2_t ext_alloc3_t ext_alloc4_t ext_alloc5_t ext_alloc6_t ext_alloc7_t ext_alloc8_t ext_alloc1d_t ext_alloc2d_t ext_alloc3d_t ext_alloc4d_t
/-- The number of entries with a state. -/
def countN (l : List Ent) (s : Int) : Nat := (l.filter fun x => decide (x.p.st = s)).length
theorem countN_le (l : List Ent) (s : Int) : countN l s ≤ l.length := List.length_filter_le _ _
theorem countN_snoc (l : List Ent) (s : Int) {q : Nat} (hq : q < l.length) : countN (l.take (q + 1)) s = countN (l.take q) s + if l[q].p.st = s then 1 else 0 := by
  unfold countN
  rw [List.take_succ_eq_append_getElem hq, List.filter_append, List.length_append]
  by_cases h : l[q].p.st = s <;> simp [h]
section
variable {w : World}
set_option maxHeartbeats 3200000 in
theorem rids_any {x : Cat} (hx : CatW w x) (hn : x.e.m ≤ 1000) :
    Calls Tryd.prog 16 #[catV x] w fun e w' => (∃ A m c, e = .returned (.slice A m c) ∧ SlC strF 1 w' A m (x.p.es.map Ep.id) ∧ m ≤ 1000) ∧ Ext w w' := by
  obtain ⟨tag, com, fd, es, hc, hd, ⟨eA, em, ec⟩⟩ := x
  have ke := hx.e
  unfold catV
  dsimp only at *
  have HL := Lib.hid ke.sl.len
  dsimp only at HL
  have hW0 : Ext w (w.alloc (Obj.cells #[.string tag, .slice hc.A hc.m hc.c, .slice hd.A hd.m hd.c, .slice eA em ec] 26)) := (Ext.refl w).alloc _
  obtain ⟨W0, hW0e⟩ : ∃ W0, W0 = w.alloc (Obj.cells #[.string tag, .slice hc.A hc.m hc.c, .slice hd.A hd.m hd.c, .slice eA em ec] 26) := ⟨_, rfl⟩
  have hb0 := Blk.new w 26 #[.string tag, .slice hc.A hc.m hc.c, .slice hd.A hd.m hd.c, .slice eA em ec]
  have X3 := laters (show _ = some (.slice eA em ec) from hb0.cell 3)
  clear hx hb0
  go_enter Tryd.func16, Tryd.ntmps16
  go_wp2
  rw [← hW0e] at hW0 X3
  rw [← hW0e]
  clear hW0e
  go_loopw [3, 4] (fun o i wr => ∃ (q : Nat) (A : Option Addr) (m c : Nat) (L : List ByteArray), q ≤ em ∧ Hid (m = q) ∧ i = .int .i64 q ∧ o = .slice A m c ∧ OsC strF 9 1 wr W0.heap.size A m c L ∧ Hid (L = (es.take q).map fun y => y.p.id) ∧ Ext W0 wr) (fun _ i _ => em - (intOf i).toNat)
  case atStart => exact ⟨0, none, 0, 0, [], Nat.zero_le _, Lib.hid rfl, rfl, rfl, OsC.nil_ strF_len strF_cell, Lib.hid rfl, Ext.refl _⟩
  case round =>
    obtain ⟨q, A, m, c, L, hq, HMQ, rfl, rfl, ho, HLp, hE1⟩ := hrel
    have hE := hW0.trans hE1
    have hm1000 : m ≤ 1000 := by have := HMQ.out; omega
    by_cases hlt : q < em
    · have hi1 : (q : Int) < (em : Int) := by omega
      obtain ⟨b, off, e0, hbl, hcs⟩ := (ke.sl.ext hE).at_ hlt (by omega)
      dsimp only at e0
      subst e0
      have hlt1 : q < es.length := by rw [← HL.out]; exact hlt
      obtain ⟨y, hyq⟩ : ∃ y, y = es[q] := ⟨_, rfl⟩
      have z0 := hcs q hlt1 0 (by omega)
      have z1 := hcs q hlt1 1 (by omega)
      have z2 := hcs q hlt1 2 (by omega)
      have z3 := hcs q hlt1 3 (by omega)
      have z4 := hcs q hlt1 4 (by omega)
      have z5 := hcs q hlt1 5 (by omega)
      have z6 := hcs q hlt1 6 (by omega)
      simp only [← hyq, entC, List.getElem_cons_zero, List.getElem_cons_succ, Nat.add_zero, ← Nat.add_assoc] at z0 z1 z2 z3 z4 z5 z6
      have HY := Lib.hid hyq
      clear hcs hyq
      have hEa : Ext wr (wr.alloc (Obj.cells #[.string y.p.id] 9)) := (Ext.refl _).alloc _
      have hnew : SlC strF 1 (wr.alloc (Obj.cells #[.string y.p.id] 9)) (some ⟨wr.heap.size, 0, none⟩) 1 [y.p.id] := SlC.new_ (cs := strF) wr [y.p.id] strF_len (by simp) _ rfl (0, 0) 1 rfl 9
      go_wp2_with (first
        | (at_builtin; refine Hid.out ?_))
      refine Hid.mk_ ?_
      refine (appC einfo_ss) rfl _ _ rfl (ho.ext hEa) rfl hnew rfl (by omega) (Nat.le_trans hE1.size_le hEa.size_le) ?_
      intro A2 m2 c2 w3 ho3 hg3 hat3
      have HM2 : Hid (m2 = q + 1) := by show _ = _; rw [ho3.len, List.length_append, ← ho.len, HMQ.out]; rfl
      have HL3 : Hid (L ++ [y.p.id] = (es.take (q + 1)).map fun y => y.p.id) := by
        show _ = _
        rw [List.take_succ_eq_append_getElem hlt1, List.map_append, HLp.out, ← HY.out]
        rfl
      have hE3 : Ext W0 w3 := (hE1.trans hEa).grown hg3 ho.ge
      go_wp2
      go_roundw
      case rel => exact ⟨q + 1, A2, m2, c2, L ++ [y.p.id], by omega, HM2, by go_num, rfl, ho3, HL3, hE3⟩
      case measure => simp [intOf]; omega
    · have hi1 : ¬ (q : Int) < (em : Int) := by omega
      have HLL : Hid (L = (es.map Ent.p).map Ep.id) := by
        show _ = _
        rw [HLp.out, List.take_of_length_le (by have := HL.out; omega), List.map_map]
        rfl
      go_wp2
      go_ret
      exact ⟨⟨A, m, ⟨c, rfl⟩, by rw [show Cp.es (Cat.p ⟨tag, com, fd, es, hc, hd, ⟨eA, em, ec⟩⟩) = es.map Ent.p from rfl, ← HLL.out]; exact ho.sl, hm1000⟩, hE⟩
end
end Go.Proofs.YtcdpmgdocgddcaaDoor
