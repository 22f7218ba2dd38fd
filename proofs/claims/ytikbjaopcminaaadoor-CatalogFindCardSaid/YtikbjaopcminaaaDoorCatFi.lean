/- Find: the first entry with an ID. -/
import Derived.Test.YtikbjaopcminaaaDoorCatV5
namespace Go.Proofs.YtikbjaopcminaaaDoor
open Go.RowKit
set_option maxRecDepth 100000

/-- The index of the first entry with an ID, or -1. -/
def FindZ (l : List Ep) (id : ByteArray) (z : Int) : Prop :=
  (z = -1 ∧ ∀ j (h : j < l.length), l[j].id ≠ id) ∨ ∃ k : Nat, z = k ∧ ∃ h : k < l.length, l[k].id = id ∧ ∀ j (hj : j < k), (l[j]'(by omega)).id ≠ id
/-- What Find returns. -/
def FindV (z : Int) : Value := .tuple #[.int .i64 (if 0 ≤ z then z else 0), .bool (decide (0 ≤ z))]
section
variable {w : World}
set_option maxHeartbeats 400000 in
theorem isId_any (x : Ent) (id : ByteArray) {gb : Nat} (hb : w.cell? ⟨gb, 0, none⟩ = some (.string id)) :
    Calls Tryd.prog 72 #[entV x, .pointer (some ⟨gb, 0, none⟩)] w fun e w' => e = .returned (.bool (decide (x.p.id = id))) ∧ Ext w w' := by
  have hlt := World.block_lt_of_cell? w _ hb
  obtain ⟨⟨a, src, tgt, com, fl, st, fd⟩, hc, hf, hd⟩ := x
  unfold entV
  dsimp only at *
  by_cases h : a = id
  · have hbq : (a.toList == id.toList) = true := by rw [h]; simp
    have HF := Lib.hid (decide_eq_true h)
    clear h
    go_enter Tryd.func72, Tryd.ntmps72
    go_wp2
    go_ret
    exact ⟨by rw [HF.out]; first | done | rfl, (Ext.refl w).alloc _⟩
  · have hbq : (a.toList == id.toList) = false := by
      rw [beq_eq_false_iff_ne]
      exact fun e => h (toList_iff.1 e)
    have HF := Lib.hid (decide_eq_false h)
    clear h
    go_enter Tryd.func72, Tryd.ntmps72
    go_wp2
    go_ret
    exact ⟨by rw [HF.out]; first | done | rfl, (Ext.refl w).alloc _⟩

set_option maxHeartbeats 3200000 in
theorem idxEnt_any {h : SlH} {es : List Ent} (hs : EntsW w h es) (id : ByteArray) {gb : Nat} (hb : w.cell? ⟨gb, 0, none⟩ = some (.string id)) :
    Calls Tryd.prog 71 #[.slice h.A h.m h.c, .func (.func 72) #[] #[.pointer (some ⟨gb, 0, none⟩)]] w fun e w' => RetI (FindZ (es.map Ent.p) id) e ∧ Ext w w' := by
  obtain ⟨A, m, c⟩ := h
  have HL := Lib.hid hs.sl.len
  have hle := hs.sl.le
  dsimp only at HL hle ⊢
  have HBC := Lib.hid hb
  clear hb
  go_enter Tryd.func71, Tryd.ntmps71
  go_wp2
  go_loopw [5, 8] (fun _ i wr => ∃ q : Nat, q ≤ m ∧ i = .int .i64 q ∧ Ext w wr ∧ Hid (∀ j (_ : j < q) (h : j < es.length), es[j].p.id ≠ id)) (fun _ i _ => m - (intOf i).toNat)
  case atStart => exact ⟨0, Nat.zero_le _, rfl, Ext.refl _, fun j hj _ => absurd hj (by omega)⟩
  case round =>
    obtain ⟨q, hq, rfl, hE, HC⟩ := hrel
    by_cases hlt : q < m
    · obtain ⟨b, off, e0, hbl, hcs⟩ := (hs.sl.ext hE).at_ hlt (by omega)
      dsimp only at e0
      subst e0
      have hlt1 : q < es.length := by rw [← HL.out]; exact hlt
      obtain ⟨y, hyq⟩ : ∃ y, y = es[q] := ⟨_, rfl⟩
      have y0 := hcs q hlt1 0 (by omega)
      have y1 := hcs q hlt1 1 (by omega)
      have y2 := hcs q hlt1 2 (by omega)
      have y3 := hcs q hlt1 3 (by omega)
      have y4 := hcs q hlt1 4 (by omega)
      have y5 := hcs q hlt1 5 (by omega)
      have y6 := hcs q hlt1 6 (by omega)
      simp only [← hyq, entC, List.getElem_cons_zero, List.getElem_cons_succ, Nat.add_zero, ← Nat.add_assoc] at y0 y1 y2 y3 y4 y5 y6
      have hi1 : (q : Int) < (m : Int) := by omega
      have HY := Lib.hid hyq
      clear hcs hyq
      go_wp2_with (first
        | (go_at_call 72; refine Hid.out ?_))
      refine Hid.mk_ ((isId_any y id (later hE HBC.out)).mono ?_)
      rintro e w2 ⟨rfl, hE2⟩
      by_cases hid : y.p.id = id
      · have HF : Hid (FindZ (es.map Ent.p) id (q : Int)) := .inr ⟨q, rfl, by rw [List.length_map]; exact hlt1, by simp only [List.getElem_map]; rw [← HY.out]; exact hid, fun j hj => by simp only [List.getElem_map]; exact HC.out j hj (by omega)⟩
        rw [decide_eq_true hid]
        clear hid
        go_wp2
        go_ret
        exact ⟨⟨_, rfl, HF.out⟩, hE.trans hE2⟩
      · have HN : Hid (∀ j (_ : j < q + 1) (h : j < es.length), es[j].p.id ≠ id) := fun j hj h => by
          rcases Nat.lt_or_ge j q with h2 | h2
          · exact HC.out j h2 h
          · obtain rfl : j = q := by omega
            rw [← HY.out]; exact hid
        rw [decide_eq_false hid]
        clear hid
        go_wp2
        go_roundw
        case rel => exact ⟨q + 1, by omega, by go_num, hE.trans hE2, HN⟩
        case measure => simp [intOf]; omega
    · have hi1 : ¬ (q : Int) < (m : Int) := by omega
      have HF : Hid (FindZ (es.map Ent.p) id (-1)) := .inl ⟨rfl, fun j hj => by
        simp only [List.getElem_map]
        rw [List.length_map] at hj
        exact HC.out j (by have := HL.out; omega) hj⟩
      go_wp2
      go_ret
      exact ⟨⟨_, rfl, HF.out⟩, hE⟩

set_option maxHeartbeats 1600000 in
theorem find_any {x : Cat} (hx : CatW w x) (id : ByteArray) :
    Calls Tryd.prog 32 #[catV x, .string id] w fun e w' => (∃ z, FindZ x.p.es id z ∧ e = .returned (FindV z)) ∧ Ext w w' := by
  obtain ⟨tag, com, fd, es, hc, hd, he⟩ := x
  have ke := hx.e
  unfold catV
  dsimp only at *
  have hEa : Ext w ((w.alloc (Obj.cells #[.string tag, .slice hc.A hc.m hc.c, .slice hd.A hd.m hd.c, .slice he.A he.m he.c] 28)).alloc (Obj.cells #[.string id] 9)) := ((Ext.refl w).alloc _).alloc _
  have hb := Blk.new (w.alloc (Obj.cells #[.string tag, .slice hc.A hc.m hc.c, .slice hd.A hd.m hd.c, .slice he.A he.m he.c] 28)) 9 #[.string id]
  have hs1 : (w.alloc (Obj.cells #[.string tag, .slice hc.A hc.m hc.c, .slice hd.A hd.m hd.c, .slice he.A he.m he.c] 28)).heap.size = w.heap.size + 1 := by simp
  rw [hs1] at hb
  clear hs1 hx
  go_enter Tryd.func32, Tryd.ntmps32
  go_wp2_with (first
    | (go_at_call 71; refine Hid.out ?_))
  refine Hid.mk_ ((idxEnt_any (EntsW.ext ke hEa) id (hb.cell 0)).mono ?_)
  rintro e w2 ⟨⟨z, rfl, hz⟩, hE2⟩
  have HZ := Lib.hid hz
  rcases hz with ⟨rfl, _⟩ | ⟨k, rfl, _⟩
  · go_wp2
    go_ret2
    exact ⟨⟨-1, HZ.out, rfl⟩, hEa.trans hE2⟩
  · have HV : Hid (FindV (k : Int) = .tuple #[.int .i64 k, .bool true]) := by show FindV _ = _; unfold FindV; rw [if_pos (by omega), decide_eq_true (by omega)]

    go_wp2
    go_ret2
    exact ⟨⟨k, HZ.out, by rw [HV.out]; first | done | rfl | simp⟩, hEa.trans hE2⟩
end

end Go.Proofs.YtikbjaopcminaaaDoor
