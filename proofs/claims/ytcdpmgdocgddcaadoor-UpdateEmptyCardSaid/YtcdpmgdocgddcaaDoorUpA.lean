/- The guards and the example of the laws of chapter 47. -/
import Derived.Test.YtcdpmgdocgddcaaDoorUpI
import Derived.Test.YtcdpmgdocgddcaaDoorRFew
namespace Go.Proofs.YtcdpmgdocgddcaaDoor
open Go.RowKit
set_option maxRecDepth 100000
attribute [local go_sem] ext_refl_t ext_alloc_t ext_drew_t ext_drewN_t ext_alloc2_t ext_alloc3_t ext_alloc4_t ext_alloc5_t ext_alloc6_t ext_alloc7_t ext_alloc8_t ext_alloc1d_t ext_alloc2d_t ext_alloc3d_t ext_alloc4d_t
def fewY (y : Ep) : Bool := fewE y && decide (y.src.size ≤ 200)
/-- A list of few entries. -/
def fewL (l : List Ep) : Bool := l.all fewY && decide (l.length ≤ 8)
theorem fewL_parts {l : List Ep} (h : fewL l = true) : l.length ≤ 8 ∧ ∀ y ∈ l, y.src.size ≤ 200 := by
  unfold fewL at h
  rw [Bool.and_eq_true, List.all_eq_true, decide_eq_true_eq] at h
  refine ⟨h.2, fun y hy => ?_⟩
  have h1 := h.1 y hy
  unfold fewY at h1
  rw [Bool.and_eq_true, decide_eq_true_eq] at h1
  exact h1.2
section
variable {w : World}
set_option maxHeartbeats 3200000 in
theorem rfewL_any {h : SlH} {es : List Ent} (hs : EntsW w h es) :
    Calls Tryd.prog 25 #[.slice h.A h.m h.c] w fun e w' => e = .returned (.bool (fewL (es.map Ent.p))) ∧ Ext w w' := by
  obtain ⟨A, m, c⟩ := h
  dsimp only
  have HL := Lib.hid hs.sl.len
  have hle := hs.sl.le
  dsimp only at HL hle
  have HFC : Hid (fewL (es.map Ent.p) = ((es.all fun y => fewY y.p) && decide (m ≤ 8))) := by
    show _ = _
    unfold fewL
    rw [List.length_map, List.all_map, HL.out]
    rfl
  go_enter Tryd.func25, Tryd.ntmps25
  go_wp2
  go_loopw [3] (fun i wr => ∃ q : Nat, q ≤ m ∧ i = .int .i64 q ∧ Ext w wr ∧ Hid ((es.all fun y => fewY y.p) = (es.drop q).all fun y => fewY y.p)) (fun i _ => m - (intOf i).toNat)
  case atStart => exact ⟨0, Nat.zero_le _, rfl, Ext.refl _, Lib.hid (by rw [List.drop_zero])⟩
  case round =>
    obtain ⟨q, hq, rfl, hE, HC⟩ := hrel
    by_cases hlt : q < m
    · obtain ⟨b, off, e0, hbl, hcs⟩ := (hs.sl.ext hE).at_ hlt (by omega)
      dsimp only at e0
      subst e0
      have hlt1 : q < es.length := by rw [← HL.out]; exact hlt
      obtain ⟨y, hyq⟩ : ∃ y, y = es[q] := ⟨_, rfl⟩
      have y0 := hcs q hlt1 0 (by omega)
      have y1 := hcs q hlt1 1 (by omega)
      have y2 := hcs q hlt1 2 (by omega)
      have y3 := hcs q hlt1 3 (by omega)
      have y4 := hcs q hlt1 4 (by omega)
      have y5 := hcs q hlt1 5 (by omega)
      have y6 := hcs q hlt1 6 (by omega)
      simp only [← hyq, entC, List.getElem_cons_zero, List.getElem_cons_succ, Nat.add_zero, ← Nat.add_assoc] at y0 y1 y2 y3 y4 y5 y6
      have hi1 : (q : Int) < (m : Int) := by omega
      have hyW : EntW wr y := by rw [hyq]; exact (EntsW.ext hs hE).good _ (List.getElem_mem hlt1)
      have HY := Lib.hid hyq
      have Y1 := laters y1
      clear hcs hyq
      go_wp2_with (first
        | (go_at_call 44; refine Hid.out ?_))
      refine Hid.mk_ ((fewEntry_any hyW).mono ?_)
      rintro e w2 ⟨rfl, hE2⟩
      clear y0 y1 y2 y3 y4 y5 y6
      cases hfe : fewE y.p with
      | false =>
        have HF : Hid (fewL (es.map Ent.p) = false) := by
          show _ = _
          rw [HFC.out, HC.out, List.drop_eq_getElem_cons hlt1, List.all_cons, ← HY.out]
          unfold fewY
          rw [hfe]
          simp
        clear hfe
        go_wp2
        go_ret
        exact ⟨by rw [HF.out]; first | done | rfl, hE.trans hE2⟩
      | true =>
        by_cases c2 : 200 < y.p.src.size
        · have c2i : (200 : Int) < (y.p.src.size : Int) := by omega
          have HF : Hid (fewL (es.map Ent.p) = false) := by
            show _ = _
            rw [HFC.out, HC.out, List.drop_eq_getElem_cons hlt1, List.all_cons, ← HY.out]
            unfold fewY
            rw [hfe, decide_eq_false (show ¬ y.p.src.size ≤ 200 by omega)]
            simp
          clear hfe
          go_wp2
          go_ret
          exact ⟨by rw [HF.out]; first | done | rfl, hE.trans hE2⟩
        · have c2i : ¬ (200 : Int) < (y.p.src.size : Int) := by omega
          have HN : Hid ((es.all fun y => fewY y.p) = (es.drop (q + 1)).all fun y => fewY y.p) := by
            show _ = _
            rw [HC.out, List.drop_eq_getElem_cons hlt1, List.all_cons, ← HY.out, show fewY y.p = true by unfold fewY; rw [hfe, decide_eq_true (show y.p.src.size ≤ 200 by omega)]; rfl, Bool.true_and]
          clear hfe
          go_wp2
          go_roundw
          case rel => exact ⟨q + 1, by omega, by go_num, hE.trans hE2, HN⟩
          case measure => simp [intOf]; omega
    · have hi1 : ¬ (q : Int) < (m : Int) := by omega
      have HALL : Hid ((es.all fun y => fewY y.p) = true) := by
        show _ = _
        rw [HC.out, List.drop_eq_nil_of_le (by have := HL.out; omega)]
        rfl
      by_cases c3 : m ≤ 8
      · have c3i : (m : Int) ≤ 8 := by omega
        have HF : Hid (fewL (es.map Ent.p) = true) := by show _ = _; rw [HFC.out, HALL.out, decide_eq_true c3]; rfl
        go_wp2
        go_ret
        exact ⟨by rw [HF.out]; first | done | rfl, hE⟩
      · have c3i : ¬ (m : Int) ≤ 8 := by omega
        have HF : Hid (fewL (es.map Ent.p) = false) := by show _ = _; rw [HFC.out, decide_eq_false c3, Bool.and_false]
        go_wp2
        go_ret
        exact ⟨by rw [HF.out]; first | done | rfl, hE⟩
/-- The guard of the laws. -/
def few47 (c : Cp) (l : List Ep) : Bool := fewC c && (fewL c.es && fewL l)
theorem few47_parts {c : Cp} {l : List Ep} (h : few47 c l = true) : c.es.length ≤ 8 ∧ l.length ≤ 8 ∧ (∀ y ∈ c.es, y.src.size ≤ 200) ∧ ∀ y ∈ l, y.src.size ≤ 200 := by
  unfold few47 at h
  rw [Bool.and_eq_true, Bool.and_eq_true] at h
  exact ⟨(fewL_parts h.2.1).1, (fewL_parts h.2.2).1, (fewL_parts h.2.1).2, (fewL_parts h.2.2).2⟩
set_option maxHeartbeats 3200000 in
theorem few47_any {x : Cat} (hx : CatW w x) {h : SlH} {es : List Ent} (hs : EntsW w h es) :
    Calls Tryd.prog 9 #[catV x, .slice h.A h.m h.c] w fun e w' => e = .returned (.bool (few47 x.p (es.map Ent.p))) ∧ Ext w w' := by
  obtain ⟨tag, com, fd, ces, hc, hd, he⟩ := x
  have HX := Lib.hid hx
  have HS := Lib.hid hs
  unfold catV
  dsimp only
  have hb := Blk.new w 26 #[.string tag, .slice hc.A hc.m hc.c, .slice hd.A hd.m hd.c, .slice he.A he.m he.c]
  have hE1 : Ext w (w.alloc (Obj.cells #[.string tag, .slice hc.A hc.m hc.c, .slice hd.A hd.m hd.c, .slice he.A he.m he.c] 26)) := (Ext.refl w).alloc _
  obtain ⟨W1, hW1⟩ : ∃ W1, W1 = w.alloc (Obj.cells #[.string tag, .slice hc.A hc.m hc.c, .slice hd.A hd.m hd.c, .slice he.A he.m he.c] 26) := ⟨_, rfl⟩
  rw [← hW1] at hb hE1
  obtain ⟨g, hg⟩ : ∃ g, g = w.heap.size := ⟨_, rfl⟩
  rw [← hg] at hb
  have X0 := laters (show _ = some (.string tag) from hb.cell 0)
  have X1 := laters (show _ = some (.slice hc.A hc.m hc.c) from hb.cell 1)
  have X2 := laters (show _ = some (.slice hd.A hd.m hd.c) from hb.cell 2)
  have X3 := laters (show _ = some (.slice he.A he.m he.c) from hb.cell 3)
  clear hb hx hs
  have hEr := Ext.refl W1
  have HFF : Hid (few47 (Cat.p ⟨tag, com, fd, ces, hc, hd, he⟩) (es.map Ent.p) = (fewC (Cat.p ⟨tag, com, fd, ces, hc, hd, he⟩) && (fewL (ces.map Ent.p) && fewL (es.map Ent.p)))) := rfl
  have hf := few_any (HX.out.ext hE1)
  unfold catV at hf
  dsimp only at hf
  go_enter Tryd.func9, Tryd.ntmps9
  go_upto_region 1 with fail
  rw [← hW1, ← hg]
  clear hW1 hg
  go_wp2_with (first
    | (go_at_call 24; refine Hid.out ?_))
  refine Hid.mk_ ((hf).mono ?_)
  rintro e w2 ⟨rfl, hE2⟩
  have hE02 := hE1.trans hE2
  cases h1 : fewC (Cat.p ⟨tag, com, fd, ces, hc, hd, he⟩) with
  | false =>
    have HF : Hid (few47 (Cat.p ⟨tag, com, fd, ces, hc, hd, he⟩) (es.map Ent.p) = false) := by show _ = _; rw [HFF.out, h1]; rfl
    clear h1
    go_wp2
    go_ret
    exact ⟨by rw [HF.out]; first | done | rfl, hE02⟩
  | true =>
  go_wp2_with (first
    | (go_at_call 25; refine Hid.out ?_))
  refine Hid.mk_ (((rfewL_any (HX.out.ext hE02).e)).mono ?_)
  rintro e w3 ⟨rfl, hE3⟩
  have hE03 := hE02.trans hE3
  dsimp only
  cases h2 : fewL (ces.map Ent.p) with
  | false =>
    have HF : Hid (few47 (Cat.p ⟨tag, com, fd, ces, hc, hd, he⟩) (es.map Ent.p) = false) := by show _ = _; rw [HFF.out, h1, h2]; rfl
    clear h1 h2
    go_wp2
    go_ret
    exact ⟨by rw [HF.out]; first | done | rfl, hE03⟩
  | true =>
  go_wp2_with (first
    | (go_at_call 25; refine Hid.out ?_))
  refine Hid.mk_ (((rfewL_any (EntsW.ext HS.out hE03))).mono ?_)
  rintro e w4 ⟨rfl, hE4⟩
  have HF : Hid (few47 (Cat.p ⟨tag, com, fd, ces, hc, hd, he⟩) (es.map Ent.p) = fewL (es.map Ent.p)) := by show _ = _; rw [HFF.out, h1, h2]; rfl
  clear h1 h2
  go_wp2
  go_ret
  exact ⟨by rw [HF.out]; first | done | rfl, hE03.trans hE4⟩
end
end Go.Proofs.YtcdpmgdocgddcaaDoor
