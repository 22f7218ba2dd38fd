/- The program's chains: the iterator of walk. -/
import Derived.Test.YtdgppdiickmofaaGreatDoorPQ42
import Derived.Test.YtdgppdiickmofaaGreatDoorPQ03
import Derived.Test.YtdgppdiickmofaaGreatDoorPQ43
import Derived.WalkMore
import Derived.Deep.LoopGhost
import Derived.RangeFuncBox
import Derived.RangeFuncLeaves
import Derived.RangeFuncWrites
import Derived.TacticsInMore
namespace Go.Proofs.YtdgppdiickmofaaGreatDoor
open Go.RowKit
set_option maxRecDepth 100000
attribute [local go_sem] ext_refl_t ext_alloc_t ext_drew_t ext_drewN_t ext_alloc2_t ext_alloc3_t ext_alloc4_t ext_alloc5_t ext_alloc6_t ext_alloc7_t ext_alloc8_t ext_alloc1d_t ext_alloc2d_t ext_alloc3d_t ext_alloc4d_t
attribute [local go_sem] yielded_undef
attribute [local go_sem] Oper.semAt_some
def optI : Option Nat → Int
  | some i => i
  | none => -1
theorem findZ_opt (l : TabL) (s : List UInt8) : findZ l s = optI (findC l s) := by unfold findZ optI; cases findC l s <;> rfl
def stopW : Option Nat → List Nat → Option Int
  | none, _ => some 10
  | some i, out => if i ∈ out then some 15 else none
/-- What a round keeps: all below B, and the boxes g1 and g2. -/
structure KpW (B g1 g2 : Nat) (W W' : World) : Prop where
  below : Below B W W'
  b1 : ∀ t cs, Blk W g1 t cs → Blk W' g1 t cs
  b2 : ∀ t cs, Blk W g2 t cs → Blk W' g2 t cs
theorem KpW.trans {B g1 g2 : Nat} {W W1 W2 : World} (h : KpW B g1 g2 W W1) (k : KpW B g1 g2 W1 W2) : KpW B g1 g2 W W2 :=
  ⟨h.below.trans k.below, fun t cs e => k.b1 t cs (h.b1 t cs e), fun t cs e => k.b2 t cs (h.b2 t cs e)⟩
/-- The iterator's boxes. -/
structure WkS (w : World) (g1 g2 : Nat) (t : TabH) (s : List UInt8) (wr : World) : Prop where
  ext : Ext w wr
  b1 : Blk wr g1 26 #[.slice t.hl.A t.hl.m t.hl.c, .slice t.ha.A t.ha.m t.ha.c, .slice t.hn.A t.hn.m t.hn.c]
  b2 : Blk wr g2 9 #[.string (str s)]
theorem WkS.extn {w wr w2 : World} {g1 g2 : Nat} {t : TabH} {s : List UInt8} (h : WkS w g1 g2 t s wr) (hE : Ext wr w2) : WkS w g1 g2 t s w2 := ⟨h.ext.trans hE, h.b1.below hE h.b1.lt, h.b2.below hE h.b2.lt⟩
theorem WkS.kp {w wr w2 : World} {g1 g2 : Nat} {t : TabH} {s : List UInt8} (h : WkS w g1 g2 t s wr) (hk : KpW w.heap.size g1 g2 wr w2) : WkS w g1 g2 t s w2 := ⟨Below.trans h.ext hk.below, hk.b1 _ _ h.b1, hk.b2 _ _ h.b2⟩
theorem nodup_bound : ∀ {n : Nat} {l : List Nat}, l.Nodup → (∀ i ∈ l, i < n) → l.length ≤ n
  | 0, l, _, hb => by
    cases l with
    | nil => exact Nat.le_refl _
    | cons a r => exact absurd (hb a (.head _)) (Nat.not_lt_zero _)
  | n + 1, l, h, hb => by
    have h1 := nodup_bound (n := n) (l := l.erase n) (h.erase n) (fun i hi => by
      have hm := List.mem_of_mem_erase hi
      have hne : i ≠ n := fun e => by subst e; exact List.Nodup.not_mem_erase h hi
      have := hb i hm
      omega)
    have h2 := @List.le_length_erase Nat _ _ n l
    omega
theorem walkC_none {l : TabL} {k : Nat} {out : List Nat} : walkC l (k + 1) none out = ([], 10) := rfl
theorem walkC_in {l : TabL} {k i : Nat} {out : List Nat} (h : i ∈ out) : walkC l (k + 1) (some i) out = ([], 15) := by rw [walkC, if_pos h]
theorem walkC_zero {l : TabL} {k : Nat} {out : List Nat} (h : ¬ 0 ∈ out) : walkC l (k + 1) (some 0) out = (out ++ [0], 0) := by rw [walkC, if_neg h, if_pos rfl]
theorem walkC_step {l : TabL} {k i : Nat} {out : List Nat} (h : ¬ i ∈ out) (h0 : i ≠ 0) : walkC l (k + 1) (some i) out = walkC l k (nextC l i) (out ++ [i]) := by rw [walkC, if_neg h, if_neg h0]
theorem nextC_tab {ls : List LcH} {i : Nat} (hi : i < ls.length) : nextC (tabL ls) i = if ls[i].par ≠ [] then findC (tabL ls) ls[i].par else some (nearC (tabL ls) (parS ls[i].tag)) := by
  have h : (tabL ls)[i]? = some (ls[i].tag, ls[i].par) := by unfold tabL; rw [List.getElem?_map, List.getElem?_eq_getElem hi]; rfl
  unfold nextC
  rw [h]
theorem stop_ne {o : Option Nat} {out : List Nat} {er : Int} (h : stopW o out = some er) (l : TabL) (k : Nat) : walkC l (k + 1) o out = ([], er) ∧ er ≠ 0 := by
  cases o with
  | none => injection h with h; subst h; exact ⟨rfl, by decide⟩
  | some i =>
    have h' : (if i ∈ out then some (15 : Int) else none) = some er := h
    by_cases hi : i ∈ out
    · rw [if_pos hi] at h'
      injection h' with h'
      subst h'
      exact ⟨walkC_in hi, by decide⟩
    · rw [if_neg hi] at h'
      cases h'
theorem joinT_small {p : Tg} (h1 : p.vars.length ≤ 4) (h2 : ∀ x ∈ p.vars, x.length ≤ 8) (h3 : p.lang.length ≤ 8) (h4 : p.scr.length ≤ 8) (h5 : p.reg.length ≤ 8) : (joinT p).length ≤ 1000 := by
  unfold joinT
  have h := join_len [45] (by simp) (N := 8) (partsT p) (fun x hx => by
    unfold partsT at hx
    rw [List.mem_filter] at hx
    have hx := hx.1
    simp only [List.cons_append, List.nil_append, List.mem_cons] at hx
    rcases hx with rfl | rfl | rfl | hx
    · exact h3
    · exact h4
    · exact h5
    · exact h2 x hx)
  have h6 : (partsT p).length ≤ 7 := by
    unfold partsT
    refine Nat.le_trans (List.length_filter_le _ _) ?_
    simp only [List.cons_append, List.nil_append, List.length_cons]
    omega
  omega
theorem parts_small {t : Tg} (h : validT t = true) : t.vars.length ≤ 4 ∧ (∀ x ∈ t.vars, x.length ≤ 8) ∧ t.lang.length ≤ 8 ∧ t.scr.length ≤ 8 ∧ t.reg.length ≤ 8 := by
  obtain ⟨h1, _, h3, h4, h5, h6⟩ := valid_parts h
  refine ⟨h6, fun x hx => ?_, ?_, ?_, ?_⟩
  · have := h1 x hx
    unfold varP at this
    simp only [Bool.and_eq_true, Bool.or_eq_true, decide_eq_true_eq] at this
    omega
  · unfold langP at h3
    simp only [Bool.and_eq_true, Bool.or_eq_true, decide_eq_true_eq] at h3
    omega
  · rcases h4 with h4 | h4
    · rw [h4]; simp
    · unfold scrP at h4
      simp only [Bool.and_eq_true, decide_eq_true_eq] at h4
      omega
  · rcases h5 with h5 | h5
    · rw [h5]; simp
    · unfold regP at h5
      simp only [Bool.and_eq_true, Bool.or_eq_true, decide_eq_true_eq] at h5
      omega
theorem parS_len (s : List UInt8) : (parS s).length ≤ 1000 := by
  unfold parS
  split
  · rename_i hp
    obtain ⟨h1, h2, h3, h4, h5⟩ := parts_small (parse_valid (s := s) (by rw [← hp]))
    split
    · simp
    · rename_i p hq
      unfold parentT at hq
      split at hq
      · injection hq with hq
        subst hq
        exact joinT_small (Nat.le_trans (List.length_take_le' _ _) h1) (fun x hx => h2 x (List.mem_of_mem_take hx)) h3 h4 h5
      split at hq
      · injection hq with hq
        subst hq
        exact joinT_small h1 h2 h3 h4 (by simp)
      split at hq
      · injection hq with hq
        subst hq
        exact joinT_small h1 h2 h3 (by simp) h5
      split at hq
      · injection hq with hq
        subst hq
        exact joinT_small h1 h2 (by simp) h4 h5
      · cases hq
  · simp
section
variable {w : World}
set_option maxHeartbeats 12800000 in
theorem walk1_in (n : Nat) (hn : 1 ≤ n) {t : TabH} (ht : TabW w t) (h0 : 0 < t.ls.length) (hM : MX w) {s : List UInt8} (hs : s.length ≤ 1000) {g1 g2 : Nat} (q : Nat) (J : List Nat → World → Prop) (Jx : Int → World → Prop) (W : World)
    (hW : WkS w g1 g2 t s W) (hJ : ∀ out X Y, J out X → Ext X Y → J out Y) (hJx : ∀ er X Y, Jx er X → Ext X Y → Jx er Y) (hP : ∀ out X, J out X → out.Nodup ∧ ∀ i ∈ out, i < t.ls.length)
    (hY : ∀ out o X, J out X → (∀ i, o = some i → i < t.ls.length) → YieldAt Fence.wide (n - 1) Tryz.prog q #[.int .i64 (optI o)] X fun e X' =>
      (∃ i, o = some i ∧ i ∉ out ∧ e = .returned (.bool true) ∧ J (out ++ [i]) X' ∧ KpW w.heap.size g1 g2 X X') ∨ (∃ er, stopW o out = some er ∧ e = .returned (.bool false) ∧ Jx er X')) (hj0 : J [] W) :
    CallsIn Fence.wide n Tryz.prog 77 #[.func (.yield q) #[] #[], .pointer (some ⟨g1, 0, none⟩), .pointer (some ⟨g2, 0, none⟩)] W fun e W' => (∃ v, e = .returned v) ∧
      ((∃ out, walkC (tabL t.ls) (t.ls.length + 1) (some (nearC (tabL t.ls) s)) [] = (out, 0) ∧ J out W') ∨ (∃ er, walkC (tabL t.ls) (t.ls.length + 1) (some (nearC (tabL t.ls) s)) [] = ([], er) ∧ er ≠ 0 ∧ Jx er W')) := by
  have HT := Lib.hid ht
  have HM := Lib.hid hM
  have HJ := Lib.hid hJ
  have HJx := Lib.hid hJx
  have HP := Lib.hid hP
  have HY := Lib.hid hY
  have HW0 := Lib.hid hW
  have HLS := Lib.hid h0
  have HNR : Hid (∀ X, Ext w X → ∀ s, s.length ≤ 1000 → Calls Tryz.prog 78 #[tbV t, .string (str s)] X fun e w' => e = .returned (.int .i64 (nearC (tabL t.ls) s)) ∧ Ext X w') := fun X hE s hs => nearest_any (ht.ext hE) hs (hM.ext hE)
  have HFD : Hid (∀ X, Ext w X → ∀ s, Calls Tryz.prog 79 #[tbV t, .string (str s)] X fun e w' => e = .returned (.int .i64 (findZ (tabL t.ls) s)) ∧ Ext X w') := fun X hE s => find_any (ht.ext hE) s
  have HPR : Hid (∀ X, Ext w X → ∀ s, s.length ≤ 1000 → Calls Tryz.prog 80 #[.string (str s)] X fun e w' => (∃ z : Int, e = .returned (.tuple #[.string (str (parS s)), .int .i64 z])) ∧ Ext X w') := fun X hE s hs => tparS_any hs (hM.ext hE)
  clear ht hM hJ hJx hP hY hW h0
  refine callsIn_wide.2 ?_
  obtain ⟨ls, al, nr, ⟨A1, m1, c1⟩, ⟨A2, m2, c2⟩, ⟨A3, m3, c3⟩⟩ := t
  unfold tbV at HNR HFD
  dsimp only at HT HNR HFD HP HY HLS ⊢
  have HL : Hid (m1 = ls.length) := HT.out.ls.sl.len
  have hm12 : m1 ≤ 12 := by have := HL.out; have := HT.out.l12; dsimp only at *; omega
  obtain ⟨res, hres⟩ : ∃ r, r = walkC (tabL ls) (ls.length + 1) (some (nearC (tabL ls) s)) [] := ⟨_, rfl⟩
  have HRES := Lib.hid hres
  rw [← hres]
  clear hres
  have k0 := laters (show W.cell? ⟨g1, 0, none⟩ = some (.slice A1 m1 c1) from HW0.out.b1.cell 0)
  have k1 := laters (show W.cell? ⟨g1, 1, none⟩ = some (.slice A2 m2 c2) from HW0.out.b1.cell 1)
  have k2 := laters (show W.cell? ⟨g1, 2, none⟩ = some (.slice A3 m3 c3) from HW0.out.b1.cell 2)
  have k3 := laters (show W.cell? ⟨g2, 0, none⟩ = some (.string (str s)) from HW0.out.b2.cell 0)
  have hEr := Ext.refl W
  go_enter Tryz.func77, Tryz.ntmps77
  go_wp2_with (first
    | (go_at_call 78; refine Hid.out ?_))
  refine Hid.mk_ ((HNR.out W HW0.out.ext s hs).mono ?_)
  rintro e w1 ⟨rfl, hE1⟩
  have HW1 := Lib.hid (HW0.out.extn hE1)
  have HJ1 := Lib.hid (HJ.out _ _ _ hj0 hE1)
  have HNL : Hid (nearC (tabL ls) s < ls.length) := by
    have h := nearC_lt (l := tabL ls) (by rw [tabL_len]; exact HLS.out) s
    rwa [tabL_len] at h
  clear k0 k1 k2 k3 hEr hs hj0
  go_wp2
  go_loopg [4, 5, 6, 7] (ls.length) (fun gz s4 _ _ _ wx => ∃ (o : Option Nat) (out : List Nat), s4 = .int .i64 (optI o) ∧ Hid (J out wx) ∧ Hid (WkS w g1 g2 ⟨ls, al, nr, ⟨A1, m1, c1⟩, ⟨A2, m2, c2⟩, ⟨A3, m3, c3⟩⟩ s wx) ∧ Hid (res = walkC (tabL ls) (gz + 1) o out) ∧ Hid (out.length + gz = ls.length) ∧ Hid (∀ i, o = some i → i < ls.length))
  case atStart => exact ⟨some (nearC (tabL ls) s), [], rfl, HJ1, HW1, HRES, Lib.hid (by simp), Lib.hid (by intro i hi; injection hi with hi; rw [← hi]; exact HNL.out)⟩
  case round =>
    obtain ⟨o, out, rfl, HJk, HWk, HC, HLk, HO⟩ := hrel
    obtain ⟨fn, tmps, assign, body, hy, hR⟩ := HY.out out o wr HJk.out HO.out
    refine (wpIn_wide (n := n)).1 ?_
    gi_wp2
    refine hR.mono ?_
    clear hR hy
    rintro e W3 (⟨i, rfl, hi, rfl, hJ3, hk3⟩ | ⟨er, hst, rfl, hJx3⟩)
    · have HJ3 := Lib.hid hJ3
      have HS3 := Lib.hid (HWk.out.kp hk3)
      have HI := Lib.hid hi
      clear hJ3 hk3 hi
      have hil : i < ls.length := HO.out i rfl
      have eoi : optI (some i) = (i : Int) := rfl
      rw [eoi]
      clear eoi
      rcases Nat.eq_zero_or_pos i with hi0 | hi0
      · have HI0 := Lib.hid hi0
        have hn0 : ¬ (i : Int) > 0 := by omega
        clear hi0
        gi_wp2
        go_wp2
        go_end0
        have hi0 := HI0.out
        subst hi0
        exact ⟨⟨_, rfl⟩, .inl ⟨out ++ [0], by rw [HC.out, walkC_zero HI.out], HJ3.out⟩⟩
      · have hgz : 1 ≤ gk := by
          have h1 := HP.out _ _ HJ3.out
          have h2 := nodup_bound h1.1 h1.2
          rw [List.length_append, List.length_singleton] at h2
          have := HLk.out
          omega
        obtain ⟨gz', rfl⟩ : ∃ gz', gk = gz' + 1 := ⟨gk - 1, by omega⟩
        have hipos : (i : Int) > 0 := by omega
        have him : i < m1 := by have := HL.out; omega
        have himi : (i : Int) < (m1 : Int) := by omega
        have HLN : Hid ((out ++ [i]).length + gz' = ls.length) := by show _ = _; rw [List.length_append, List.length_singleton]; have := HLk.out; omega
        have HCN : Hid (res = walkC (tabL ls) (gz' + 1) (nextC (tabL ls) i) (out ++ [i])) := by show _ = _; rw [HC.out, walkC_step HI.out (by omega)]
        obtain ⟨b, off, e0, hbl, hcs⟩ := (HT.out.ls.sl.ext HS3.out.ext).at_ him (by omega)
        dsimp only at e0
        subst e0
        obtain ⟨y, hyq⟩ : ∃ y, y = ls[i] := ⟨_, rfl⟩
        have y0 := hcs i hil 0 (by omega)
        have y1 := hcs i hil 1 (by omega)
        have y2 := hcs i hil 2 (by omega)
        have y3 := hcs i hil 3 (by omega)
        have y4 := hcs i hil 4 (by omega)
        have y5 := hcs i hil 5 (by omega)
        have y6 := hcs i hil 6 (by omega)
        have y7 := hcs i hil 7 (by omega)
        have y8 := hcs i hil 8 (by omega)
        have y9 := hcs i hil 9 (by omega)
        have y10 := hcs i hil 10 (by omega)
        have y11 := hcs i hil 11 (by omega)
        have y12 := hcs i hil 12 (by omega)
        have y13 := hcs i hil 13 (by omega)
        have y14 := hcs i hil 14 (by omega)
        have y15 := hcs i hil 15 (by omega)
        simp only [← hyq, lcC, List.getElem_cons_zero, List.getElem_cons_succ, Nat.add_zero, ← Nat.add_assoc] at y0 y1 y2 y3 y4 y5 y6 y7 y8 y9 y10 y11 y12 y13 y14 y15
        have HG := Lib.hid (HT.out.ls.good y (by rw [hyq]; exact List.getElem_mem hil))
        have HNX : Hid (nextC (tabL ls) i = if y.par ≠ [] then findC (tabL ls) y.par else some (nearC (tabL ls) (parS y.tag))) := by show _ = _; rw [nextC_tab hil, hyq]
        have hc0 := HS3.out.b1.cell 0
        simp only [List.getElem?_toArray, List.getElem?_cons_zero] at hc0
        have q1 : (str y.par).toList.isEmpty = decide (y.par = []) := by rw [str_toList]; cases y.par <;> rfl
        obtain ⟨tg, htg⟩ : ∃ s, s = str y.tag := ⟨_, rfl⟩
        obtain ⟨pr, hpr⟩ : ∃ s, s = str y.par := ⟨_, rfl⟩
        obtain ⟨bp, hbp⟩ : ∃ b, b = decide (y.par = []) := ⟨_, rfl⟩
        rw [← hpr, ← hbp] at q1
        rw [← htg] at y0
        rw [← hpr] at y1
        have HTG := Lib.hid htg
        have HPRR := Lib.hid hpr
        have HBP := Lib.hid hbp
        obtain ⟨W4, hW4⟩ : ∃ W4, W4 = W3.alloc (.cells #[.string tg, .string pr, .string (str y.dir), .slice y.card.A y.card.m y.card.c, .slice y.ord.A y.ord.m y.ord.c, .string (str y.dec), .string (str y.grp), .string (str y.min), .string (str y.pct), .int .i64 y.p1, .int .i64 y.p2, .slice y.lst.A y.lst.m y.lst.c, .slice y.unt.A y.unt.m y.unt.c, .slice y.dat.A y.dat.m y.dat.c, .slice y.mon.A y.mon.m y.mon.c, .slice y.day.A y.day.m y.day.c] 38) := ⟨_, rfl⟩
        obtain ⟨g5, hg5⟩ : ∃ g, g = W3.heap.size := ⟨_, rfl⟩
        have hE4 : Ext W3 W4 := by rw [hW4]; exact (Ext.refl W3).alloc _
        have hd0 : W4.cell? ⟨g5, 0, none⟩ = some (.string tg) := by rw [hW4, hg5]; exact (Blk.new W3 38 _).cell 0
        have hd1 : W4.cell? ⟨g5, 1, none⟩ = some (.string pr) := by rw [hW4, hg5]; exact (Blk.new W3 38 _).cell 1
        have HW4 := Lib.hid hW4
        have HG5 := Lib.hid hg5
        have HD0 := Lib.hid hd0
        have HD1 := Lib.hid hd1
        have HE4 := Lib.hid hE4
        have Q1 := Lib.hid q1
        clear htg hpr hbp hcs hyq hW4 hg5 hd0 hd1 hE4 q1 HI hil hi0
        have HS4 := Lib.hid (HS3.out.extn HE4.out)
        have HJ4 := Lib.hid (HJ.out _ _ _ HJ3.out HE4.out)
        have t0 := laters (show W3.cell? ⟨g1, 0, none⟩ = some (.slice (some ⟨b, off, none⟩) m1 c1) from HS3.out.b1.cell 0)
        have t1 := laters (show W3.cell? ⟨g1, 1, none⟩ = some (.slice A2 m2 c2) from HS3.out.b1.cell 1)
        have t2 := laters (show W3.cell? ⟨g1, 2, none⟩ = some (.slice A3 m3 c3) from HS3.out.b1.cell 2)
        have hEr := Ext.refl W3
        have q1 := Q1.out
        cases bp with
        | false =>
          have HNZ : Hid (nextC (tabL ls) i = findC (tabL ls) y.par) := by show _ = _; rw [HNX.out, if_pos (of_decide_eq_false HBP.out.symm)]
          have HFK := Lib.hid (HFD.out W4 HS4.out.ext y.par)
          rw [← HPRR.out] at HFK
          gi_wp2_with (first | (gi_at_call 79; refine Hid.out ?_))
          rw [← HW4.out]
          first | refine Hid.mk_ (⟨trivial, callsW ((HFK.out).mono ?_)⟩) | refine Hid.mk_ (callsW ((HFK.out).mono ?_)) | refine ⟨trivial, callsW ((HFK.out).mono ?_)⟩
          rintro e W5 ⟨rfl, hE5⟩
          have HS5 := Lib.hid (HS4.out.extn hE5)
          have HJ5 := Lib.hid (HJ.out _ _ _ HJ4.out hE5)
          have HON : Hid (∀ j, findC (tabL ls) y.par = some j → j < ls.length) := fun j hj => by have := findC_lt hj; rwa [tabL_len] at this
          have HCF : Hid (res = walkC (tabL ls) (gz' + 1) (findC (tabL ls) y.par) (out ++ [i])) := by show _ = _; rw [HCN.out, HNZ.out]
          rw [findZ_opt]
          clear q1 t0 t1 t2 hEr y0 y1 y2 y3 y4 y5 y6 y7 y8 y9 y10 y11 y12 y13 y14 y15 hc0 hE5
          gi_wp2
          go_wp2
          go_roundg gz'
          case measure => omega
          case rel => exact ⟨_, _, rfl, HJ5, HS5, HCF, HLN, HON⟩
        | true =>
          have HNZ : Hid (nextC (tabL ls) i = some (nearC (tabL ls) (parS y.tag))) := by show _ = _; rw [HNX.out, if_neg (fun h => h (of_decide_eq_true HBP.out.symm))]
          have HPK := Lib.hid (HPR.out W4 HS4.out.ext y.tag (by have := HG.out.1; omega))
          rw [← HTG.out] at HPK
          gi_wp2_with (first | (gi_at_call 80; refine Hid.out ?_))
          rw [← HW4.out]
          first | refine Hid.mk_ (⟨trivial, callsW ((HPK.out).mono ?_)⟩) | refine Hid.mk_ (callsW ((HPK.out).mono ?_)) | refine ⟨trivial, callsW ((HPK.out).mono ?_)⟩
          rintro e W5 ⟨⟨z, rfl⟩, hE5⟩
          have HS5 := Lib.hid (HS4.out.extn hE5)
          have HJ5 := Lib.hid (HJ.out _ _ _ HJ4.out hE5)
          have HNK := Lib.hid (HNR.out W5 HS5.out.ext (parS y.tag) (parS_len _))
          clear q1 t0 t1 t2 hEr y0 y1 y2 y3 y4 y5 y6 y7 y8 y9 y10 y11 y12 y13 y14 y15 hc0 hE5
          have t0 := laters (show W5.cell? ⟨g1, 0, none⟩ = some (.slice (some ⟨b, off, none⟩) m1 c1) from HS5.out.b1.cell 0)
          have t1 := laters (show W5.cell? ⟨g1, 1, none⟩ = some (.slice A2 m2 c2) from HS5.out.b1.cell 1)
          have t2 := laters (show W5.cell? ⟨g1, 2, none⟩ = some (.slice A3 m3 c3) from HS5.out.b1.cell 2)
          have hEr := Ext.refl W5
          gi_wp2_with (first | (gi_at_call 78; refine Hid.out ?_))
          first | refine Hid.mk_ (⟨trivial, callsW ((HNK.out).mono ?_)⟩) | refine Hid.mk_ (callsW ((HNK.out).mono ?_)) | refine ⟨trivial, callsW ((HNK.out).mono ?_)⟩
          rintro e W6 ⟨rfl, hE6⟩
          have HS6 := Lib.hid (HS5.out.extn hE6)
          have HJ6 := Lib.hid (HJ.out _ _ _ HJ5.out hE6)
          have HON : Hid (∀ j, some (nearC (tabL ls) (parS y.tag)) = some j → j < ls.length) := fun j hj => by
            injection hj with hj
            have := nearC_lt (l := tabL ls) (by rw [tabL_len]; exact HLS.out) (parS y.tag)
            rw [tabL_len] at this
            omega
          have HCF : Hid (res = walkC (tabL ls) (gz' + 1) (some (nearC (tabL ls) (parS y.tag))) (out ++ [i])) := by show _ = _; rw [HCN.out, HNZ.out]
          clear t0 t1 t2 hE6 hEr
          gi_wp2
          go_wp2
          go_roundg gz'
          case measure => omega
          case rel => exact ⟨some (nearC (tabL ls) (parS y.tag)), _, rfl, HJ6, HS6, HCF, HLN, HON⟩
    · gi_wp2
      try go_wp2
      go_end0
      have h := stop_ne hst (tabL ls) gk
      exact ⟨⟨_, rfl⟩, .inr ⟨er, by rw [HC.out]; exact h.1, h.2, hJx3⟩⟩
end
end Go.Proofs.YtdgppdiickmofaaGreatDoor
