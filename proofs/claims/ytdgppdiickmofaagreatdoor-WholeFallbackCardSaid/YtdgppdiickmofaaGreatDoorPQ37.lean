/- The program's effective locales: cmp.Or of strings. -/
import Derived.Test.YtdgppdiickmofaaGreatDoorPQ27
namespace Go.Proofs.YtdgppdiickmofaaGreatDoor
open Go.RowKit
set_option maxRecDepth 100000
attribute [local go_sem] ext_refl_t ext_alloc_t ext_drew_t ext_drewN_t ext_alloc2_t ext_alloc3_t ext_alloc4_t ext_alloc5_t ext_alloc6_t ext_alloc7_t ext_alloc8_t ext_alloc1d_t ext_alloc2d_t ext_alloc3d_t ext_alloc4d_t
section
variable {w : World}
theorem isEmpty_str (x : List UInt8) : (str x).toList.isEmpty = decide (x = []) := by rw [str_toList]; cases x <;> rfl
set_option maxHeartbeats 1600000 in
theorem ors_any (b : Nat) (x y : List UInt8) (h0 : w.cell? ⟨b, 0, none⟩ = some (.string (str x))) (h1 : w.cell? ⟨b, 1, none⟩ = some (.string (str y))) :
    Calls Tryz.prog 16 #[.slice (some ⟨b, 0, none⟩) 2 2] w fun e w' => e = .returned (.string (str (if x = [] then y else x))) ∧ w' = w := by
  obtain ⟨r, hr⟩ : ∃ r, r = str (if x = [] then y else x) := ⟨_, rfl⟩
  have HR : Hid (r = if x = [] then str y else str x) := by show _ = _; rw [hr]; split <;> rfl
  have ex := isEmpty_str x
  have ey := isEmpty_str y
  have HY0 : Hid (y = [] → str y = ⟨#[]⟩) := fun h => by rw [h]; rfl
  rw [← hr]
  obtain ⟨sx, hsx⟩ : ∃ s, s = str x := ⟨_, rfl⟩
  obtain ⟨sy, hsy⟩ : ∃ s, s = str y := ⟨_, rfl⟩
  rw [← hsx] at h0 ex HR
  rw [← hsy] at h1 ey HR HY0
  clear hsx hsy hr
  have EX := Lib.hid ex
  have EY := Lib.hid ey
  clear ex ey
  go_enter Tryz.func16, Tryz.ntmps16
  go_wp2
  go_loopw [5, 8] (fun _ i wr => ∃ q : Nat, q ≤ 2 ∧ i = .int .i64 q ∧ Hid (0 < q → x = []) ∧ Hid (1 < q → y = []) ∧ wr = w) (fun _ i _ => 2 - (intOf i).toNat)
  case atStart => exact ⟨0, by omega, rfl, Lib.hid (by omega), Lib.hid (by omega), rfl⟩
  case round =>
    obtain ⟨q, hq, rfl, hx, hy, rfl⟩ := hrel
    by_cases q0 : q = 0
    · subst q0
      by_cases hx0 : x = []
      · have HX := Lib.hid hx0
        have e1 : sx.toList.isEmpty = true := by rw [EX.out]; exact decide_eq_true hx0
        clear hx0
        go_wp2
        go_roundw
        case rel => exact ⟨1, by omega, rfl, Lib.hid fun _ => HX.out, Lib.hid (by omega), trivial⟩
        case measure => simp [intOf]
      · have HX := Lib.hid hx0
        have e1 : sx.toList.isEmpty = false := by rw [EX.out]; exact decide_eq_false hx0
        clear hx0
        go_wp2
        go_ret
        exact ⟨by rw [HR.out, if_neg HX.out]; rfl, rfl⟩
    · by_cases q1 : q = 1
      · subst q1
        by_cases hy0 : y = []
        · have HY := Lib.hid hy0
          have e1 : sy.toList.isEmpty = true := by rw [EY.out]; exact decide_eq_true hy0
          clear hy0
          go_wp2
          go_roundw
          case rel => exact ⟨2, by omega, rfl, Lib.hid fun _ => hx.out (by omega), Lib.hid fun _ => HY.out, trivial⟩
          case measure => simp [intOf]
        · have HY := Lib.hid hy0
          have e1 : sy.toList.isEmpty = false := by rw [EY.out]; exact decide_eq_false hy0
          clear hy0
          go_wp2
          go_ret
          exact ⟨by rw [HR.out, if_pos (hx.out (by omega))]; rfl, rfl⟩
      · obtain rfl : q = 2 := by omega
        go_wp2
        go_ret
        exact ⟨by rw [HR.out, if_pos (hx.out (by omega)), HY0.out (hy.out (by omega))]; rfl, rfl⟩
end
end Go.Proofs.YtdgppdiickmofaaGreatDoor

/- One field of an element is written; what lies apart from fewer blocks. -/
namespace Go.Proofs.YtdgppdiickmofaaGreatDoor
open Go.RowKit
set_option maxRecDepth 100000
theorem flat_setF {α : Type} {cs : α → List Value} {k : Nat} (h1 : ∀ x, (cs x).length = k) {f : Nat} (hf : f < k) (u : Value) (y : α) : ∀ (l : List α) (i : Nat) (hi : i < l.length), cs y = (cs l[i]).set f u → (l.flatMap cs).set (i * k + f) u = (l.set i y).flatMap cs
  | [], i, hi, _ => absurd hi (Nat.not_lt_zero _)
  | x :: r, 0, _, hy => by
    rw [List.flatMap_cons, List.set_cons_zero, List.flatMap_cons, Nat.zero_mul, Nat.zero_add, List.set_append_left _ _ (by rw [h1]; exact hf)]
    rw [show cs y = (cs x).set f u from hy]
  | x :: r, i + 1, hi, hy => by
    have h2 := flat_setF h1 hf u y r i (by simpa using hi) hy
    rw [List.flatMap_cons, List.set_cons_succ, List.flatMap_cons, List.set_append_right _ _ (by rw [h1, Nat.succ_mul]; omega), ← h2, h1]
    rw [show (i + 1) * k + f - k = i * k + f by rw [Nat.succ_mul]; omega]
section
variable {α : Type} {cs : α → List Value} {t e : TypeId} {k by_ : Nat} {w w' : World} {base : Nat} {A : Option Addr} {m c : Nat} {l : List α}
/-- One field of element i. -/
theorem OsC.setF (hown : OsC cs e k w base A m c l) {i : Nat} (hi : i < m) {g : Nat} (hA : A = some ⟨g, 0, none⟩) {f : Nat} (hf : f < k) (u : Value) (y : α) (hil : i < l.length) (hy : cs y = (cs l[i]).set f u) :
    w.frozen? ⟨g, i * k + f, none⟩ = false ∧ OsC cs e k (w.setCell ⟨g, i * k + f, none⟩ u) base A m c (l.set i y) ∧ w.grownBy (w.setCell ⟨g, i * k + f, none⟩ u) (ob A) := by
  obtain ⟨g', cur, hA', hg, hh, hmc, hc, hsz, htk⟩ := hown.row (by omega)
  rw [hA] at hA'
  simp only [Option.some.injEq, Addr.mk.injEq, and_true] at hA'
  subst hA'
  have hb : Blk w g e cur := hh
  refine ⟨hb.frozen _, OsC.of_row hA hg (hb.set_ (i * k + f) u) hmc hc (by simpa using hsz) ?_ hown.one hown.cell (by rw [List.length_set]; exact hown.len) hown.le, ?_⟩
  · rw [← flat_setF hown.one hf u y l i hil hy, ← htk, Array.toList_setIfInBounds, List.take_set]
  · rw [hA]
    exact ⟨rfl, rfl, rfl, by simp, fun j hj hn => Below.heap_setCell w ⟨g, i * k + f, none⟩ u j (fun e => hn (by rw [e]; rfl))⟩
end
section
variable {w w' : World} {S S' : Nat → Prop}
theorem ApS.less {h : SlH} (ha : ApS S h) (hS : ∀ g, S' g → S g) : ApS S' h := ha.elim .inl fun h1 => .inr fun g hg hs => h1 g hg (hS g hs)
theorem DRl.less {x : RlH} (h : DRl w S x) (hS : ∀ g, S' g → S g) : DRl w S' x := ⟨h.1, h.2.less hS⟩
theorem DRw.less {x : RwH} (h : DRw w S x) (hS : ∀ g, S' g → S g) : DRw w S' x := ⟨h.1, h.2.1.less hS, fun y hy => (h.2.2 y hy).less hS⟩
theorem DRx.less {x : RxH} (h : DRx w S x) (hS : ∀ g, S' g → S g) : DRx w S' x := ⟨h.1, h.2.1.less hS, fun y hy => (h.2.2 y hy).less hS⟩
end
end Go.Proofs.YtdgppdiickmofaaGreatDoor

/- The program's effective locales: rules. -/
namespace Go.Proofs.YtdgppdiickmofaaGreatDoor
open Go.RowKit
set_option maxRecDepth 100000
attribute [local go_sem] ext_refl_t ext_alloc_t ext_drew_t ext_drewN_t ext_alloc2_t ext_alloc3_t ext_alloc4_t ext_alloc5_t ext_alloc6_t ext_alloc7_t ext_alloc8_t ext_alloc1d_t ext_alloc2d_t ext_alloc3d_t ext_alloc4d_t
theorem map_set_same {α β : Type} {f : α → β} {l : List α} {i : Nat} {y : α} (hi : i < l.length) (h : f y = f l[i]) : (l.set i y).map f = l.map f := by
  rw [List.map_set, h]
  apply List.ext_getElem
  · simp
  · intro j h1 h2
    rw [List.getElem_set]
    split
    · rename_i e; subst e; simp
    · rfl
theorem OsC.cong {α : Type} {cs : α → List Value} {e : TypeId} {k : Nat} {w : World} {base : Nat} {A : Option Addr} {m c : Nat} {l l' : List α} (h : OsC cs e k w base A m c l) (h1 : l.map cs = l'.map cs) : OsC cs e k w base A m c l' := by
  have h2 : l.flatMap cs = l'.flatMap cs := by rw [List.flatMap_def, List.flatMap_def, h1]
  have h3 : l.length = l'.length := by have := congrArg List.length h1; rwa [List.length_map, List.length_map] at this
  exact ⟨by rw [← h2]; exact h.own, h.one, h.cell, h.len.trans h3, h.le⟩
theorem mem_set_of {α : Type} {l : List α} {i : Nat} {y x : α} (h : x ∈ l.set i y) : x = y ∨ x ∈ l := by
  rcases List.mem_or_eq_of_mem_set h with h | h
  · exact .inr h
  · exact .inl h
section
variable {w : World}
set_option maxHeartbeats 12800000 in
theorem rules_any {A : Option Addr} {m c : Nat} {L : List RxH} (hs : SlC rxC 2 w A m L) (hbd : m * 40 ≤ 140737488351232) {S0 : Nat → Prop} (hS0 : ∀ g, S0 g → g < w.heap.size) (hd : ∀ x ∈ L, DRx w S0 x) :
    Calls Tryz.prog 17 #[.slice A m c] w fun e w' => (∃ (h : SlH) (L' : List RxH), e = .returned (.slice h.A h.m h.c) ∧ OsC rxC 61 2 w' w.heap.size h.A h.m h.c L' ∧ L'.map plRx = L.map plRx ∧ ∀ x ∈ L', DRx w' (fun g => S0 g ∨ ob h.A = some g) x) ∧ Ext w w' := by
  have HCL := Lib.hid (rxclone_any (c := c) hs hbd)
  have HD := Lib.hid hd
  have HL0 : Hid (m = L.length) := hs.len
  have HBD := Lib.hid hbd
  have HS0 := Lib.hid hS0
  clear hs hd hbd hS0
  go_enter Tryz.func17, Tryz.ntmps17
  go_wp2_with (first
    | (go_at_call 52; refine Hid.out ?_))
  refine Hid.mk_ ((HCL.out).mono ?_)
  rintro e w1 ⟨⟨A1, m1, c1⟩, rfl, hown, hE1⟩
  dsimp only at hown ⊢
  have HM1 : Hid (m1 = L.length) := hown.len
  have hle1 : m1 ≤ 17592186044416 := hown.le
  have HD1 : Hid (∀ x ∈ L, DRx w1 (fun g => S0 g ∨ ob A1 = some g) x) := fun x hx => ((HD.out x hx).more (S' := fun g => S0 g ∨ ob A1 = some g) (fun g hg => hg.elim .inl (fun e => .inr (hown.ge g e)))).ext hE1
  have HO1 := Lib.hid hown
  have HE1 := Lib.hid hE1
  clear hown hE1 HCL
  go_wp2
  go_loopw [4, 5, 6, 7, 12] (fun _ _ _ _ i wr => ∃ (q : Nat) (L' : List RxH), q ≤ m1 ∧ i = .int .i64 q ∧ Hid (Ext w wr) ∧ Hid (OsC rxC 61 2 wr w.heap.size A1 m1 c1 L') ∧ Hid (L'.map plRx = L.map plRx) ∧ Hid (∀ x ∈ L', DRx wr (fun g => S0 g ∨ ob A1 = some g) x)) (fun _ _ _ _ i _ => m1 - (intOf i).toNat)
  case atStart => exact ⟨0, L, Nat.zero_le _, rfl, HE1, HO1, rfl, HD1⟩
  case round =>
    obtain ⟨q, L', hq, rfl, HE, HO, HPL, HDR⟩ := hrel
    obtain ⟨wo, hwo⟩ : ∃ wo : World, wo = wr := ⟨_, rfl⟩
    rw [← hwo] at HE HO HDR ⊢
    clear hwo
    by_cases hlt : q < m1
    · have hil : q < L'.length := by rw [← HO.out.len]; exact hlt
      obtain ⟨g3, cur, hA3, hge3, _, _, _, _, _⟩ := HO.out.row (by omega)
      subst hA3
      obtain ⟨b, off, e0, hbl, hcs⟩ := HO.out.sl.at_ hlt (by omega)
      simp only [Option.some.injEq, Addr.mk.injEq, and_true] at e0
      obtain ⟨e01, e02⟩ := e0
      subst e01
      subst e02
      have x1 := hcs q hil 1 (by omega)
      obtain ⟨x, hxq⟩ : ∃ x, x = L'[q] := ⟨_, rfl⟩
      have hdx := HDR.out x (by rw [hxq]; exact List.getElem_mem hil)
      obtain ⟨cls, ⟨TA, tm, tc⟩, rows⟩ := x
      simp only [← hxq, rxC, List.getElem_cons_zero, List.getElem_cons_succ, Nat.zero_add] at x1
      have HDX := Lib.hid hdx
      have HXQ := Lib.hid hxq
      have HBT : Hid (tm * 24 ≤ 140737488351232) := hdx.1.bd
      have hi1 : (q : Int) < (m1 : Int) := by omega
      clear hcs hbl hdx hxq
      go_wp2_with (first
        | (go_at_call 53; refine Hid.out ?_))
      refine Hid.mk_ ((rwclone_any (c := tc) HDX.out.1.sl HBT.out).mono ?_)
      rintro e w2 ⟨⟨A2, m2, c2⟩, rfl, ho2, hE2⟩
      dsimp only at ho2 ⊢
      have HM2 : Hid (m2 = rows.length) := ho2.len
      have hle2 : m2 ≤ 17592186044416 := ho2.le
      have HR2 : Hid (∀ y ∈ rows, DRw w2 (fun g => S0 g ∨ g = g3 ∨ ob A2 = some g) y) := fun y hy => ((HDX.out.2.2 y hy).more (S' := fun g => S0 g ∨ g = g3 ∨ ob A2 = some g) (fun g hg => hg.elim (fun e => .inl (.inl e)) (fun e => e.elim (fun e => .inl (.inr (by rw [e]; rfl))) (fun e => .inr (ho2.ge g e))))).ext hE2
      have HO2 := Lib.hid ho2
      have HE2 := Lib.hid hE2
      clear ho2 hE2 x1
      go_wp2
      go_loopw [6, 7, 23] (fun _ _ i w3 => ∃ (p : Nat) (R' : List RwH), p ≤ m2 ∧ i = .int .i64 p ∧ Hid (Ext wo w3) ∧ Hid (OsC rwC 116 1 w3 wo.heap.size A2 m2 c2 R') ∧ Hid (R'.map plRw = rows.map plRw) ∧ Hid (∀ y ∈ R', DRw w3 (fun g => S0 g ∨ g = g3 ∨ ob A2 = some g) y)) (fun _ _ i _ => m2 - (intOf i).toNat)
      case atStart => exact ⟨0, rows, Nat.zero_le _, rfl, HE2, HO2, rfl, HR2⟩
      case round =>
        obtain ⟨p, R', hp, rfl, HE3, HO3, HPR, HDW⟩ := hrel
        obtain ⟨w3, hw3⟩ : ∃ w3 : World, w3 = wr := ⟨_, rfl⟩
        rw [← hw3] at HE3 HO3 HDW ⊢
        clear hw3
        by_cases hlt2 : p < m2
        · have hil2 : p < R'.length := by rw [← HO3.out.len]; exact hlt2
          obtain ⟨g5, cur5, hA5, hge5, _, _, _, _, _⟩ := HO3.out.row (by omega)
          subst hA5
          obtain ⟨b, off, e0, hbl, hcs⟩ := HO3.out.sl.at_ hlt2 (by omega)
          simp only [Option.some.injEq, Addr.mk.injEq, and_true] at e0
          obtain ⟨e01, e02⟩ := e0
          subst e01
          subst e02
          have x2 := hcs p hil2 0 (by omega)
          obtain ⟨y, hyq⟩ : ∃ y, y = R'[p] := ⟨_, rfl⟩
          have hdy := HDW.out y (by rw [hyq]; exact List.getElem_mem hil2)
          obtain ⟨⟨TB, tn, td⟩, rels⟩ := y
          simp only [← hyq, rwC, List.getElem_cons_zero, Nat.zero_add, Nat.mul_one, Nat.add_zero] at x2
          have HDY := Lib.hid hdy
          have HYQ := Lib.hid hyq
          have HBN : Hid (tn * 48 ≤ 140737488351232) := hdy.1.bd
          have HGE5 : Hid (wo.heap.size ≤ g5 ∧ g5 < w3.heap.size) := ⟨HO3.out.ge g5 rfl, HO3.out.lt g5 rfl⟩
          have hi2 : (p : Int) < (m2 : Int) := by omega
          have hEr := Ext.refl w3
          have X2 := laters x2
          clear hcs hbl hdy hyq x2
          go_wp2_with (first
            | (go_at_call 54; refine Hid.out ?_))
          refine Hid.mk_ ((rlclone_any (c := td) HDY.out.1.sl HBN.out).mono ?_)
          rintro e w4 ⟨⟨A6, m6, c6⟩, rfl, ho6, hE6⟩
          dsimp only at ho6 ⊢
          obtain ⟨f5, ho5, hg5⟩ := (HO3.out.ext hE6).setF hlt2 rfl (f := 0) (by omega) (.slice A6 m6 c6) ⟨⟨A6, m6, c6⟩, rels⟩ hil2 (by rw [← HYQ.out]; rfl)
          rw [Nat.mul_one, Nat.add_zero] at f5 ho5 hg5
          have c5 := X2 w4 hE6
          clear X2 hEr
          go_upto_region 10 with fail
          obtain ⟨W5, hW5⟩ : ∃ W5, W5 = w4.setCell ⟨g5, p, none⟩ (.slice A6 m6 c6) := ⟨_, rfl⟩
          rw [← hW5] at ho5 hg5 ⊢
          clear hW5
          have hgE : ∀ g, ob A6 = some g → w3.heap.size ≤ g := ho6.ge
          have HO6 : Hid (OsC rlC 120 4 W5 w3.heap.size A6 m6 c6 rels) := ho6.kept hg5 (Or.inr fun e => by have := hgE g5 e; have := HGE5.out.2; omega)
          have HK5 : Hid (KpS (fun g => g = g5) w4 W5) := (KpS.grown hg5).mono (fun j _ e => by injection e with e; exact e.symm)
          have HD5 : Hid (∀ z ∈ rels, DRl W5 (fun g => S0 g ∨ g = g3 ∨ g = g5 ∨ ob A6 = some g) z) := fun z hz =>
            (((HDY.out.2.2 z hz).more (S' := fun g => S0 g ∨ g = g3 ∨ g = g5 ∨ ob A6 = some g) (fun g hg => hg.elim (fun e => .inl (.inl e)) (fun e => e.elim (fun e => .inl (.inr (.inl e))) (fun e => e.elim (fun e => .inl (.inr (.inr (by rw [e]; rfl)))) (fun e => .inr (hgE g e)))))).ext hE6).kp (HK5.out.mono fun j _ e => .inr (.inr (.inl e)))
          have HOT : Hid (∀ y ∈ R', DRw W5 (fun g => S0 g ∨ g = g3 ∨ g = g5 ∨ ob A6 = some g) y) := fun y hy =>
            (((HDW.out y hy).more (S' := fun g => S0 g ∨ g = g3 ∨ g = g5 ∨ ob A6 = some g) (fun g hg => hg.elim (fun e => .inl (.inl e)) (fun e => e.elim (fun e => .inl (.inr (.inl e))) (fun e => e.elim (fun e => .inl (.inr (.inr (by rw [e]; rfl)))) (fun e => .inr (hgE g e)))))).ext hE6).kp (HK5.out.mono fun j _ e => .inr (.inr (.inl e)))
          have HE5 : Hid (Ext wo W5) := (HE3.out.trans hE6).grown hg5 (fun j hj => by injection hj with hj; rw [← hj]; exact HGE5.out.1)
          have HO5 := Lib.hid ho5
          have HGA := Lib.hid hgE
          have hm6 : m6 ≤ 17592186044416 := ho6.le
          have HM6 : Hid (m6 = rels.length) := ho6.len
          have d5 : W5.cell? ⟨g5, p, none⟩ = some (.slice A6 m6 c6) := by
            obtain ⟨b, off, e0, _, hcs⟩ := ho5.sl.at_ hlt2 (by omega)
            simp only [Option.some.injEq, Addr.mk.injEq, and_true] at e0
            obtain ⟨e01, e02⟩ := e0
            subst e01
            subst e02
            have h := hcs p (by rw [List.length_set]; exact hil2) 0 (by omega)
            simpa [rwC] using h
          have HD55 := Lib.hid d5
          clear ho5 hg5 hgE ho6 hE6 f5 c5
          go_wp2
          go_loopw [7, 39] (fun _ i w6 => ∃ (r : Nat) (M' : List RlH), r ≤ m6 ∧ i = .int .i64 r ∧ Hid (KpS (fun g => ob A6 = some g) W5 w6) ∧ Hid (OsC rlC 120 4 w6 w3.heap.size A6 m6 c6 M') ∧ Hid (M'.map plRl = rels.map plRl) ∧ Hid (∀ z ∈ M', DRl w6 (fun g => S0 g ∨ g = g3 ∨ g = g5 ∨ ob A6 = some g) z)) (fun _ i _ => m6 - (intOf i).toNat)
          case atStart => exact ⟨0, rels, Nat.zero_le _, rfl, KpS.refl _ _, HO6, rfl, HD5⟩
          case round =>
            obtain ⟨r, M', hr, rfl, HKP, HO7, HPM, HDM⟩ := hrel
            by_cases hlt3 : r < m6
            · have hil3 : r < M'.length := by rw [← HO7.out.len]; exact hlt3
              obtain ⟨g6, cur6, hA6, hge6, _, _, _, _, _⟩ := HO7.out.row (by omega)
              subst hA6
              obtain ⟨b, off, e0, hbl, hcs⟩ := HO7.out.sl.at_ hlt3 (by omega)
              simp only [Option.some.injEq, Addr.mk.injEq, and_true] at e0
              obtain ⟨e01, e02⟩ := e0
              subst e01
              subst e02
              have x3 := hcs r hil3 3 (by omega)
              obtain ⟨z, hzq⟩ : ∃ z, z = M'[r] := ⟨_, rfl⟩
              have hdz := HDM.out z (by rw [hzq]; exact List.getElem_mem hil3)
              obtain ⟨zo, zm, zn, ⟨TC, un, ud⟩, sps⟩ := z
              simp only [← hzq, rlC, List.getElem_cons_zero, List.getElem_cons_succ, Nat.zero_add] at x3
              have HDZ := Lib.hid hdz
              have HZQ := Lib.hid hzq
              have HBU : Hid (un * 16 ≤ 140737488351232) := hdz.1.bd
              have HG56 : Hid (g5 ≠ g6) := fun e => by have := HGE5.out.2; omega
              have hi3 : (r : Int) < (m6 : Int) := by omega
              have hi2' : (p : Int) < (m2 : Int) := by omega
              have hEd : KpS (fun g => g = g6) wr wr.drew := KpS.of_ext _ ((Ext.refl _).drew)
              have HSS : Hid (∀ W', KpS (fun g => g = g6) wr W' → W'.cell? ⟨g5, p, none⟩ = some (.slice (some ⟨g6, 0, none⟩) m6 c6)) := fun W' hk => hk.cell (fun e => HG56.out e) (HKP.out.cell (fun e => HG56.out (by injection e with e; exact e.symm)) HD55.out)
              have HX3 : Hid (∀ W', Ext wr W' → W'.cell? ⟨g6, r * 4 + 3, none⟩ = some (.slice TC un ud)) := laters x3
              clear hcs hbl hdz hzq x3
              go_upto_region 13 with fail
              refine wp_region_held_drew (S := fun w' => KpS (fun g => g = g6) wr w') (by kernel_rfl) hEd ?_
              intro hHeld
              refine wpAnyH_takeD (i := 0) (d := 42) (v := ?_) rfl rfl (by kernel_rfl) (by kernel_rfl) (by kernel_rfl) (fun _ _ _ h => h) (Or.inl ⟨by rfl, ?_⟩) hHeld ?_
              rotate_left
              · rintro w hS4
                have c0 := HSS.out w hS4
                go_simp
                try with_reducible rfl
              simp only [Act.put, List.setIfInBounds_toArray, List.set_cons_zero, List.set_cons_succ]
              refine wpAnyH_takeD (i := 1) (d := 43) (v := ?_) rfl rfl (by kernel_rfl) (by kernel_rfl) (by kernel_rfl) (fun _ _ _ h => h) (Or.inl ⟨by rfl, ?_⟩) hHeld ?_
              rotate_left
              · rintro w hS4
                have c0 := HSS.out w hS4
                go_simp
                try with_reducible rfl
              simp only [Act.put, List.setIfInBounds_toArray, List.set_cons_zero, List.set_cons_succ]
              refine wpAnyH_takeD (i := 2) (d := 44) (v := ?_) rfl rfl (by kernel_rfl) (by kernel_rfl) (by kernel_rfl) (fun _ _ _ h => h) (Or.inl ⟨by rfl, ?_⟩) hHeld ?_
              rotate_left
              · rintro w hS4
                have c0 := HSS.out w hS4
                go_simp
                try with_reducible rfl
              simp only [Act.put, List.setIfInBounds_toArray, List.set_cons_zero, List.set_cons_succ]
              refine wpAnyH_takeD (i := 3) (d := 45) (v := ?_) rfl rfl (by kernel_rfl) (by kernel_rfl) (by kernel_rfl) (fun _ _ _ h => h) (Or.inl ⟨by rfl, ?_⟩) hHeld ?_
              rotate_left
              · rintro w hS4
                have c0 := HSS.out w hS4
                go_simp
                try with_reducible rfl
              simp only [Act.put, List.setIfInBounds_toArray, List.set_cons_zero, List.set_cons_succ]
              refine wpAnyH_takeD (i := 4) (d := 46) (v := ?_) rfl rfl (by kernel_rfl) (by kernel_rfl) (by kernel_rfl) (fun _ _ _ h => h) (Or.inl ⟨by rfl, ?_⟩) hHeld ?_
              rotate_left
              · rintro w hS4
                have c0 := HSS.out w hS4
                go_simp
                try with_reducible rfl
              simp only [Act.put, List.setIfInBounds_toArray, List.set_cons_zero, List.set_cons_succ]
              refine wpAnyH_takeD (i := 5) (d := 47) (v := ?_) rfl rfl (by kernel_rfl) (by kernel_rfl) (by kernel_rfl) (fun _ _ _ h => h) (Or.inl ⟨by rfl, ?_⟩) hHeld ?_
              rotate_left
              · rintro w hS4
                have c0 := HSS.out w hS4
                go_simp
                try with_reducible rfl
              simp only [Act.put, List.setIfInBounds_toArray, List.set_cons_zero, List.set_cons_succ]
              refine wpAnyH_takeD (i := 6) (d := 48) (v := ?_) rfl rfl (by kernel_rfl) (by kernel_rfl) (by kernel_rfl) (fun _ _ _ h => h) (Or.inl ⟨by rfl, ?_⟩) hHeld ?_
              rotate_left
              · rintro w hS4
                have c0 := HSS.out w hS4
                go_simp
                try with_reducible rfl
              simp only [Act.put, List.setIfInBounds_toArray, List.set_cons_zero, List.set_cons_succ]
              refine wpAnyH_takeD (i := 7) (d := 49) (v := ?_) rfl rfl (by kernel_rfl) (by kernel_rfl) (by kernel_rfl) (fun _ _ _ h => h) (Or.inl ⟨by rfl, ?_⟩) hHeld ?_
              rotate_left
              · rintro w hS4
                have c0 := HSS.out w hS4
                go_simp
                try with_reducible rfl
              simp only [Act.put, List.setIfInBounds_toArray, List.set_cons_zero, List.set_cons_succ]
              refine wpAnyH_takeD (i := 8) (d := 50) (v := ?_) rfl rfl (by kernel_rfl) (by kernel_rfl) (by kernel_rfl) (fun _ _ _ h => h) (Or.inl ⟨by rfl, ?_⟩) hHeld ?_
              rotate_left
              · rintro w hS4
                have c0 := HSS.out w hS4
                go_simp
                try with_reducible rfl
              simp only [Act.put, List.setIfInBounds_toArray, List.set_cons_zero, List.set_cons_succ]
              refine wpAnyH_takeD (i := 9) (d := 51) (v := ?_) rfl rfl (by kernel_rfl) (by kernel_rfl) (by kernel_rfl) (fun _ _ _ h => h) (Or.inl ⟨by rfl, ?_⟩) hHeld ?_
              rotate_left
              · rintro w hS4
                have c0 := HSS.out w hS4
                go_simp
                try with_reducible rfl
              simp only [Act.put, List.setIfInBounds_toArray, List.set_cons_zero, List.set_cons_succ]
              refine wpAnyH_takeD (i := 10) (d := 52) (v := ?_) rfl rfl (by kernel_rfl) (by kernel_rfl) (by kernel_rfl) (fun _ _ _ h => h) (Or.inl ⟨by rfl, ?_⟩) hHeld ?_
              rotate_left
              · rintro w hS4
                have c0 := HSS.out w hS4
                go_simp
                try with_reducible rfl
              simp only [Act.put, List.setIfInBounds_toArray, List.set_cons_zero, List.set_cons_succ]
              refine wpAnyH_takeD (i := 11) (d := 53) (v := ?_) rfl rfl (by kernel_rfl) (by kernel_rfl) (by kernel_rfl) (fun _ _ _ h => h) (Or.inl ⟨by rfl, ?_⟩) hHeld ?_
              rotate_left
              · rintro w hS4
                have c0 := HSS.out w hS4
                go_simp
                try with_reducible rfl
              simp only [Act.put, List.setIfInBounds_toArray, List.set_cons_zero, List.set_cons_succ]
              have c12 := HX3.out wr.drew ((Ext.refl wr).drew)
              refine wpAnyH_ready (rs := [12]) (by kernel_rfl) (by simp) ?_
              refine AllReadyH.cons rfl (fun K hK => ?_) AllReadyH.nil
              go_simp
              refine hK.out _ _ hEd (fun _ => ?_)
              clear hK K hHeld
              refine wpAnyH_ready (rs := [13]) (by kernel_rfl) (by simp) ?_
              refine AllReadyH.cons rfl (fun K hK => ?_) AllReadyH.nil
              go_simp
              go_at_call 55
              refine (spclone_any (c := ud) (HDZ.out.1.sl.ext ((Ext.refl wr).drew)) HBU.out).mono ?_
              rintro e v1 ⟨⟨TD, vn, vd⟩, rfl, hosp, hEv⟩
              have hEv1 : Ext wr v1 := ((Ext.refl wr).drew).trans hEv
              refine hK.out _ _ (KpS.of_ext _ hEv1) (fun _ => ?_)
              clear hK K c12
              have hHeld : KpS (fun g => g = g6) wr v1 := KpS.of_ext _ hEv1
              refine wpAnyH_takeD (i := 14) (d := 56) (v := ?_) rfl rfl (by kernel_rfl) (by kernel_rfl) (by kernel_rfl) (fun _ _ _ h => h) (Or.inl ⟨by rfl, ?_⟩) hHeld ?_
              rotate_left
              · rintro w hS4
                have c0 := HSS.out w hS4
                go_simp
                try with_reducible rfl
              simp only [Act.put, List.setIfInBounds_toArray, List.set_cons_zero, List.set_cons_succ]
              refine wpAnyH_takeD (i := 15) (d := 57) (v := ?_) rfl rfl (by kernel_rfl) (by kernel_rfl) (by kernel_rfl) (fun _ _ _ h => h) (Or.inl ⟨by rfl, ?_⟩) hHeld ?_
              rotate_left
              · rintro w hS4
                have c0 := HSS.out w hS4
                go_simp
                try with_reducible rfl
              simp only [Act.put, List.setIfInBounds_toArray, List.set_cons_zero, List.set_cons_succ]
              obtain ⟨f3, ho8, hg8⟩ := (HO7.out.ext hEv1).setF hlt3 rfl (f := 3) (by omega) (.slice TD vn vd) ⟨zo, zm, zn, ⟨TD, vn, vd⟩, sps⟩ hil3 (by rw [← HZQ.out]; rfl)
              have c3 := HX3.out v1 hEv1
              have hKK : KpS (fun g => g = g6) wr (v1.setCell ⟨g6, r * 4 + 3, none⟩ (.slice TD vn vd)) := hHeld.trans (KpS.setCell v1 g6 (r * 4 + 3) _) (fun j _ e => e)
              have HKK := Lib.hid hKK
              have HO8 := Lib.hid ho8
              have HV1 := Lib.hid hEv1
              have HSP := Lib.hid hosp
              clear hKK ho8 hg8 hosp
              refine wpAnyH_ready (rs := [16]) (by kernel_rfl) (by simp) ?_
              refine AllReadyH.cons rfl (fun K hK => ?_) AllReadyH.nil
              go_simp
              refine hK.out _ _ HKK.out (fun _ => ?_)
              refine wpAnyH_done (by kernel_rfl) ?_ _
              clear hK K c3 f3 hHeld hEd hEv hEv1
              have HVN : Hid (vn = un) := by show _ = _; have h1 := HSP.out.len; have h2 := HDZ.out.1.sl.len; dsimp only at h1 h2; omega
              have HZN : Hid (DRl v1 (fun g => S0 g ∨ g = g3 ∨ g = g5 ∨ ob (some (⟨g6, 0, none⟩ : Addr)) = some g) ⟨zo, zm, zn, ⟨TD, vn, vd⟩, sps⟩) :=
                ⟨⟨HSP.out.sl, HSP.out.cap, by rw [HVN.out]; exact HBU.out, fun _ _ => trivial⟩, .inr fun g hg hS => by
                  have h1 := HSP.out.ge g hg
                  have h2 : wr.heap.size ≤ g := h1
                  have h3 := HO.out.lt g3 rfl
                  have h4 := HGE5.out.2
                  have h5 := HO7.out.lt g6 rfl
                  have h6 := HE3.out.size
                  have h7 := HE5.out.size
                  have h8 := HKP.out.size
                  have h9 := HO5.out.lt g5 rfl
                  have h10 := HE.out.size
                  rcases hS with e | e | e | e
                  · have e2 := HS0.out g e
                    omega
                  · omega
                  · omega
                  · have e2 : g6 = g := by injection e
                    omega⟩
              have HZA : Hid (∀ z2 ∈ M'.set r ⟨zo, zm, zn, ⟨TD, vn, vd⟩, sps⟩, DRl (v1.setCell ⟨g6, r * 4 + 3, none⟩ (.slice TD vn vd)) (fun g => S0 g ∨ g = g3 ∨ g = g5 ∨ ob (some (⟨g6, 0, none⟩ : Addr)) = some g) z2) := fun z2 hz2 => by
                rcases mem_set_of hz2 with e | e
                · rw [e]; exact HZN.out.kp ((KpS.setCell v1 g6 (r * 4 + 3) _).mono fun j _ e => .inr (.inr (.inr (by rw [e]; rfl))))
                · exact (HDM.out z2 e).kp (HKK.out.mono fun j _ e => .inr (.inr (.inr (by rw [e]; rfl))))
              have HPN : Hid ((M'.set r ⟨zo, zm, zn, ⟨TD, vn, vd⟩, sps⟩).map plRl = rels.map plRl) := by show _ = _; rw [map_set_same hil3 (by rw [← HZQ.out]; rfl)]; exact HPM.out
              have HKN : Hid (KpS (fun g => ob (some (⟨g6, 0, none⟩ : Addr)) = some g) W5 (v1.setCell ⟨g6, r * 4 + 3, none⟩ (.slice TD vn vd))) := HKP.out.trans HKK.out (fun j _ e => by rw [e]; rfl)
              go_wp2
              go_roundw
              case rel => exact ⟨r + 1, _, by omega, by go_num, HKN, HO8, HPN, HZA⟩
              case measure => simp [intOf]; omega
            · have hi3 : ¬ (r : Int) < (m6 : Int) := by omega
              have hge6 := HGA.out
              have HEN : Hid (Ext wo wr) := by
                show Below _ _ _
                have h1 := HE5.out
                exact Below.trans h1 (HKP.out.toBelow h1.size (fun j hj => Nat.le_trans HE3.out.size (hge6 j hj)))
              have HON : Hid (OsC rwC 116 1 wr wo.heap.size (some ⟨g5, 0, none⟩) m2 c2 (R'.set p ⟨⟨A6, m6, c6⟩, M'⟩)) :=
                (HKP.out.osc HO5.out (fun g hg e => by injection hg with hg; have h1 := hge6 g e; have h2 := HGE5.out.2; dsimp only at hg; omega)).cong (by rw [List.map_set, List.map_set]; rfl)
              have HPN : Hid ((R'.set p ⟨⟨A6, m6, c6⟩, M'⟩).map plRw = rows.map plRw) := by
                show _ = _
                rw [map_set_same hil2 (by rw [← HYQ.out]; exact HPM.out)]
                exact HPR.out
              have HDN : Hid (∀ y ∈ R'.set p ⟨⟨A6, m6, c6⟩, M'⟩, DRw wr (fun g => S0 g ∨ g = g3 ∨ ob (some (⟨g5, 0, none⟩ : Addr)) = some g) y) := fun y hy => by
                rcases mem_set_of hy with e | e
                · rw [e]
                  refine ⟨⟨HO7.out.sl, HO7.out.cap, ?_, fun _ _ => trivial⟩, .inr fun g hg hS => ?_, fun z hz => (HDM.out z hz).less fun g hg => hg.elim (fun e => .inl e) (fun e => e.elim (fun e => .inr (.inl e)) (fun e => .inr (.inr (.inl (by injection e with e; exact e.symm)))))⟩
                  · have h1 := HM6.out
                    have h2 := HDY.out.1.sl.len
                    have h3 := HBN.out
                    dsimp only at h2 ⊢
                    rw [h1, ← h2]
                    exact h3
                  · have h1 := hge6 g hg
                    have h2 := HGE5.out
                    have h3 := HO.out.lt g3 rfl
                    have h4 := HE.out.size
                    have h5 := HE3.out.size
                    rcases hS with e | e | e
                    · have e2 := HS0.out g e
                      omega
                    · omega
                    · have e2 : g5 = g := by injection e
                      omega
                · exact ((HOT.out y e).kp (HKP.out.mono fun j _ e => .inr (.inr (.inr e)))).less fun g hg => hg.elim (fun e => .inl e) (fun e => e.elim (fun e => .inr (.inl e)) (fun e => .inr (.inr (.inl (by injection e with e; exact e.symm)))))
              go_wp2
              go_roundw
              case rel => exact ⟨p + 1, _, by omega, by go_num, HEN, HON, HPN, HDN⟩
              case measure => simp [intOf]; omega
        · have hi2 : ¬ (p : Int) < (m2 : Int) := by omega
          obtain ⟨f3, ho8, hg8⟩ := (HO.out.ext HE3.out).setF hlt rfl (f := 1) (by omega) (.slice A2 m2 c2) ⟨cls, ⟨A2, m2, c2⟩, R'⟩ hil (by rw [← HXQ.out]; rfl)
          have c3 : w3.cell? ⟨g3, q * 2 + 1, none⟩ = some (.slice TA tm tc) := by
            obtain ⟨b, off, e0, _, hcs⟩ := (HO.out.ext HE3.out).sl.at_ hlt (by omega)
            simp only [Option.some.injEq, Addr.mk.injEq, and_true] at e0
            obtain ⟨e01, e02⟩ := e0
            subst e01
            subst e02
            have h := hcs q hil 1 (by omega)
            simpa [← HXQ.out, rxC] using h
          have hg3 : g3 < wo.heap.size := HO.out.lt g3 rfl
          have hgA : ∀ g, ob A2 = some g → wo.heap.size ≤ g := HO3.out.ge
          have hKK : KpS (fun g => g = g3) w3 (w3.setCell ⟨g3, q * 2 + 1, none⟩ (.slice A2 m2 c2)) := KpS.setCell w3 g3 (q * 2 + 1) _
          have HEN : Hid (Ext w (w3.setCell ⟨g3, q * 2 + 1, none⟩ (.slice A2 m2 c2))) := (HE.out.trans HE3.out).grown hg8 (fun j hj => HO.out.ge j hj)
          have HON := Lib.hid ho8
          have HPN : Hid ((L'.set q ⟨cls, ⟨A2, m2, c2⟩, R'⟩).map plRx = L.map plRx) := by
            show _ = _
            rw [map_set_same hil (by rw [← HXQ.out]; unfold plRx; dsimp only; rw [HPR.out])]
            exact HPL.out
          have HDN : Hid (∀ x ∈ L'.set q ⟨cls, ⟨A2, m2, c2⟩, R'⟩, DRx (w3.setCell ⟨g3, q * 2 + 1, none⟩ (.slice A2 m2 c2)) (fun g => S0 g ∨ ob (some (⟨g3, 0, none⟩ : Addr)) = some g) x) := fun x hx => by
            have hS : ∀ j : Nat, j = g3 → ob (some (⟨g3, 0, none⟩ : Addr)) = some j := fun j e => by rw [e]; rfl
            rcases mem_set_of hx with e | e
            · rw [e]
              have h1 : DRx w3 (fun g => S0 g ∨ ob (some (⟨g3, 0, none⟩ : Addr)) = some g) ⟨cls, ⟨A2, m2, c2⟩, R'⟩ := by
                refine ⟨⟨HO3.out.sl, HO3.out.cap, ?_, fun _ _ => trivial⟩, .inr fun g hg hS2 => ?_, fun y hy => (HDW.out y hy).less fun g hg => hg.elim .inl (fun e => .inr (.inl (by injection e with e; exact e.symm)))⟩
                · have h1 := HM2.out
                  have h2 := HDX.out.1.sl.len
                  have h3 := HBT.out
                  dsimp only at h2 ⊢
                  rw [h1, ← h2]
                  exact h3
                · have h1 := hgA g hg
                  have h2 := HE.out.size
                  rcases hS2 with e | e
                  · have e2 := HS0.out g e
                    omega
                  · have e2 : g3 = g := by injection e
                    omega
              exact h1.kp (hKK.mono fun j _ e => .inr (hS j e))
            · exact ((HDR.out x e).ext HE3.out).kp (hKK.mono fun j _ e => .inr (hS j e))
          clear ho8 hg8 hKK hgA
          go_wp2
          go_roundw
          case rel => exact ⟨q + 1, _, by omega, by go_num, HEN, HON, HPN, HDN⟩
          case measure => simp [intOf]; omega
    · have hi1 : ¬ (q : Int) < (m1 : Int) := by omega
      go_wp2
      go_ret
      exact ⟨⟨⟨A1, m1, c1⟩, rfl, L', HO.out, HPL.out, HDR.out⟩, HE.out⟩
end
end Go.Proofs.YtdgppdiickmofaaGreatDoor
