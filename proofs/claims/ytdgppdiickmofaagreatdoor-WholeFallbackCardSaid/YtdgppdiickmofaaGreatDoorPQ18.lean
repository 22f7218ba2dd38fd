/- The program's tags: Parse. -/
import Derived.Test.YtdgppdiickmofaaGreatDoorPQ16
import Derived.Test.YtdgppdiickmofaaGreatDoorPQ17
import Derived.WalkMore
import Derived.Deep.LoopGhost
namespace Go.Proofs.YtdgppdiickmofaaGreatDoor
open Go.RowKit
set_option maxRecDepth 100000
attribute [local go_sem] ext_refl_t ext_alloc_t ext_drew_t ext_drewN_t ext_alloc2_t ext_alloc3_t ext_alloc4_t ext_alloc5_t ext_alloc6_t ext_alloc7_t ext_alloc8_t ext_alloc1d_t ext_alloc2d_t ext_alloc3d_t ext_alloc4d_t
theorem foldS_app (a b : List (List UInt8)) (p : Nat × Tg) : foldS (a ++ b) p = (foldS a p).bind (foldS b) := by
  induction a generalizing p with
  | nil => rfl
  | cons x r ih =>
    rw [List.cons_append]
    unfold foldS
    cases partS x p with
    | none => rfl
    | some q => exact ih q
theorem foldS_step {l : List (List UInt8)} {q : Nat} (hq : q < l.length) {p0 p : Nat × Tg} (h : foldS (l.take q) p0 = some p) : foldS (l.take (q + 1)) p0 = partS l[q] p := by
  rw [List.take_succ_eq_append_getElem hq, foldS_app, h]
  show foldS [l[q]] p = _
  unfold foldS
  cases partS l[q] p <;> rfl
theorem foldS_none {l : List (List UInt8)} {q : Nat} {p0 : Nat × Tg} (h : foldS (l.take q) p0 = none) : foldS l p0 = none := by
  rw [← List.take_append_drop q l, foldS_app, h]
  rfl
/-- The parts of a tag are short. -/
structure TgS (n : Nat) (t : Tg) : Prop where
  n : t.vars.length ≤ n
  sz : ∀ x ∈ t.vars, x.length ≤ 1000
  ln : t.lang.length ≤ 1000
  sn : t.scr.length ≤ 1000
  rn : t.reg.length ≤ 1000
theorem TgS.mono {n m : Nat} {t : Tg} (h : TgS n t) (hm : n ≤ m) : TgS m t := ⟨Nat.le_trans h.n hm, h.sz, h.ln, h.sn, h.rn⟩
theorem TgS.zero : TgS 0 tg0 := ⟨by simp [tg0], by simp [tg0], by simp [tg0], by simp [tg0], by simp [tg0]⟩
/-- The parts one place further on. -/
theorem partS_12 {x : List UInt8} {t : Tg} (h : ¬ (x ≠ [] ∧ scrP ((x.take 1).map upB ++ (x.drop 1).map loB) = true)) : partS x (1, t) = partS x (2, t) := by
  show (if _ then _ else _) = _
  rw [if_neg h]
  rfl
theorem partS_23 {x : List UInt8} {t : Tg} (h : ¬ regP (x.map upB) = true) : partS x (2, t) = partS x (3, t) := by
  show (if _ then _ else _) = _
  rw [if_neg h]
  rfl
/-- The state of Parse between two parts: w is the world ahead of its tag in memory. -/
structure PaS (w wr : World) (t : Tg) (A : Option Addr) (m c : Nat) : Prop where
  ext : Ext w wr
  bt : Blk wr w.heap.size 108 #[.string (str t.lang), .string (str t.scr), .string (str t.reg), .slice A m c]
  own : OsC strF 9 1 wr w.heap.size A m c (t.vars.map str)
section
variable {w wr w2 : World} {t : Tg} {A : Option Addr} {m c : Nat}
theorem PaS.extn (h : PaS w wr t A m c) (hE : Ext wr w2) : PaS w w2 t A m c :=
  ⟨h.ext.trans hE, h.bt.below hE h.bt.lt, h.own.ext hE⟩
theorem own_ne_tg {base g : Nat} {l : List ByteArray} {cs : Array Value} (ho : OsC strF 9 1 w base A m c l) (hb : Blk w g 108 cs) : ob A = none ∨ ob A ≠ some g := by
  cases hA : ob A with
  | none => exact .inl rfl
  | some k =>
    refine .inr fun e => ?_
    injection e with e
    subst e
    have h1 := own_blk_ne ho.own hb (by decide)
    rw [ob_own] at h1
    exact h1 hA
theorem PaS.set_ (h : PaS w wr t A m c) (i : Nat) {x : ByteArray} {u : Tg} (hv : u.vars = t.vars)
    (hc : (#[.string (str t.lang), .string (str t.scr), .string (str t.reg), .slice A m c] : Array Value).setIfInBounds i (.string x) = #[.string (str u.lang), .string (str u.scr), .string (str u.reg), .slice A m c]) :
    PaS w (wr.setCell ⟨w.heap.size, i, none⟩ (.string x)) u A m c :=
  ⟨h.ext.set_ (p := ⟨w.heap.size, i, none⟩) (Nat.le_refl _) _, by rw [← hc]; exact h.bt.set_ i _, by rw [hv]; exact h.own.kept (grown_setM wr w.heap.size i _) (own_ne_tg h.own h.bt)⟩
theorem PaS.app {A' : Option Addr} {m' c' : Nat} {w3 : World} {x : List UInt8} (h : PaS w w2 t A m c) (ho : OsC strF 9 1 w3 w.heap.size A' m' c' (t.vars.map str ++ [str x])) (hg : w2.grownBy w3 (ob A)) :
    PaS w (w3.setCell ⟨w.heap.size, 3, none⟩ (.slice A' m' c')) { t with vars := t.vars ++ [x] } A' m' c' := by
  have hne := own_ne_tg h.own h.bt
  have hb3 : Blk w3 w.heap.size 108 #[.string (str t.lang), .string (str t.scr), .string (str t.reg), .slice A m c] := h.bt.grown hg fun e => by
    rcases hne with h4 | h4
    · rw [h4] at e; cases e
    · exact h4 e.symm
  have hE3 : Ext w w3 := h.ext.grown hg h.own.ge
  refine ⟨hE3.set_ (p := ⟨w.heap.size, 3, none⟩) (Nat.le_refl _) _, hb3.set_ 3 _, ?_⟩
  have h6 := ho.kept (grown_setM w3 w.heap.size 3 (.slice A' m' c')) (own_ne_tg ho hb3)
  rw [show (t.vars ++ [x]).map str = t.vars.map str ++ [str x] by rw [List.map_append]; rfl]
  exact h6
end
theorem parseT_none {s : List UInt8} (h : foldS (pcs s) (0, tg0) = none) : parseT s = (tg0, 3) := by
  unfold parseT
  rw [h]
theorem bys_app2 (s t : ByteArray) : bys (s ++ t) = bys s ++ bys t := by simp [bys]
theorem bys_inj2 {s t : ByteArray} (h : bys s = bys t) : s = t := by rw [← str_bys s, ← str_bys t, h]
section
variable {w : World}
set_option maxHeartbeats 12800000 in
theorem parse_any {s : List UInt8} (hs : s.length ≤ 1000) (hM : MX w) :
    Calls Tryz.prog 65 #[.string (str s)] w fun e w' => (∃ h, e = .returned (.tuple #[tgV h (parseT s).1, .int .i64 (parseT s).2]) ∧ TgW w' h (parseT s).1 ∧ ∀ k, ob h.A = some k → w.heap.size ≤ k) ∧ Ext w w' := by
  have hP := Lib.hid (pcs_len hs)
  have hRL : Hid ((Lib.replaceAll s [95] [45]).length ≤ 1000) := by show _ ≤ _; have := repl_len s; omega
  have HS := Lib.hid hs
  have HM := Lib.hid hM
  clear hs hM
  go_enter Tryz.func65, Tryz.ntmps65
  go_wp2
  go_step3
  have hE0 : Ext w (w.alloc (.cells #[.string ⟨#[]⟩, .string ⟨#[]⟩, .string ⟨#[]⟩, .slice none 0 0] 108)) := (Ext.refl w).alloc _
  have hbr0 := Blk.new w 108 #[.string ⟨#[]⟩, .string ⟨#[]⟩, .string ⟨#[]⟩, .slice none 0 0]
  obtain ⟨s0, hs0⟩ : ∃ x, x = str s := ⟨_, rfl⟩
  have HS0 := Lib.hid hs0
  have hK1 : ∀ W, Ext w W → Calls Tryz.prog 88 #[.string s0, .string ⟨#[95]⟩, .string ⟨#[45]⟩] W fun e w' => e = .returned (.string (str (Lib.replaceAll s [95] [45]))) ∧ Ext W w' := fun W hE => by
    rw [HS0.out]
    exact repl_any s [95] [45] (HM.out.ext hE) (by have := HS.out; omega) (by simp) (by simp)
  have HK1 := Lib.hid hK1
  rw [← hs0]
  clear hK1 hs0
  go_wp2_with (first
    | (go_at_call 88; refine Hid.out ?_))
  refine Hid.mk_ ((HK1.out _ hE0).mono ?_)
  rintro e w1 ⟨rfl, hE1⟩
  have hE01 := hE0.trans hE1
  obtain ⟨s1, hs1⟩ : ∃ x, x = str (Lib.replaceAll s [95] [45]) := ⟨_, rfl⟩
  have HS1 := Lib.hid hs1
  have hK2 : Calls Tryz.prog 87 #[.string s1, .string ⟨#[45]⟩] w1 fun e w' => (∃ A m, e = .returned (.slice A m m) ∧ SlC strF 1 w' A m ((pcs s).map str)) ∧ Ext w1 w' := by
    rw [HS1.out]
    exact split_any (Lib.replaceAll s [95] [45]) [45] (HM.out.ext hE01) (by have := hRL.out; omega) (by simp)
  have HK2 := Lib.hid hK2
  rw [← hs1]
  clear hK2 hs1
  go_wp2_with (first
    | (go_at_call 87; refine Hid.out ?_))
  refine Hid.mk_ ((HK2.out).mono ?_)
  rintro e w2 ⟨⟨PA, n, rfl, hsl⟩, hE2⟩
  have hE02 := hE01.trans hE2
  have hbr2 := hbr0.below (hE1.trans hE2) hbr0.lt
  obtain ⟨gr, hgr⟩ : ∃ g, g = w.heap.size := ⟨_, rfl⟩
  rw [← hgr] at hbr2 ⊢
  have HBR := Lib.hid hbr2
  have HE02 := Lib.hid hE02
  have HSL := Lib.hid hsl
  have HN : Hid (n = (pcs s).length) := by have := hsl.len; rw [List.length_map] at this; exact this
  have hn : n ≤ 1001 := by have := hP.out.1; have := HN.out; omega
  have HGR := Lib.hid hgr
  clear hE0 hbr0 hE1 hE01 hE2 hE02 hbr2 hsl hgr HK1 HK2
  go_wp2
  go_step3
  obtain ⟨gt, hgt⟩ : ∃ g, g = w2.heap.size := ⟨_, rfl⟩
  have HPA : Hid (PaS w2 (w2.alloc (.cells #[.string ⟨#[]⟩, .string ⟨#[]⟩, .string ⟨#[]⟩, .slice none 0 0] 108)) tg0 none 0 0) :=
    ⟨(Ext.refl w2).alloc _, Blk.new w2 _ _, OsC.nil_ strF_len strF_cell⟩
  obtain ⟨W3, hW3⟩ : ∃ W3, W3 = w2.alloc (.cells #[.string ⟨#[]⟩, .string ⟨#[]⟩, .string ⟨#[]⟩, .slice none 0 0] 108) := ⟨_, rfl⟩
  rw [← hW3] at HPA ⊢
  rw [← hgt]
  have HGT := Lib.hid hgt
  clear hW3 hgt
  go_wp2
  go_loopg [6, 8, 15] n (fun g s6 _ s15 wx => ∃ (k p : Nat) (t : Tg) (A : Option Addr) (m c : Nat), k + g = n ∧ s15 = .int .i64 k ∧ s6 = .int .i64 p ∧ p ≤ 3 ∧ Hid (foldS ((pcs s).take k) (0, tg0) = some (p, t)) ∧ Hid (TgS k t) ∧ Hid (PaS w2 wx t A m c))
  case atStart => exact ⟨0, 0, tg0, none, 0, 0, by omega, rfl, rfl, by omega, rfl, TgS.zero, HPA⟩
  case round =>
    obtain ⟨k, p, t, A, m, c, hkg, rfl, rfl, hp3, HF, HT, HA⟩ := hrel
    cases gk with
    | zero =>
      have hki : ¬ (k : Int) < (n : Int) := by omega
      have HFA : Hid (foldS (pcs s) (0, tg0) = some (p, t)) := by
        have h := HF.out
        rwa [List.take_of_length_le (by have := HN.out; omega)] at h
      have HML : Hid (m = t.vars.length) := by have := HA.out.own.len; rw [List.length_map] at this; exact this
      have hm : m ≤ 1001 := by have := HML.out; have := HT.out.n; omega
      have hmc : m ≤ c := HA.out.own.cap
      have hbt := (show Blk wr gt _ _ by rw [HGT.out]; exact HA.out.bt)
      have HBT := Lib.hid hbt
      have c0 := hbt.cell 3
      simp at c0
      clear hbt HF
      go_wp2_with (first
        | (go_at_call 95; refine Hid.out ?_))
      refine Hid.mk_ ((sorts_any HA.out.own).mono ?_)
      rintro e w5 ⟨rfl, ⟨hs5, hh5⟩, hg5⟩
      have hng := own_ne_tg HA.out.own HBT.out
      have hkey : some gt ≠ ob A := fun e => by
        rcases hng with h4 | h4
        · rw [h4] at e; cases e
        · exact h4 e.symm
      have hb5 := HBT.out.grown hg5 hkey
      have HB5 := Lib.hid hb5
      have c5 := hb5.cell 3
      simp at c5
      have hk5 : (Lib.compact (sortV t.vars)).length ≤ m := by
        have h := HML.out
        unfold Lib.compact Lib.compactUpTo
        rw [List.length_map]
        refine Nat.le_trans (List.length_filter_le _ _) ?_
        rw [List.length_range, sortV_len]
        omega
      obtain ⟨k5, hk5e⟩ : ∃ k5, k5 = (Lib.compact (sortV t.vars)).length := ⟨_, rfl⟩
      have hcomp := comps_any (c := c) (k := k5) (show m = (sortV t.vars).length by rw [sortV_len]; exact HML.out) (by omega) hmc hs5 hh5 (fun h0 => by
        obtain ⟨g, _, hA, _⟩ := HA.out.own.row h0
        exact ⟨g, hA⟩) hk5e
      rw [← hk5e] at hk5
      have HCM := Lib.hid hcomp
      have HK5 := Lib.hid hk5e
      have HKG := Lib.hid hkey
      clear hcomp hk5e hs5 hh5 hng hkey hb5 c0
      go_wp2_with (first
        | (go_at_call 96; refine Hid.out ?_))
      refine Hid.mk_ (HCM.out.mono ?_)
      rintro e w6 ⟨rfl, hs6, hg6⟩
      have hb6 := HB5.out.grown hg6 HKG.out
      have c6 := hb6.cell 3
      have f6 := hb6.frozen 3
      simp at c6
      go_upto_region 31 with fail
      have hE6 : Ext w2 w6 := (HA.out.ext.grown hg5 HA.out.own.ge).grown hg6 HA.out.own.ge
      have hgw : w2.heap.size ≤ gt := by rw [HGT.out]; exact Nat.le_refl _
      obtain ⟨w7, hw7⟩ : ∃ w7, w7 = w6.setCell ⟨gt, 3, none⟩ (.slice A k5 c) := ⟨_, rfl⟩
      have hE7 : Ext w2 w7 := by rw [hw7]; exact hE6.set_ (p := ⟨gt, 3, none⟩) hgw _
      have hb7 : Blk w7 gt 108 #[.string (str t.lang), .string (str t.scr), .string (str t.reg), .slice A k5 c] := by rw [hw7]; exact hb6.set_ 3 _
      have hneA : ob A = none ∨ ob A ≠ some gt := by
        rcases hA9 : ob A with _ | j
        · exact .inl rfl
        · exact .inr fun e => HKG.out (by rw [hA9, e])
      have hneR : ob A = none ∨ ob A ≠ some gr := by
        rcases hA9 : ob A with _ | j
        · exact .inl rfl
        · refine .inr fun e => ?_
          injection e with e
          have h1 := HA.out.own.ge j hA9
          have h2 := HBR.out.lt
          omega
      have hs7 : SlC strF 1 w7 A k5 ((Lib.compact (sortV t.vars)).map str) := by rw [hw7]; exact hs6.kept (grown_setM w6 gt 3 _) hneA
      have hbr := HBR.out.below hE7 HBR.out.lt
      rw [← hw7]
      clear hw7
      have x0 := (hb7).cell 0
      have x1 := (hb7).cell 1
      have x2 := (hb7).cell 2
      have x3 := (hb7).cell 3
      simp only [List.getElem?_toArray, List.getElem?_cons_zero, List.getElem?_cons_succ] at x0 x1 x2 x3
      have HB7 := Lib.hid hb7
      have HE7 := Lib.hid hE7
      have HS7 := Lib.hid hs7
      have HNR := Lib.hid hneR
      have q0 := (hbr).cell 0
      have q1 := (hbr).cell 1
      have q2 := (hbr).cell 2
      have q3 := (hbr).cell 3
      have gf0 := (hbr).frozen 0
      have gf1 := (hbr).frozen 1
      have gf2 := (hbr).frozen 2
      have gf3 := (hbr).frozen 3
      simp only [List.getElem?_toArray, List.getElem?_cons_zero, List.getElem?_cons_succ] at q0 q1 q2 q3
      have HRB := Lib.hid (hbr)
      have hgw : w.heap.size ≤ gr := by rw [HGR.out]; exact Nat.le_refl _
      clear hE6 hE7 hb7 hneA hneR hs7 hbr hb6 hs6 hg6 c5 c6 f6 hgw
      by_cases hk : k5 < m
      · have hki2 : (k5 : Int) < (m : Int) := by omega
        have HR : Hid (parseT s = (tg0, 9)) := by
          show _ = _
          unfold parseT
          rw [HFA.out]
          dsimp only
          rw [if_pos (by rw [← HK5.out, ← HML.out]; exact hk)]
        have hgw : w.heap.size ≤ gr := by rw [HGR.out]; exact Nat.le_refl _
        go_wp2
        try rw [Exit.noGoto_ret]
        refine bodyPost_ret (results_cell_row_tmpT rfl _ _ gr 108 _ (0, 0) _ rfl ((((HRB.out.set_ 0 _).set_ 1 _).set_ 2 _).set_ 3 _) Tryz.underlying108 rfl info_tg4) rfl ?_
        rw [HR.out]
        refine ⟨⟨⟨none, 0, 0⟩, ?_, tg0_W _, fun k hk => by cases hk⟩, ((((HE02.out.trans HE7.out).set_ (p := ⟨gr, 0, none⟩) hgw _).set_ (p := ⟨gr, 1, none⟩) hgw _).set_ (p := ⟨gr, 2, none⟩) hgw _).set_ (p := ⟨gr, 3, none⟩) hgw _⟩
        rfl
      · have hki2 : ¬ (k5 : Int) < (m : Int) := by omega
        by_cases h4 : 4 < m
        · have h4i : (4 : Int) < (m : Int) := by omega
          have HR : Hid (parseT s = (tg0, 6)) := by
            show _ = _
            unfold parseT
            rw [HFA.out]
            dsimp only
            rw [if_neg (by rw [← HK5.out, ← HML.out]; exact hk), if_pos (by rw [← HML.out]; exact h4)]
          have hgw : w.heap.size ≤ gr := by rw [HGR.out]; exact Nat.le_refl _
          go_wp2
          try rw [Exit.noGoto_ret]
          refine bodyPost_ret (results_cell_row_tmpT rfl _ _ gr 108 _ (0, 0) _ rfl ((((HRB.out.set_ 0 _).set_ 1 _).set_ 2 _).set_ 3 _) Tryz.underlying108 rfl info_tg4) rfl ?_
          rw [HR.out]
          refine ⟨⟨⟨none, 0, 0⟩, ?_, tg0_W _, fun k hk => by cases hk⟩, ((((HE02.out.trans HE7.out).set_ (p := ⟨gr, 0, none⟩) hgw _).set_ (p := ⟨gr, 1, none⟩) hgw _).set_ (p := ⟨gr, 2, none⟩) hgw _).set_ (p := ⟨gr, 3, none⟩) hgw _⟩
          rfl
        · have h4i : ¬ (4 : Int) < (m : Int) := by omega
          have HR : Hid (parseT s = ({ t with vars := Lib.compact (sortV t.vars) }, 0)) := by
            show _ = _
            unfold parseT
            rw [HFA.out]
            dsimp only
            rw [if_neg (by rw [← HK5.out, ← HML.out]; exact hk), if_neg (by rw [← HML.out]; exact h4)]
          have hgw : w.heap.size ≤ gr := by rw [HGR.out]; exact Nat.le_refl _
          have HGWW := Lib.hid hgw
          have hcv : ∀ x ∈ Lib.compact (sortV t.vars), x ∈ t.vars := fun x hx => by
            unfold Lib.compact Lib.compactUpTo at hx
            obtain ⟨j, hj, rfl⟩ := List.mem_map.1 hx
            have hj2 := List.mem_range.1 (List.mem_filter.1 hj).1
            rw [getElem!_pos _ _ (by simpa using hj2)]
            exact sortV_mem.1 (by simp)
          have HCV := Lib.hid hcv
          have HK := Lib.hid hk
          clear hcv
          go_wp2
          try rw [Exit.noGoto_ret]
          refine bodyPost_ret (results_cell_row_tmpT rfl _ _ gr 108 _ (0, 0) _ rfl ((((HRB.out.set_ 0 _).set_ 1 _).set_ 2 _).set_ 3 _) Tryz.underlying108 rfl info_tg4) rfl ?_
          rw [HR.out]
          have hEf : Ext w ((((w7.setCell ⟨gr, 0, none⟩ (.string (str t.lang))).setCell ⟨gr, 1, none⟩ (.string (str t.scr))).setCell ⟨gr, 2, none⟩ (.string (str t.reg))).setCell ⟨gr, 3, none⟩ (.slice A k5 c)) := ((((HE02.out.trans HE7.out).set_ (p := ⟨gr, 0, none⟩) HGWW.out _).set_ (p := ⟨gr, 1, none⟩) HGWW.out _).set_ (p := ⟨gr, 2, none⟩) HGWW.out _).set_ (p := ⟨gr, 3, none⟩) HGWW.out _
          refine ⟨⟨⟨A, k5, c⟩, rfl, ?_, fun j hj => Nat.le_trans HE02.out.size_le (HA.out.own.ge j hj)⟩, hEf⟩
          have hs9 := ((((HS7.out.kept (grown_setM w7 gr 0 (.string (str t.lang))) HNR.out).kept (grown_setM _ gr 1 (.string (str t.scr))) HNR.out).kept (grown_setM _ gr 2 (.string (str t.reg))) HNR.out).kept (grown_setM _ gr 3 (.slice A k5 c)) HNR.out)
          have hk9 := HK5.out
          exact ⟨hs9, by show k5 ≤ c; omega, by dsimp only; omega, fun x hx => HT.out.sz x (HCV.out x hx), HT.out.ln, HT.out.sn, HT.out.rn⟩
    | succ g =>
      --S[ su
      have hkn : k < n := by omega
      have hki : (k : Int) < (n : Int) := by omega
      have hkl : k < (pcs s).length := by rw [← HN.out]; exact hkn
      obtain ⟨b, off, e0, hbl, hcs⟩ := strs_cells (HSL.out.ext HA.out.ext) (by omega)
      subst e0
      obtain ⟨xb, hxb⟩ : ∃ xb, xb = (pcs s)[k] := ⟨_, rfl⟩
      have x0 := hcs k (str xb) (by rw [List.getElem?_map, List.getElem?_eq_getElem hkl, hxb]; rfl)
      have HXL : Hid (xb.length ≤ 1000) := by show _ ≤ _; rw [hxb]; exact hP.out.2 _ (List.getElem_mem hkl)
      have HFS : Hid (foldS ((pcs s).take (k + 1)) (0, tg0) = partS xb (p, t)) := by show _ = _; rw [hxb]; exact foldS_step hkl HF.out
      obtain ⟨x, hx⟩ : ∃ x, x = str xb := ⟨_, rfl⟩
      have HX : Hid (bys x = xb) := by show _ = _; rw [hx, bys_str]
      have hxs : x.size ≤ 140737488351232 := by rw [hx, str_size]; have := HXL.out; omega
      rw [← hx] at x0
      clear hcs hxb hx HF
      obtain ⟨wo, hwo⟩ : ∃ wo : World, wo = wr := ⟨_, rfl⟩
      rw [← hwo] at HA x0 ⊢
      clear hwo
      go_wp2
      go_loopg [6] 4 (fun g6 s6 wx => ∃ p' : Nat, 4 ≤ p' + g6 ∧ p' ≤ 3 ∧ s6 = .int .i64 p' ∧ Hid (partS xb (p, t) = partS xb (p', t)) ∧ Ext wo wx)
      case atStart => exact ⟨p, by omega, hp3, rfl, Lib.hid rfl, Ext.refl _⟩
      case round =>
        obtain ⟨p', hpg, hp3', rfl, HPP, hEo⟩ := hrel
        have HAr := Lib.hid (HA.out.extn hEo)
        cases gk with
        | zero => omega
        | succ g2 =>
          have hlw : ∀ W, Calls Tryz.prog 90 #[.string x] W fun e w' => e = .returned (.string (str (xb.map loB))) ∧ Ext W w' := fun W => by
            have h := lower_any (w := W) x hxs
            rwa [HX.out] at h
          have hup : ∀ W, Calls Tryz.prog 92 #[.string x] W fun e w' => e = .returned (.string (str (xb.map upB))) ∧ Ext W w' := fun W => by
            have h := upper_any (w := W) x hxs
            rwa [HX.out] at h
          obtain ⟨lx, hlx⟩ : ∃ lx, lx = str (xb.map loB) := ⟨_, rfl⟩
          obtain ⟨ux, hux⟩ : ∃ ux, ux = str (xb.map upB) := ⟨_, rfl⟩
          have HLX := Lib.hid hlx
          have HUX := Lib.hid hux
          rw [← hlx] at hlw
          rw [← hux] at hup
          have HLW := Lib.hid hlw
          have HUP := Lib.hid hup
          have hlsz : lx.size ≤ 140737488351232 := by rw [hlx, str_size, List.length_map]; have := HXL.out; omega
          have husz : ux.size ≤ 140737488351232 := by rw [hux, str_size, List.length_map]; have := HXL.out; omega
          have hbl : bys lx = xb.map loB := by rw [hlx, bys_str]
          have hbu : bys ux = xb.map upB := by rw [hux, bys_str]
          have HBL := Lib.hid hbl
          have HBU := Lib.hid hbu
          clear hlx hux hlw hup hbl hbu
          have hcase : p' = 0 ∨ p' = 1 ∨ p' = 2 ∨ p' = 3 := by omega
          rcases hcase with rfl | rfl | rfl | rfl
          · have hK := fun W => language_any (w := W) lx hlsz
            rw [HBL.out] at hK
            obtain ⟨cl, hcl⟩ : ∃ c, c = langP (xb.map loB) := ⟨_, rfl⟩
            rw [← hcl] at hK
            have HK := Lib.hid hK
            have HCL := Lib.hid hcl
            clear hK hcl
            go_wp2_with (first
              | (go_at_call 90; refine Hid.out ?_))
            refine Hid.mk_ ((HLW.out _).mono ?_)
            rintro e w5 ⟨rfl, hE5⟩
            go_wp2_with (first
              | (go_at_call 89; refine Hid.out ?_))
            refine Hid.mk_ ((HK.out _).mono ?_)
            rintro e w6 ⟨rfl, hq⟩
            subst hq
            cases cl with
            | false =>
              have hEe : Ext w2 w5 := HAr.out.ext.trans hE5
              have hbe := HBR.out.below hEe HBR.out.lt
              have HEe := Lib.hid hEe
              have HR : Hid (parseT s = (tg0, 3)) := parseT_none (foldS_none (q := k + 1) (by rw [HFS.out, HPP.out]; show (if _ then _ else _) = _; rw [if_neg (by rw [← HCL.out]; decide)]))
              have q0 := (hbe).cell 0
              have q1 := (hbe).cell 1
              have q2 := (hbe).cell 2
              have q3 := (hbe).cell 3
              have gf0 := (hbe).frozen 0
              have gf1 := (hbe).frozen 1
              have gf2 := (hbe).frozen 2
              have gf3 := (hbe).frozen 3
              simp only [List.getElem?_toArray, List.getElem?_cons_zero, List.getElem?_cons_succ] at q0 q1 q2 q3
              have HRB := Lib.hid (hbe)
              clear hbe hEe
              go_wp2
              try rw [Exit.noGoto_ret]
              refine bodyPost_ret (results_cell_row_tmpT rfl _ _ gr 108 _ (0, 0) _ rfl ((((HRB.out.set_ 0 _).set_ 1 _).set_ 2 _).set_ 3 _) Tryz.underlying108 rfl info_tg4) rfl ?_
              have hgw : w.heap.size ≤ gr := by rw [HGR.out]; exact Nat.le_refl _
              rw [HR.out]
              refine ⟨⟨⟨none, 0, 0⟩, ?_, tg0_W _, fun k hk => by cases hk⟩, ((((HE02.out.trans HEe.out).set_ (p := ⟨gr, 0, none⟩) hgw _).set_ (p := ⟨gr, 1, none⟩) hgw _).set_ (p := ⟨gr, 2, none⟩) hgw _).set_ (p := ⟨gr, 3, none⟩) hgw _⟩
              rfl
            | true =>
              have hE6 := hE5
              go_wp2_with (first
                | (go_at_call 90; refine Hid.out ?_))
              refine Hid.mk_ ((HLW.out _).mono ?_)
              rintro e w7 ⟨rfl, hE7⟩
              have hP7 := HAr.out.extn (hE6.trans hE7)
              have HP7 := Lib.hid hP7
              have hbt := (show Blk w7 gt _ _ by rw [HGT.out]; exact (hP7).bt)
              have c0 := hbt.cell 0
              have f0 := hbt.frozen 0
              simp at c0
              clear hbt
              clear hP7
              go_wp2
              go_roundg g
              case measure => omega
              case rel =>
                refine ⟨k + 1, 1, { t with lang := xb.map loB }, A, m, c, by omega, by go_num, by go_num, by omega, Lib.hid ?_, ⟨by have := HT.out.n; dsimp only; omega, HT.out.sz, by rw [List.length_map]; exact HXL.out, HT.out.sn, HT.out.rn⟩, Lib.hid ?_⟩
                · rw [HFS.out, HPP.out]
                  show (if _ then _ else _) = _
                  rw [if_pos HCL.out.symm]
                · rw [HGT.out]
                  exact HP7.out.set_ 0 rfl (by rw [HLX.out]; rfl)
          · have hxl : x.toList = xb := by rw [ByteArray.toList_eq]; exact HX.out
            have hxz : x.size = xb.length := by rw [← HX.out, bys_len]
            by_cases h0 : xb = []
            · have hx0 : x.toList.isEmpty = true := by rw [hxl, h0]; rfl
              have H12 := Lib.hid (partS_12 (x := xb) (t := t) (fun e => e.1 h0))
              clear hxl hxz h0
              go_wp2
              refine wp_region_ext_lit (by kernel_rfl) (by kernel_rfl) ?_
              try dsimp only [List.append]
              repeat (go_big_quiet_step (fail))
              refine wpQuiet_nil ?_
              rintro w5 ⟨⟨_, h5⟩, rfl⟩
              try dsimp only
              have hE5 := hEo.trans h5
              go_wp2
              go_roundg g2
              case measure => omega
              case rel => exact ⟨2, by omega, by omega, by go_num, Lib.hid (HPP.out.trans H12.out), hE5⟩
            · have hx0 : x.toList.isEmpty = false := by
                rw [hxl]
                cases xb with
                | nil => exact absurd rfl h0
                | cons _ _ => rfl
              have hpos : 0 < xb.length := List.length_pos_iff.2 h0
              have h1s : (1 : Int) ≤ (x.size : Int) := by omega
              have b1 : bys (x.extract 0 1) = xb.take 1 := by rw [tbys_extract, HX.out, List.drop_zero]
              have b2 : bys (x.extract 1 x.size) = xb.drop 1 := by rw [tbys_extract, HX.out, List.take_of_length_le (by omega)]
              obtain ⟨s1, hs1⟩ : ∃ y, y = str ((xb.take 1).map upB) := ⟨_, rfl⟩
              obtain ⟨s2, hs2⟩ : ∃ y, y = str ((xb.drop 1).map loB) := ⟨_, rfl⟩
              have z1 : (x.extract 0 1).size ≤ 140737488351232 := by rw [← bys_len, b1, List.length_take]; omega
              have z2 : (x.extract 1 x.size).size ≤ 140737488351232 := by rw [← bys_len, b2, List.length_drop]; have := HXL.out; omega
              have U1 : ∀ W, Calls Tryz.prog 92 #[.string (x.extract 0 1)] W fun e w' => e = .returned (.string s1) ∧ Ext W w' := fun W => by
                have h := upper_any (w := W) _ z1
                rwa [b1, ← hs1] at h
              have L1 : ∀ W, Calls Tryz.prog 90 #[.string (x.extract 1 x.size)] W fun e w' => e = .returned (.string s2) ∧ Ext W w' := fun W => by
                have h := lower_any (w := W) _ z2
                rwa [b2, ← hs2] at h
              have b12 : bys (s1 ++ s2) = (xb.take 1).map upB ++ (xb.drop 1).map loB := by rw [bys_app2, hs1, hs2, bys_str, bys_str]
              have z12 : (s1 ++ s2).size ≤ 140737488351232 := by
                rw [← bys_len, b12, List.length_append, List.length_map, List.length_map, List.length_take, List.length_drop]
                have := HXL.out
                omega
              obtain ⟨cv, hcv⟩ : ∃ c, c = scrP ((xb.take 1).map upB ++ (xb.drop 1).map loB) := ⟨_, rfl⟩
              have S1 : ∀ W, Calls Tryz.prog 91 #[.string (s1 ++ s2)] W fun e w' => e = .returned (.bool cv) ∧ Ext W w' := fun W => by
                have h := script_any (w := W) _ z12
                rw [b12, ← hcv] at h
                exact h.mono fun _ _ ⟨h1, h2⟩ => ⟨h1, h2 ▸ Ext.refl _⟩
              have t1 : (s1.size : Int) ≤ 8388608 := by rw [hs1, str_size, List.length_map, List.length_take]; omega
              have t2 : (s2.size : Int) ≤ 8388608 := by rw [hs2, str_size, List.length_map, List.length_drop]; have := HXL.out; omega
              have U1 := Lib.hid U1
              have L1 := Lib.hid L1
              have S1 := Lib.hid S1
              have HS12 : Hid (s1 ++ s2 = str ((xb.take 1).map upB ++ (xb.drop 1).map loB)) := bys_inj2 (by rw [b12, bys_str])
              have H0 := Lib.hid h0
              have HCV := Lib.hid hcv
              have HL12 : Hid (((xb.take 1).map upB ++ (xb.drop 1).map loB).length ≤ 1000) := by
                show _ ≤ _
                rw [List.length_append, List.length_map, List.length_map, List.length_take, List.length_drop]
                have := HXL.out
                omega
              clear b1 b2 b12 z1 z2 z12 hs1 hs2 hcv hxl hxz h0 hpos
              cases cv with
              | false =>
                have H12 : Hid (partS xb (1, t) = partS xb (2, t)) := partS_12 (fun e => by rw [← HCV.out] at e; exact absurd e.2 (by decide))
                go_wp2
                refine wp_region_ext_lit (by kernel_rfl) (by kernel_rfl) ?_
                try dsimp only [List.append]
                repeat (go_big_quiet_step (first | (go_at_call 92; with_reducible exact Calls.quiet_ext (U1.out _)) | (go_at_call 90; with_reducible exact Calls.quiet_ext (L1.out _)) | (go_at_call 91; with_reducible exact Calls.quiet_ext (S1.out _))))
                refine wpQuiet_nil ?_
                rintro w5 ⟨⟨_, h5⟩, rfl⟩
                try dsimp only
                have hE5 := hEo.trans h5
                go_wp2
                go_roundg g2
                case measure => omega
                case rel => exact ⟨2, by omega, by omega, by go_num, Lib.hid (HPP.out.trans H12.out), hE5⟩
              | true =>
                go_wp2
                refine wp_region_ext_lit (by kernel_rfl) (by kernel_rfl) ?_
                try dsimp only [List.append]
                repeat (go_big_quiet_step (first | (go_at_call 92; with_reducible exact Calls.quiet_ext (U1.out _)) | (go_at_call 90; with_reducible exact Calls.quiet_ext (L1.out _)) | (go_at_call 91; with_reducible exact Calls.quiet_ext (S1.out _))))
                refine wpQuiet_nil ?_
                rintro w5 ⟨⟨_, h5⟩, rfl⟩
                try dsimp only
                have HP5 := Lib.hid (HAr.out.extn h5)
                go_wp2
                refine wp_region_ext_tail 8 (by kernel_rfl) (by kernel_rfl) ?_
                simp only [List.take_succ_cons, List.take_zero, List.drop_succ_cons, List.drop_zero]
                repeat (go_big_quiet_step (first | (go_at_call 92; with_reducible exact Calls.quiet_ext (U1.out _)) | (go_at_call 90; with_reducible exact Calls.quiet_ext (L1.out _))))
                refine wpQuiet_nil ?_
                rintro w6 ⟨⟨_, h6⟩, rfl⟩
                try dsimp only
                have hP7 := HP5.out.extn h6
                have HP7 := Lib.hid hP7
                have hbt := (show Blk w6 gt _ _ by rw [HGT.out]; exact (hP7).bt)
                have c0 := hbt.cell 1
                have f0 := hbt.frozen 1
                simp at c0
                clear hbt
                clear hP7
                go_wp2
                go_roundg g
                case measure => omega
                case rel =>
                  refine ⟨k + 1, 2, { t with scr := (xb.take 1).map upB ++ (xb.drop 1).map loB }, A, m, c, by omega, by go_num, by go_num, by omega, Lib.hid ?_, ⟨by have := HT.out.n; dsimp only; omega, HT.out.sz, HT.out.ln, HL12.out, HT.out.rn⟩, Lib.hid ?_⟩
                  · rw [HFS.out, HPP.out]
                    show (if _ then _ else _) = _
                    rw [if_pos ⟨H0.out, HCV.out.symm⟩]
                  · rw [HGT.out]
                    exact HP7.out.set_ 1 rfl (by rw [HS12.out]; rfl)
          · have hK := fun W => region_any (w := W) ux husz
            rw [HBU.out] at hK
            obtain ⟨cl, hcl⟩ : ∃ c, c = regP (xb.map upB) := ⟨_, rfl⟩
            rw [← hcl] at hK
            have HK := Lib.hid hK
            have HCL := Lib.hid hcl
            clear hK hcl
            go_wp2_with (first
              | (go_at_call 92; refine Hid.out ?_))
            refine Hid.mk_ ((HUP.out _).mono ?_)
            rintro e w5 ⟨rfl, hE5⟩
            go_wp2_with (first
              | (go_at_call 93; refine Hid.out ?_))
            refine Hid.mk_ ((HK.out _).mono ?_)
            rintro e w6 ⟨rfl, hq⟩
            subst hq
            cases cl with
            | false =>
              have H23 : Hid (partS xb (2, t) = partS xb (3, t)) := partS_23 (fun e => by rw [← HCL.out] at e; cases e)
              have hE6 := hEo.trans hE5
              go_wp2
              go_roundg g2
              case measure => omega
              case rel => exact ⟨3, by omega, by omega, by go_num, Lib.hid (HPP.out.trans H23.out), hE6⟩
            | true =>
              have hE6 := hE5
              go_wp2_with (first
                | (go_at_call 92; refine Hid.out ?_))
              refine Hid.mk_ ((HUP.out _).mono ?_)
              rintro e w7 ⟨rfl, hE7⟩
              have hP7 := HAr.out.extn (hE6.trans hE7)
              have HP7 := Lib.hid hP7
              have hbt := (show Blk w7 gt _ _ by rw [HGT.out]; exact (hP7).bt)
              have c0 := hbt.cell 2
              have f0 := hbt.frozen 2
              simp at c0
              clear hbt
              clear hP7
              go_wp2
              go_roundg g
              case measure => omega
              case rel =>
                refine ⟨k + 1, 3, { t with reg := xb.map upB }, A, m, c, by omega, by go_num, by go_num, by omega, Lib.hid ?_, ⟨by have := HT.out.n; dsimp only; omega, HT.out.sz, HT.out.ln, HT.out.sn, by rw [List.length_map]; exact HXL.out⟩, Lib.hid ?_⟩
                · rw [HFS.out, HPP.out]
                  show (if _ then _ else _) = _
                  rw [if_pos HCL.out.symm]
                · rw [HGT.out]
                  exact HP7.out.set_ 2 rfl (by rw [HUX.out]; rfl)
          · have hK := fun W => variant_any (w := W) lx hlsz
            rw [HBL.out] at hK
            obtain ⟨cl, hcl⟩ : ∃ c, c = varP (xb.map loB) := ⟨_, rfl⟩
            rw [← hcl] at hK
            have HK := Lib.hid hK
            have HCL := Lib.hid hcl
            clear hK hcl
            go_wp2_with (first
              | (go_at_call 90; refine Hid.out ?_))
            refine Hid.mk_ ((HLW.out _).mono ?_)
            rintro e w5 ⟨rfl, hE5⟩
            go_wp2_with (first
              | (go_at_call 94; refine Hid.out ?_))
            refine Hid.mk_ ((HK.out _).mono ?_)
            rintro e w6 ⟨rfl, hq⟩
            subst hq
            cases cl with
            | false =>
              have hEe : Ext w2 w5 := HAr.out.ext.trans hE5
              have hbe := HBR.out.below hEe HBR.out.lt
              have HEe := Lib.hid hEe
              have HR : Hid (parseT s = (tg0, 3)) := parseT_none (foldS_none (q := k + 1) (by rw [HFS.out, HPP.out]; show (if _ then _ else _) = _; rw [if_neg (by rw [← HCL.out]; decide)]))
              have q0 := (hbe).cell 0
              have q1 := (hbe).cell 1
              have q2 := (hbe).cell 2
              have q3 := (hbe).cell 3
              have gf0 := (hbe).frozen 0
              have gf1 := (hbe).frozen 1
              have gf2 := (hbe).frozen 2
              have gf3 := (hbe).frozen 3
              simp only [List.getElem?_toArray, List.getElem?_cons_zero, List.getElem?_cons_succ] at q0 q1 q2 q3
              have HRB := Lib.hid (hbe)
              clear hbe hEe
              go_wp2
              try rw [Exit.noGoto_ret]
              refine bodyPost_ret (results_cell_row_tmpT rfl _ _ gr 108 _ (0, 0) _ rfl ((((HRB.out.set_ 0 _).set_ 1 _).set_ 2 _).set_ 3 _) Tryz.underlying108 rfl info_tg4) rfl ?_
              have hgw : w.heap.size ≤ gr := by rw [HGR.out]; exact Nat.le_refl _
              rw [HR.out]
              refine ⟨⟨⟨none, 0, 0⟩, ?_, tg0_W _, fun k hk => by cases hk⟩, ((((HE02.out.trans HEe.out).set_ (p := ⟨gr, 0, none⟩) hgw _).set_ (p := ⟨gr, 1, none⟩) hgw _).set_ (p := ⟨gr, 2, none⟩) hgw _).set_ (p := ⟨gr, 3, none⟩) hgw _⟩
              rfl
            | true =>
              have hP5 := HAr.out.extn hE5
              have HP5 := Lib.hid hP5
              have hbt := (show Blk w5 gt _ _ by rw [HGT.out]; exact (hP5).bt)
              have c0 := hbt.cell 3
              have f0 := hbt.frozen 3
              simp at c0
              clear hbt
              have HO5 := Lib.hid hP5.own
              have hms : m ≤ 1001 := by have := hP5.own.len; rw [List.length_map] at this; have := HT.out.n; omega
              have C0 := laters c0
              have HE5 := Lib.hid hE5
              have hEr := Ext.refl w5
              clear hP5 c0 f0 hE5
              go_wp2
              have HG8 : Hid (∀ W A3 m3 c3 (w8 : World), Ext w5 W → OsC strF 9 1 w8 w2.heap.size A3 m3 c3 (t.vars.map str ++ [lx]) → W.grownBy w8 (ob A) → Blk w8 gt 108 #[.string (str t.lang), .string (str t.scr), .string (str t.reg), .slice A m c] ∧ PaS w2 (w8.setCell ⟨gt, 3, none⟩ (.slice A3 m3 c3)) { t with vars := t.vars ++ [xb.map loB] } A3 m3 c3) := fun W A3 m3 c3 w8 hE ho8 hg8 => by
                have HP7 := HP5.out.extn hE
                rw [HGT.out]
                refine ⟨HP7.bt.grown hg8 fun e => ?_, HP7.app (by rw [← HLX.out]; exact ho8) hg8⟩
                rcases own_ne_tg HP7.own HP7.bt with h4 | h4
                · rw [h4] at e; cases e
                · exact h4 e.symm
              go_region_law (first
                | (refine step_appC einfo_ss rfl _ _ rfl (HP5.out.own.ext hE67) rfl hnew rfl (by omega) (HP5.out.ext.trans hE67).size_le ?_; intro A3 m3 c3 w8 ho8 hg8 hat8; have hb8 := (HG8.out _ _ _ _ _ hE67 ho8 hg8).1; have HP9 := Lib.hid (HG8.out _ _ _ _ _ hE67 ho8 hg8).2; have c8 := hb8.cell 3; have f8 := hb8.frozen 3; simp at c8)
                | (go_simp; go_at_call 90; refine (HLW.out _).mono ?_; rintro e w6 ⟨rfl, h6'⟩; have h6 : Ext w5 w6 := Ext.trans (by first | exact Ext.refl _ | exact (Ext.refl _).drew) h6'; have hE67 : Ext w5 (w6.alloc (.cells #[.string lx] 9)) := h6.alloc _; have hnew : SlC strF 1 (w6.alloc (.cells #[.string lx] 9)) (some ⟨w6.heap.size, 0, none⟩) 1 [lx] := SlC.new_ (cs := strF) w6 [lx] (fun _ => rfl) (by simp) _ rfl (0, 0) _ rfl _)
                | fail)
              all_goals
                clear hb8 ho8 hg8 hat8 hnew hE67 C0 h6 h6' c8 f8 hEr
                go_wp2
                go_roundg g
                case measure => omega
                case rel =>
                  refine ⟨k + 1, 3, { t with vars := t.vars ++ [xb.map loB] }, A3, m3, c3, by omega, by go_num, by go_num, by omega, Lib.hid ?_, ⟨by have := HT.out.n; simp; omega, fun y hy => ?_, HT.out.ln, HT.out.sn, HT.out.rn⟩, HP9⟩
                  · rw [HFS.out, HPP.out]
                    show (if _ then _ else _) = _
                    rw [if_pos HCL.out.symm]
                  · rcases List.mem_append.1 hy with hy | hy
                    · exact HT.out.sz y hy
                    · rw [List.mem_singleton] at hy
                      rw [hy, List.length_map]
                      exact HXL.out
      --S]
end
end Go.Proofs.YtdgppdiickmofaaGreatDoor

/- The program's tags: Canonical, Parent, Ancestors. -/
namespace Go.Proofs.YtdgppdiickmofaaGreatDoor
open Go.RowKit
set_option maxRecDepth 100000
attribute [local go_sem] ext_refl_t ext_alloc_t ext_drew_t ext_drewN_t ext_alloc2_t ext_alloc3_t ext_alloc4_t ext_alloc5_t ext_alloc6_t ext_alloc7_t ext_alloc8_t ext_alloc1d_t ext_alloc2d_t ext_alloc3d_t ext_alloc4d_t
def canonT (s : List UInt8) : List UInt8 × Int := if (parseT s).2 = 0 then (joinT (parseT s).1, 0) else ([], (parseT s).2)
section
variable {w : World}
set_option maxHeartbeats 3200000 in
theorem tcanon_any {s : List UInt8} (hs : s.length ≤ 1000) (hM : MX w) :
    Calls Tryz.prog 101 #[.string (str s)] w fun e w' => e = .returned (.tuple #[.string (str (canonT s).1), .int .i64 (canonT s).2]) ∧ Ext w w' := by
  have HP := Lib.hid (parse_any hs hM)
  obtain ⟨s0, hs0⟩ : ∃ x, x = str s := ⟨_, rfl⟩
  rw [← hs0] at HP ⊢
  clear hs0 hs hM
  go_enter Tryz.func101, Tryz.ntmps101
  go_wp2_with (first
    | (go_at_call 65; refine Hid.out ?_))
  refine Hid.mk_ (HP.out.mono ?_)
  rintro e w1 ⟨⟨⟨A, m, c⟩, rfl, hT, -⟩, hE1⟩
  obtain ⟨t, ht⟩ : ∃ t, t = (parseT s).1 := ⟨_, rfl⟩
  rw [← ht] at hT ⊢
  obtain ⟨er, her⟩ : ∃ er, er = (parseT s).2 := ⟨_, rfl⟩
  rw [← her]
  have HTT := Lib.hid ht
  have HER := Lib.hid her
  clear ht her
  unfold tgV
  dsimp only at hT ⊢
  obtain ⟨lang, hla⟩ : ∃ x, x = str (t).lang := ⟨_, rfl⟩
  obtain ⟨scr, hsc⟩ : ∃ x, x = str (t).scr := ⟨_, rfl⟩
  obtain ⟨reg, hrg⟩ : ∃ x, x = str (t).reg := ⟨_, rfl⟩
  have HLA := Lib.hid hla
  have HSC := Lib.hid hsc
  have HRG := Lib.hid hrg
  rw [← hla, ← hsc, ← hrg]
  clear hla hsc hrg
  have HT := Lib.hid hT
  clear hT
  have hE2 : Ext w1 (w1.alloc (.cells #[.string lang, .string scr, .string reg, .slice A m c] 108)) := (Ext.refl w1).alloc _
  have HK : Hid (∀ W, Ext w1 W → Calls Tryz.prog 97 #[.agg #[.string lang, .string scr, .string reg, .slice A m c]] W fun e w' => e = .returned (.string (str (joinT t))) ∧ Ext W w') := fun W hE => by
    rw [HLA.out, HSC.out, HRG.out]
    exact ttext_any (h := ⟨A, m, c⟩) (HT.out.ext hE)
  by_cases h0 : er = 0
  · have HC : Hid (canonT s = (joinT t, 0)) := by show _ = _; unfold canonT; rw [← HER.out, if_pos h0, HTT.out]
    subst h0
    go_wp2_with (first
      | (go_at_call 97; refine Hid.out ?_))
    refine Hid.mk_ ((HK.out _ hE2).mono ?_)
    rintro e w3 ⟨rfl, hE3⟩
    go_wp2
    go_ret2
    exact ⟨by rw [HC.out]; rfl, (hE1.trans hE2).trans hE3⟩
  · have HC : Hid (canonT s = ([], er)) := by show _ = _; unfold canonT; rw [← HER.out, if_neg h0]
    go_wp2
    go_ret2
    exact ⟨by rw [HC.out]; rfl, hE1.trans hE2⟩
set_option maxHeartbeats 3200000 in
theorem tparS_any {s : List UInt8} (hs : s.length ≤ 1000) (hM : MX w) :
    Calls Tryz.prog 80 #[.string (str s)] w fun e w' => (∃ z : Int, e = .returned (.tuple #[.string (str (parS s)), .int .i64 z])) ∧ Ext w w' := by
  have HP := Lib.hid (parse_any hs hM)
  obtain ⟨s0, hs0⟩ : ∃ x, x = str s := ⟨_, rfl⟩
  rw [← hs0] at HP ⊢
  clear hs0 hs hM
  go_enter Tryz.func80, Tryz.ntmps80
  go_wp2_with (first
    | (go_at_call 65; refine Hid.out ?_))
  refine Hid.mk_ (HP.out.mono ?_)
  rintro e w1 ⟨⟨⟨A, m, c⟩, rfl, hT, -⟩, hE1⟩
  obtain ⟨t, ht⟩ : ∃ t, t = (parseT s).1 := ⟨_, rfl⟩
  rw [← ht] at hT ⊢
  obtain ⟨er, her⟩ : ∃ er, er = (parseT s).2 := ⟨_, rfl⟩
  rw [← her]
  have HTT := Lib.hid ht
  have HER := Lib.hid her
  clear ht her
  unfold tgV
  dsimp only at hT ⊢
  obtain ⟨lang, hla⟩ : ∃ x, x = str (t).lang := ⟨_, rfl⟩
  obtain ⟨scr, hsc⟩ : ∃ x, x = str (t).scr := ⟨_, rfl⟩
  obtain ⟨reg, hrg⟩ : ∃ x, x = str (t).reg := ⟨_, rfl⟩
  have HLA := Lib.hid hla
  have HSC := Lib.hid hsc
  have HRG := Lib.hid hrg
  rw [← hla, ← hsc, ← hrg]
  clear hla hsc hrg
  have HT := Lib.hid hT
  clear hT
  have hE2 : Ext w1 (w1.alloc (.cells #[.string lang, .string scr, .string reg, .slice A m c] 108)) := (Ext.refl w1).alloc _
  have HPK : Hid (∀ W, Ext w1 W → Calls Tryz.prog 109 #[.agg #[.string lang, .string scr, .string reg, .slice A m c]] W fun e w' => ParPost W ⟨A, m, c⟩ t e w' ∧ Ext W w') := fun W hE => by
    rw [HLA.out, HSC.out, HRG.out]
    exact tparent_any (h := ⟨A, m, c⟩) (HT.out.ext hE)
  by_cases h0 : er = 0
  · have HC : Hid (parS s = match parentT t with | none => [] | some p => joinT p) := by show _ = _; unfold parS; rw [← HER.out, if_pos h0, ← HTT.out]; rfl
    subst h0
    go_wp2_with (first
      | (go_at_call 109; refine Hid.out ?_))
    refine Hid.mk_ ((HPK.out _ hE2).mono ?_)
    rintro e w3 ⟨⟨⟨A3, m3, c3⟩, t3, ok, rfl, hpr, ht3, -⟩, hE3⟩
    have HPR := Lib.hid hpr
    have HT3 := Lib.hid ht3
    clear hpr ht3
    unfold tgV
    dsimp only
    obtain ⟨l3, hla⟩ : ∃ x, x = str (t3).lang := ⟨_, rfl⟩
    obtain ⟨s3, hsc⟩ : ∃ x, x = str (t3).scr := ⟨_, rfl⟩
    obtain ⟨r3, hrg⟩ : ∃ x, x = str (t3).reg := ⟨_, rfl⟩
    have HL3 := Lib.hid hla
    have HS3 := Lib.hid hsc
    have HR3 := Lib.hid hrg
    rw [← hla, ← hsc, ← hrg]
    clear hla hsc hrg
    have hE4 : Ext w3 (w3.alloc (.cells #[.string l3, .string s3, .string r3, .slice A3 m3 c3] 108)) := (Ext.refl w3).alloc _
    have HK : Hid (∀ W, Ext w3 W → Calls Tryz.prog 97 #[.agg #[.string l3, .string s3, .string r3, .slice A3 m3 c3]] W fun e w' => e = .returned (.string (str (joinT t3))) ∧ Ext W w') := fun W hE => by
      rw [HL3.out, HS3.out, HR3.out]
      exact ttext_any (h := ⟨A3, m3, c3⟩) (HT3.out.ext hE)
    cases ok with
    | false =>
      have HN : Hid (parS s = []) := by
        show _ = _
        rw [HC.out]
        have h := HPR.out
        unfold ParR at h
        cases hpt : parentT t with
        | none => rfl
        | some p => rw [hpt] at h; cases h.1
      go_wp2
      go_ret2
      exact ⟨⟨8, by rw [HN.out]; rfl⟩, ((hE1.trans hE2).trans hE3).trans hE4⟩
    | true =>
      have HN : Hid (parS s = joinT t3) := by
        show _ = _
        rw [HC.out]
        have h := HPR.out
        unfold ParR at h
        cases hpt : parentT t with
        | none => rw [hpt] at h; cases h.1
        | some p => rw [hpt] at h; rw [h.2]
      go_wp2_with (first
        | (go_at_call 97; refine Hid.out ?_))
      refine Hid.mk_ ((HK.out _ hE4).mono ?_)
      rintro e w5 ⟨rfl, hE5⟩
      go_wp2
      go_ret2
      exact ⟨⟨0, by rw [HN.out]; rfl⟩, (((hE1.trans hE2).trans hE3).trans hE4).trans hE5⟩
  · have HC : Hid (parS s = []) := by show _ = _; unfold parS; rw [← HER.out, if_neg h0]
    go_wp2
    go_ret2
    exact ⟨⟨er, by rw [HC.out]; rfl⟩, hE1.trans hE2⟩
end
end Go.Proofs.YtdgppdiickmofaaGreatDoor
