/- The program's match: between, distance. -/
import Derived.Test.YtdgppdiickmofaaGreatDoorPQ24
namespace Go.Proofs.YtdgppdiickmofaaGreatDoor
open Go.RowKit
set_option maxRecDepth 100000
attribute [local go_sem] ext_refl_t ext_alloc_t ext_drew_t ext_drewN_t ext_alloc2_t ext_alloc3_t ext_alloc4_t ext_alloc5_t ext_alloc6_t ext_alloc7_t ext_alloc8_t ext_alloc1d_t ext_alloc2d_t ext_alloc3d_t ext_alloc4d_t
def betL : List NrP → PrP → Int → Int
  | [], _, far => far
  | x :: r, p, far => if ofP x.a x.b = p then x.c else betL r p far
def betN (l : List NrP) (a b : List UInt8) (far : Int) : Int := if a = b then 0 else betL l (ofP a b) far
def distT (l : List NrP) (a b : Tg) : Int := betN l a.lang b.lang 100 + betN l a.scr b.scr 50 + betN l a.reg b.reg 5 + if a.vars = b.vars then 0 else 1
theorem valS_cost : ∀ {l : List NrP} {S : List PrP}, valS l S = true → ∀ x ∈ l, 1 ≤ x.c ∧ x.c ≤ 99
  | [], _, _, x, hx => by cases hx
  | y :: r, S, h, x, hx => by
    unfold valS at h
    rw [Bool.and_eq_true, Bool.not_eq_true', Bool.or_eq_false_iff] at h
    obtain ⟨⟨h1, _⟩, h2⟩ := h
    rcases List.mem_cons.1 hx with rfl | hx
    · unfold badN at h1
      simp only [Bool.or_eq_false_iff, decide_eq_false_iff_not] at h1
      omega
    · exact valS_cost h2 x hx
theorem valN_cost {l : List NrP} (h : valN l = true) : ∀ x ∈ l, 1 ≤ x.c ∧ x.c ≤ 99 := by
  unfold valN at h
  rw [Bool.and_eq_true] at h
  exact valS_cost h.1
theorem betL_bd : ∀ {l : List NrP} {p : PrP} {far : Int}, (∀ x ∈ l, 1 ≤ x.c ∧ x.c ≤ 99) → 0 ≤ far → far ≤ 100 → 0 ≤ betL l p far ∧ betL l p far ≤ 100
  | [], _, _, _, h1, h2 => ⟨h1, h2⟩
  | x :: r, p, far, h, h1, h2 => by
    unfold betL
    split
    · have := h x (.head _); omega
    · exact betL_bd (fun y hy => h y (.tail _ hy)) h1 h2
theorem betN_bd {l : List NrP} {a b : List UInt8} {far : Int} (h : ∀ x ∈ l, 1 ≤ x.c ∧ x.c ≤ 99) (h1 : 0 ≤ far) (h2 : far ≤ 100) : 0 ≤ betN l a b far ∧ betN l a b far ≤ 100 := by
  unfold betN
  split
  · omega
  · exact betL_bd h h1 h2
section
variable {w : World}
set_option maxHeartbeats 6400000 in
theorem between_any {h : SlH} {l : List NrP} (hs : NrW w h l) (hl : l.length ≤ 30) {a b : List UInt8} (ha : a.length ≤ 1000) (hb : b.length ≤ 1000) (far : Int) :
    Calls Tryz.prog 75 #[.slice h.A h.m h.c, .string (str a), .string (str b), .int .i64 far] w fun e w' => e = .returned (.int .i64 (betN l a b far)) ∧ Ext w w' := by
  obtain ⟨A, m, c⟩ := h
  dsimp only
  have HL : Hid (m = l.length) := hs.sl.len
  have hm : m ≤ 30 := by have := HL.out; omega
  have HS := Lib.hid hs
  have q1 : ((str a).toList == (str b).toList) = decide (a = b) := str_eqB _ _
  have HOF : Hid (∀ W, Calls Tryz.prog 46 #[.string (str a), .string (str b)] W fun e w' => e = .returned (prV (ofP a b)) ∧ Ext W w') := fun W => mof_any a b
  have HPL : Hid ((ofP a b).1.length ≤ maxLen ∧ (ofP a b).2.length ≤ maxLen) := ⟨Nat.le_trans (minP_len ha hb) (by simp [maxLen]), Nat.le_trans (maxP_len ha hb) (by simp [maxLen])⟩
  have HB : Hid (betN l a b far = if a = b then 0 else betL l (ofP a b) far) := rfl
  obtain ⟨p, hp⟩ : ∃ p, p = ofP a b := ⟨_, rfl⟩
  rw [← hp] at HOF HPL HB
  obtain ⟨xa, hxa⟩ : ∃ y, y = str a := ⟨_, rfl⟩
  obtain ⟨xb, hxb⟩ : ∃ y, y = str b := ⟨_, rfl⟩
  rw [← hxa] at q1 HOF ⊢
  rw [← hxb] at q1 HOF ⊢
  clear hs hl ha hb hp hxa hxb
  by_cases hab : a = b
  · rw [decide_eq_true hab] at q1
    have HR : Hid (betN l a b far = 0) := by show _ = _; rw [HB.out, if_pos hab]
    clear hab
    go_enter Tryz.func75, Tryz.ntmps75
    go_wp2
    go_ret
    exact ⟨by rw [HR.out]; rfl, Ext.refl _⟩
  · rw [decide_eq_false hab] at q1
    have HR : Hid (betN l a b far = betL l p far) := by show _ = _; rw [HB.out, if_neg hab]
    obtain ⟨r, hr⟩ : ∃ r, r = betN l a b far := ⟨_, rfl⟩
    rw [← hr] at HR ⊢
    clear hab hr HB
    go_enter Tryz.func75, Tryz.ntmps75
    go_wp2
    go_loopw [10, 16] (fun _ i wr => ∃ q : Nat, q ≤ m ∧ i = .int .i64 q ∧ Hid (Ext w wr) ∧ Hid (r = betL (l.drop q) p far)) (fun _ i _ => m - (intOf i).toNat)
    case atStart => exact ⟨0, Nat.zero_le _, rfl, Ext.refl _, by rw [List.drop_zero]; exact HR⟩
    case round =>
      obtain ⟨q, hq, rfl, HE, HC⟩ := hrel
      by_cases hlt : q < m
      · obtain ⟨b', off, e0, hbl, hcs⟩ := (HS.out.sl.ext HE.out).at_ hlt (by omega)
        dsimp only at e0
        subst e0
        have hlt1 : q < l.length := by rw [← HL.out]; exact hlt
        obtain ⟨x, hxq⟩ : ∃ x, x = l[q] := ⟨_, rfl⟩
        have x0 := hcs q hlt1 0 (by omega)
        have x1 := hcs q hlt1 1 (by omega)
        have x2 := hcs q hlt1 2 (by omega)
        simp only [← hxq, nrC, List.getElem_cons_zero, List.getElem_cons_succ, Nat.add_zero, ← Nat.add_assoc] at x0 x1 x2
        have hgood := HS.out.good x (by rw [hxq]; exact List.getElem_mem hlt1)
        have HDV : Hid (r = if ofP x.a x.b = p then x.c else betL (l.drop (q + 1)) p far) := by
          show _ = _
          rw [HC.out, List.drop_eq_getElem_cons hlt1, ← hxq]
          rfl
        have HGD := Lib.hid hgood
        clear hcs hxq hgood HC
        have hi1 : (q : Int) < (m : Int) := by omega
        have HO2 : Hid (∀ W, Calls Tryz.prog 46 #[.string (str x.a), .string (str x.b)] W fun e w' => e = .returned (prV (ofP x.a x.b)) ∧ Ext W w') := fun W => mof_any x.a x.b
        have hpl : (ofP x.a x.b).1.length ≤ maxLen ∧ (ofP x.a x.b).2.length ≤ maxLen := ⟨Nat.le_trans (minP_len HGD.out.1 HGD.out.2.1) (by simp [maxLen]), Nat.le_trans (maxP_len HGD.out.1 HGD.out.2.1) (by simp [maxLen])⟩
        have hEQ := fun W => eql_pair W (ofP x.a x.b) p hpl HPL.out
        obtain ⟨s, hs⟩ : ∃ s, s = ofP x.a x.b := ⟨_, rfl⟩
        rw [← hs] at HO2 HDV hEQ
        obtain ⟨ya, hya⟩ : ∃ y, y = str x.a := ⟨_, rfl⟩
        obtain ⟨yb, hyb⟩ : ∃ y, y = str x.b := ⟨_, rfl⟩
        obtain ⟨yc, hyc⟩ : ∃ y, y = x.c := ⟨_, rfl⟩
        rw [← hya] at x0 HO2
        rw [← hyb] at x1 HO2
        rw [← hyc] at x2 HDV
        obtain ⟨bq, hbq⟩ : ∃ b, b = decide (s = p) := ⟨_, rfl⟩
        rw [← hbq] at hEQ
        have HQ : Hid (r = if bq = true then yc else betL (l.drop (q + 1)) p far) := by show _ = _; rw [HDV.out, hbq]; by_cases h : s = p <;> simp [h]
        unfold prV at hEQ
        have HEQ := Lib.hid hEQ
        have hbx := Blk.new wr 99 #[.string ya, .string yb, .int .i64 yc]
        have hE1 : Ext wr (wr.alloc (.cells #[.string ya, .string yb, .int .i64 yc] 99)) := (Ext.refl wr).alloc _
        clear hbq hs hya hyb hyc hpl HDV hEQ
        go_wp2_with (first
          | (go_at_call 46; refine Hid.out ?_))
        refine Hid.mk_ ((HO2.out _).mono ?_)
        rintro e w3 ⟨rfl, hE3⟩
        have hb3 := hbx.below hE3 (by simp)
        have c2 := (show w3.cell? ⟨wr.heap.size, 2, none⟩ = some (.int .i64 yc) from hb3.cell 2)
        go_wp2_with (first
          | (go_at_call 46; refine Hid.out ?_))
        refine Hid.mk_ ((HOF.out _).mono ?_)
        rintro e w4 ⟨rfl, hE4⟩
        have c4 := later hE4 c2
        have hEF := (hE1.trans hE3).trans hE4
        have HEF := Lib.hid (HE.out.trans hEF)
        have hEQ := HEQ.out
        unfold prV
        clear hE1 hE3 hE4 hEF hb3 hbx c2 x0 x1 x2
        cases bq with
        | true =>
          have HF : Hid (r = yc) := HQ.out
          go_wp2
          go_ret
          exact ⟨by rw [HF.out]; rfl, HEF.out⟩
        | false =>
          have HF : Hid (r = betL (l.drop (q + 1)) p far) := HQ.out
          go_wp2
          go_roundw
          case rel => exact ⟨q + 1, by omega, by go_num, HEF, HF⟩
          case measure => simp [intOf]; omega
      · have hi1 : ¬ (q : Int) < (m : Int) := by omega
        have HF : Hid (r = far) := by
          show _ = _
          rw [HC.out, List.drop_eq_nil_of_le (by have := HL.out; omega)]
          rfl
        go_wp2
        go_ret
        exact ⟨by rw [HF.out]; rfl, HE.out⟩
set_option maxHeartbeats 6400000 in
theorem distance_any {h ha hb : SlH} {l : List NrP} {a b : Tg} (hs : NrW w h l) (hl : l.length ≤ 30) (hc : ∀ x ∈ l, 1 ≤ x.c ∧ x.c ≤ 99) (hta : TgW w ha a) (htb : TgW w hb b) :
    Calls Tryz.prog 49 #[.slice h.A h.m h.c, tgV ha a, tgV hb b] w fun e w' => e = .returned (.int .i64 (distT l a b)) ∧ Ext w w' := by
  obtain ⟨A, m, c⟩ := h
  obtain ⟨A1, m1, c1⟩ := ha
  obtain ⟨A2, m2, c2⟩ := hb
  have HK1 : Hid (∀ W, Ext w W → Calls Tryz.prog 75 #[.slice A m c, .string (str a.lang), .string (str b.lang), .int .i64 100] W fun e w' => e = .returned (.int .i64 (betN l a.lang b.lang 100)) ∧ Ext W w') := fun W hE => between_any (HW.ext hs hE) hl hta.ln htb.ln 100
  have HK2 : Hid (∀ W, Ext w W → Calls Tryz.prog 75 #[.slice A m c, .string (str a.scr), .string (str b.scr), .int .i64 50] W fun e w' => e = .returned (.int .i64 (betN l a.scr b.scr 50)) ∧ Ext W w') := fun W hE => between_any (HW.ext hs hE) hl hta.sn htb.sn 50
  have HK3 : Hid (∀ W, Ext w W → Calls Tryz.prog 75 #[.slice A m c, .string (str a.reg), .string (str b.reg), .int .i64 5] W fun e w' => e = .returned (.int .i64 (betN l a.reg b.reg 5)) ∧ Ext W w') := fun W hE => between_any (HW.ext hs hE) hl hta.rn htb.rn 5
  have HK4 : Hid (∀ W, Ext w W → Calls Tryz.prog 76 #[.slice A1 m1 c1, .slice A2 m2 c2] W fun e w' => e = .returned (.bool (decide (a.vars = b.vars))) ∧ Ext W w') := fun W hE => eqs_any (hta.sl.ext hE) (htb.sl.ext hE)
  have HD : Hid (distT l a b = betN l a.lang b.lang 100 + betN l a.scr b.scr 50 + betN l a.reg b.reg 5 + if a.vars = b.vars then 0 else 1) := rfl
  have hd1 := betN_bd (a := a.lang) (b := b.lang) hc (show (0 : Int) ≤ 100 by omega) (by omega)
  have hd2 := betN_bd (a := a.scr) (b := b.scr) hc (show (0 : Int) ≤ 50 by omega) (by omega)
  have hd3 := betN_bd (a := a.reg) (b := b.reg) hc (show (0 : Int) ≤ 5 by omega) (by omega)
  unfold tgV
  dsimp only
  obtain ⟨l1, hl1⟩ : ∃ x, x = str a.lang := ⟨_, rfl⟩
  obtain ⟨s1, hs1⟩ : ∃ x, x = str a.scr := ⟨_, rfl⟩
  obtain ⟨r1, hr1⟩ : ∃ x, x = str a.reg := ⟨_, rfl⟩
  obtain ⟨l2, hl2⟩ : ∃ x, x = str b.lang := ⟨_, rfl⟩
  obtain ⟨s2, hs2⟩ : ∃ x, x = str b.scr := ⟨_, rfl⟩
  obtain ⟨r2, hr2⟩ : ∃ x, x = str b.reg := ⟨_, rfl⟩
  rw [← hl1, ← hl2] at HK1
  rw [← hs1, ← hs2] at HK2
  rw [← hr1, ← hr2] at HK3
  rw [← hl1, ← hs1, ← hr1, ← hl2, ← hs2, ← hr2]
  obtain ⟨d1, e1⟩ : ∃ d, d = betN l a.lang b.lang 100 := ⟨_, rfl⟩
  obtain ⟨d2, e2⟩ : ∃ d, d = betN l a.scr b.scr 50 := ⟨_, rfl⟩
  obtain ⟨d3, e3⟩ : ∃ d, d = betN l a.reg b.reg 5 := ⟨_, rfl⟩
  obtain ⟨ev, e4⟩ : ∃ d, d = decide (a.vars = b.vars) := ⟨_, rfl⟩
  rw [← e1] at HK1 HD hd1
  rw [← e2] at HK2 HD hd2
  rw [← e3] at HK3 HD hd3
  rw [← e4] at HK4
  have HDF : Hid (distT l a b = d1 + d2 + d3 + if ev = true then 0 else 1) := by show _ = _; rw [HD.out, e4]; by_cases h : a.vars = b.vars <;> simp [h]
  have hw1 := IntWalk.i64_in (n := d1 + d2) (by omega)
  have hw2 := IntWalk.i64_in (n := d1 + d2 + d3) (by omega)
  have hw3 := IntWalk.i64_in (n := d1 + d2 + d3 + 1) (by omega)
  clear hl1 hs1 hr1 hl2 hs2 hr2 e1 e2 e3 e4 hs hl hc hta htb HD hd1 hd2 hd3
  go_enter Tryz.func49, Tryz.ntmps49
  have hE0 : Ext w ((w.alloc (.cells #[.string l1, .string s1, .string r1, .slice A1 m1 c1] 108)).alloc (.cells #[.string l2, .string s2, .string r2, .slice A2 m2 c2] 108)) := ((Ext.refl w).alloc _).alloc _
  have hb1 : Blk ((w.alloc (.cells #[.string l1, .string s1, .string r1, .slice A1 m1 c1] 108)).alloc (.cells #[.string l2, .string s2, .string r2, .slice A2 m2 c2] 108)) w.heap.size 108 #[.string l1, .string s1, .string r1, .slice A1 m1 c1] := (Blk.new w _ _).alloc _
  have hb2 := blk2 w #[.string l1, .string s1, .string r1, .slice A1 m1 c1] #[.string l2, .string s2, .string r2, .slice A2 m2 c2]
  go_upto_region 1 with fail
  obtain ⟨W0, hW0⟩ : ∃ W0, W0 = ((w.alloc (.cells #[.string l1, .string s1, .string r1, .slice A1 m1 c1] 108)).alloc (.cells #[.string l2, .string s2, .string r2, .slice A2 m2 c2] 108)) := ⟨_, rfl⟩
  rw [← hW0] at hE0 hb1 hb2 ⊢
  obtain ⟨g1, hg1⟩ : ∃ g, g = w.heap.size := ⟨_, rfl⟩
  obtain ⟨g2, hg2⟩ : ∃ g, g = w.heap.size + 1 := ⟨_, rfl⟩
  rw [← hg1] at hb1
  rw [← hg2] at hb2
  rw [← hg2, ← hg1]
  have z0 := latersU (show W0.cell? ⟨g1, 0, none⟩ = some (.string l1) from hb1.cell 0)
  have z1 := latersU (show W0.cell? ⟨g1, 1, none⟩ = some (.string s1) from hb1.cell 1)
  have z2 := latersU (show W0.cell? ⟨g1, 2, none⟩ = some (.string r1) from hb1.cell 2)
  have y0 := latersU (show W0.cell? ⟨g2, 0, none⟩ = some (.string l2) from hb2.cell 0)
  have y1 := latersU (show W0.cell? ⟨g2, 1, none⟩ = some (.string s2) from hb2.cell 1)
  have y2 := latersU (show W0.cell? ⟨g2, 2, none⟩ = some (.string r2) from hb2.cell 2)
  have HB1 := Lib.hid hb1
  have HB2 := Lib.hid hb2
  have HE0 := Lib.hid hE0
  clear hW0 hg1 hg2 hb1 hb2 hE0
  refine wp_region_ext_lit (by kernel_rfl) (by kernel_rfl) ?_
  try dsimp only [List.append]
  repeat (go_big_quiet_step (first | (go_at_call 75; first | with_reducible exact Calls.quiet_ext (HK1.out _ (HE0.out.trans (ExtOf.ext _))) | with_reducible exact Calls.quiet_ext (HK2.out _ (HE0.out.trans (ExtOf.ext _))) | with_reducible exact Calls.quiet_ext (HK3.out _ (HE0.out.trans (ExtOf.ext _))))))
  refine wpQuiet_nil ?_
  rintro w5 ⟨⟨_, h5⟩, rfl⟩
  try dsimp only
  have x3 := (show w5.cell? ⟨g1, 3, none⟩ = some (.slice A1 m1 c1) from (HB1.out.below h5 HB1.out.lt).cell 3)
  have x4 := (show w5.cell? ⟨g2, 3, none⟩ = some (.slice A2 m2 c2) from (HB2.out.below h5 HB2.out.lt).cell 3)
  have HE5 := Lib.hid (HE0.out.trans h5)
  clear h5 z0 z1 z2 y0 y1 y2
  go_wp2_with (first
    | (go_at_call 76; refine Hid.out ?_))
  refine Hid.mk_ ((HK4.out _ HE5.out).mono ?_)
  rintro e w7 ⟨rfl, hE7⟩
  have HEF := Lib.hid (HE5.out.trans hE7)
  clear hE7
  cases ev with
  | true =>
    have HF : Hid (distT l a b = d1 + d2 + d3) := by have h := HDF.out; rw [if_pos rfl, Int.add_zero] at h; exact h
    go_wp2
    go_ret
    exact ⟨by rw [HF.out]; rfl, HEF.out⟩
  | false =>
    have HF : Hid (distT l a b = d1 + d2 + d3 + 1) := by have h := HDF.out; rw [if_neg (by decide)] at h; exact h
    go_wp2
    go_ret
    exact ⟨by rw [HF.out]; rfl, HEF.out⟩
end
end Go.Proofs.YtdgppdiickmofaaGreatDoor

/- The program's match: lists of tags in memory, read, Distance. -/
namespace Go.Proofs.YtdgppdiickmofaaGreatDoor
open Go.RowKit
set_option maxRecDepth 100000
attribute [local go_sem] ext_refl_t ext_alloc_t ext_drew_t ext_drewN_t ext_alloc2_t ext_alloc3_t ext_alloc4_t ext_alloc5_t ext_alloc6_t ext_alloc7_t ext_alloc8_t ext_alloc1d_t ext_alloc2d_t ext_alloc3d_t ext_alloc4d_t
/-- A tag with the slice of its variants. -/
structure TaH where
  t : Tg
  h : SlH
def tgC (x : TaH) : List Value := [.string (str x.t.lang), .string (str x.t.scr), .string (str x.t.reg), .slice x.h.A x.h.m x.h.c]
theorem tgC_len (x : TaH) : (tgC x).length = 4 := rfl
theorem tgC_cell : ∀ x : TaH, ∀ u ∈ tgC x, u.oneCell' = true := by
  intro x u hu
  simp only [tgC, List.mem_cons, List.not_mem_nil, or_false] at hu
  rcases hu with rfl | rfl | rfl | rfl <;> rfl
theorem einfo_tg : EInfo 103 108 4 72 := EInfo.mk_ (z := .agg #[.string ⟨#[]⟩, .string ⟨#[]⟩, .string ⟨#[]⟩, .slice none 0 0]) Tryz.underlying103 (by kernel_rfl) rfl (by omega) (by omega)
/-- Tags in memory. -/
def TgsW (w : World) (h : SlH) (ts : List Tg) : Prop := ∃ L : List TaH, L.map (·.t) = ts ∧ SlC tgC 4 w h.A h.m L ∧ h.m ≤ h.c ∧ ∀ x ∈ L, TgW w x.h x.t
theorem TgsW.ext {w w' : World} {h : SlH} {ts : List Tg} (hh : TgsW w h ts) (hE : Ext w w') : TgsW w' h ts := by
  obtain ⟨L, h1, h2, h3, h4⟩ := hh
  exact ⟨L, h1, h2.ext hE, h3, fun x hx => (h4 x hx).ext hE⟩
/-- The tags that are being gathered: w is the world ahead. -/
structure TasS (w wr : World) (A : Option Addr) (m c : Nat) (L : List TaH) : Prop where
  ext : Ext w wr
  own : OsC tgC 108 4 wr w.heap.size A m c L
  ru : ∀ x ∈ L, TgW wr x.h x.t
  ap : ∀ x ∈ L, Apart (ob A) x.h
theorem TasS.extn {w wr w2 : World} {A : Option Addr} {m c : Nat} {L : List TaH} (h : TasS w wr A m c L) (hE : Ext wr w2) : TasS w w2 A m c L := ⟨h.ext.trans hE, h.own.ext hE, fun x hx => (h.ru x hx).ext hE, h.ap⟩
theorem TasS.app {w wr w2 : World} {A A' : Option Addr} {m c m' c' : Nat} {L : List TaH} {x : TaH} (h : TasS w wr A m c L) (hx : TgW wr x.h x.t) (ha : Apart (ob A) x.h)
    (ho : OsC tgC 108 4 w2 w.heap.size A' m' c' (L ++ [x])) (hg : wr.grownBy w2 (ob A)) (hn : NewOr wr.heap.size (ob A) (ob A')) : TasS w w2 A' m' c' (L ++ [x]) := by
  have hall : ∀ y ∈ L ++ [x], TgW wr y.h y.t ∧ Apart (ob A) y.h := fun y hy => by
    rcases List.mem_append.1 hy with hy | hy
    · exact ⟨h.ru y hy, h.ap y hy⟩
    · rw [List.mem_singleton] at hy; rw [hy]; exact ⟨hx, ha⟩
  exact ⟨h.ext.grown hg h.own.ge, ho, fun y hy => (hall y hy).1.kept hg (hall y hy).2, fun y hy => apart_app (hall y hy).1 (hall y hy).2 hn⟩
theorem len_two {α : Type} : ∀ {L : List α}, L.length = 2 → ∃ x y, L = [x, y]
  | [x, y], _ => ⟨x, y, rfl⟩
/-- What read returns. -/
def ReadTPost (l : List (List UInt8)) (e : Ending) (w' : World) : Prop := ∃ (h : SlH) (z : Int), e = .returned (.tuple #[.slice h.A h.m h.c, .int .i64 z]) ∧ ((z = 0 ∧ (∀ s ∈ l, (parseT s).2 = 0) ∧ TgsW w' h (l.map fun s => (parseT s).1)) ∨ (z ≠ 0 ∧ ∃ s ∈ l, (parseT s).2 = z))
section
variable {w : World}
set_option maxHeartbeats 6400000 in
theorem mread_any {A0 : Option Addr} {n c0 : Nat} {l : List (List UInt8)} (hs : SlC strF 1 w A0 n (l.map str)) (hl : l.length ≤ 20) (hz : ∀ s ∈ l, s.length ≤ 1000) (hM : MX w) :
    Calls Tryz.prog 48 #[.slice A0 n c0] w fun e w' => ReadTPost l e w' ∧ Ext w w' := by
  have HL : Hid (n = l.length) := by have := hs.len; rw [List.length_map] at this; exact this
  have hn : n ≤ 20 := by have := HL.out; omega
  have HS := Lib.hid hs
  have HZ := Lib.hid hz
  have HM := Lib.hid hM
  clear hs hl hz hM
  go_enter Tryz.func48, Tryz.ntmps48
  go_wp2
  go_loopw [2, 3, 4, 6, 7, 8, 11] (fun _ _ s4 _ _ _ i wr => ∃ (q : Nat) (A : Option Addr) (m c : Nat) (L : List TaH), q ≤ n ∧ i = .int .i64 q ∧ s4 = .slice A m c ∧ Hid (TasS w wr A m c L) ∧ Hid (L.map (·.t) = (l.take q).map fun s => (parseT s).1) ∧ Hid (∀ s ∈ l.take q, (parseT s).2 = 0)) (fun _ _ _ _ _ _ i _ => n - (intOf i).toNat)
  case atStart => exact ⟨0, none, 0, 0, [], Nat.zero_le _, rfl, rfl, ⟨Ext.refl _, OsC.nil_ tgC_len tgC_cell, (fun x hx => by cases hx), fun x hx => by cases hx⟩, rfl, fun s hs => by cases hs⟩
  case round =>
    obtain ⟨q, A, m, c, L, hq, rfl, rfl, HR, HC, HZE⟩ := hrel
    have HML : Hid (m = q) := by
      have h1 := HR.out.own.len
      have h2 := congrArg List.length HC.out
      rw [List.length_map, List.length_map, List.length_take] at h2
      have := HL.out
      show _ = _
      omega
    by_cases hlt : q < n
    · have hi1 : (q : Int) < (n : Int) := by omega
      obtain ⟨b, off, e0, hbl, hcs⟩ := strs_cells (HS.out.ext HR.out.ext) (by omega)
      subst e0
      have hlt1 : q < l.length := by rw [← HL.out]; exact hlt
      obtain ⟨s, hsq⟩ : ∃ s, s = l[q] := ⟨_, rfl⟩
      have y0 := hcs q (str s) (by rw [List.getElem?_map, List.getElem?_eq_getElem hlt1, hsq]; rfl)
      have hsm : s ∈ l := by rw [hsq]; exact List.getElem_mem hlt1
      have HK : Hid (∀ W, Ext wr W → Calls Tryz.prog 65 #[.string (str s)] W fun e w' => (∃ h, e = .returned (.tuple #[tgV h (parseT s).1, .int .i64 (parseT s).2]) ∧ TgW w' h (parseT s).1 ∧ ∀ k, ob h.A = some k → W.heap.size ≤ k) ∧ Ext W w') := fun W hE => parse_any (HZ.out s hsm) (HM.out.ext (HR.out.ext.trans hE))
      obtain ⟨s0, hs0⟩ : ∃ x, x = str s := ⟨_, rfl⟩
      rw [← hs0] at y0 HK
      have HSM := Lib.hid hsm
      have HTK : Hid (l.take (q + 1) = l.take q ++ [s]) := by show _ = _; rw [List.take_succ_eq_append_getElem hlt1, hsq]
      clear hs0 hcs hsq hsm
      go_wp2_with (first
        | (go_at_call 65; refine Hid.out ?_))
      refine Hid.mk_ ((HK.out _ (Ext.refl _)).mono ?_)
      rintro e w3 ⟨⟨h3, rfl, hT3, hn3⟩, hE3⟩
      obtain ⟨t3, ht3⟩ : ∃ t, t = (parseT s).1 := ⟨_, rfl⟩
      obtain ⟨er, her⟩ : ∃ t, t = (parseT s).2 := ⟨_, rfl⟩
      rw [← ht3] at hT3 ⊢
      rw [← her]
      have HTT := Lib.hid ht3
      have HER := Lib.hid her
      have HAP : Hid (Apart (ob A) h3) := apart_new (h := ⟨none, 0, 0⟩) (.inl rfl) (fun j hj => HR.out.own.lt j hj) (.inr hn3)
      unfold tgV
      clear ht3 her hn3
      obtain ⟨l3, hla⟩ : ∃ x, x = str (t3).lang := ⟨_, rfl⟩
      obtain ⟨s3, hsc⟩ : ∃ x, x = str (t3).scr := ⟨_, rfl⟩
      obtain ⟨r3, hrg⟩ : ∃ x, x = str (t3).reg := ⟨_, rfl⟩
      have HL3 := Lib.hid hla
      have HS3 := Lib.hid hsc
      have HR3 := Lib.hid hrg
      rw [← hla, ← hsc, ← hrg]
      clear hla hsc hrg
      have hE4 : Ext w3 (w3.alloc (.cells #[.string l3, .string s3, .string r3, .slice h3.A h3.m h3.c] 108)) := (Ext.refl w3).alloc _
      have hE5 : Ext w3 ((w3.alloc (.cells #[.string l3, .string s3, .string r3, .slice h3.A h3.m h3.c] 108)).alloc (.cells #[.string l3, .string s3, .string r3, .slice h3.A h3.m h3.c] 108)) := hE4.alloc _
      have HT3 := Lib.hid hT3
      have HE3 := Lib.hid hE3
      clear hT3 hE3
      by_cases h0 : er = 0
      · subst h0
        have hnew : SlC tgC 4 ((w3.alloc (.cells #[.string l3, .string s3, .string r3, .slice h3.A h3.m h3.c] 108)).alloc (.cells #[.string l3, .string s3, .string r3, .slice h3.A h3.m h3.c] 108)) (some ⟨w3.heap.size + 1, 0, none⟩) 1 [⟨t3, h3⟩] := by
          rw [HL3.out, HS3.out, HR3.out]
          have h := SlC.new_ (cs := tgC) (w3.alloc (.cells #[.string (str t3.lang), .string (str t3.scr), .string (str t3.reg), .slice h3.A h3.m h3.c] 108)) [⟨t3, h3⟩] tgC_len (by simp) (tgC ⟨t3, h3⟩).toArray (by simp) (0, 0) 1 rfl 108
          rwa [show (w3.alloc (.cells #[.string (str t3.lang), .string (str t3.scr), .string (str t3.reg), .slice h3.A h3.m h3.c] 108)).heap.size = w3.heap.size + 1 by simp] at h
        have HR5 := Lib.hid (HR.out.extn (HE3.out.trans hE5))
        have hbase := HR5.out.ext.size_le
        have hm20 : m ≤ 20 := by have := HML.out; omega
        have HCN : Hid ((L ++ [(⟨t3, h3⟩ : TaH)]).map (·.t) = (l.take (q + 1)).map fun s => (parseT s).1) := by
          show _ = _
          rw [HTK.out, List.map_append, List.map_append, HC.out, List.map_singleton, List.map_singleton, HTT.out]
        have HZN : Hid (∀ s ∈ l.take (q + 1), (parseT s).2 = 0) := fun x hx => by
          rw [HTK.out] at hx
          rcases List.mem_append.1 hx with hx | hx
          · exact HZE.out x hx
          · rw [List.mem_singleton] at hx; rw [hx]; exact HER.out.symm
        go_wp2_with (first
          | (at_builtin; refine Hid.out ?_))
        refine Hid.mk_ ?_
        refine appC einfo_tg rfl _ _ rfl HR5.out.own rfl hnew rfl (by omega) hbase ?_
        intro A7 m7 c7 w7 ho7 hg7 hn7
        have HR7 : Hid (TasS w w7 A7 m7 c7 (L ++ [⟨t3, h3⟩])) := HR5.out.app (HT3.out.ext hE5) HAP.out ho7 hg7 hn7
        clear hnew hbase ho7 hg7 hn7 y0 hE4 hE5
        go_wp2
        go_roundw
        case rel => exact ⟨q + 1, A7, m7, c7, L ++ [⟨t3, h3⟩], by omega, by go_num, rfl, HR7, HCN, HZN⟩
        case measure => simp [intOf]; omega
      · have H0 := Lib.hid h0
        go_wp2
        go_ret2
        exact ⟨⟨⟨none, 0, 0⟩, er, rfl, .inr ⟨H0.out, s, HSM.out, HER.out.symm⟩⟩, (HR.out.ext.trans HE3.out).trans hE4⟩
    · have hi1 : ¬ (q : Int) < (n : Int) := by omega
      have HF : Hid (l.take q = l) := List.take_of_length_le (by have := HL.out; omega)
      have HCF := Lib.hid HC.out
      rw [HF.out] at HCF HZE
      go_wp2
      go_ret2
      exact ⟨⟨⟨A, m, c⟩, 0, rfl, .inl ⟨rfl, HZE.out, L, HCF.out, HR.out.own.sl, HR.out.own.cap, HR.out.ru⟩⟩, HR.out.ext⟩
set_option maxHeartbeats 6400000 in
theorem mdist_any {h : SlH} {l : List NrP} {a b : List UInt8} (hs : NrW w h l) (hl : l.length ≤ 30) (hv : valN l = true) (ha : a.length ≤ 1000) (hb : b.length ≤ 1000) (hpa : (parseT a).2 = 0) (hpb : (parseT b).2 = 0) (hM : MX w) :
    Calls Tryz.prog 12 #[.slice h.A h.m h.c, .string (str a), .string (str b)] w fun e w' => e = .returned (.tuple #[.int .i64 (distT l (parseT a).1 (parseT b).1), .int .i64 0]) ∧ Ext w w' := by
  obtain ⟨A, m, c⟩ := h
  have HKV := Lib.hid (mvalid_any hs hl)
  rw [hv] at HKV
  dsimp only at HKV ⊢
  have HS := Lib.hid hs
  have HC := Lib.hid (valN_cost hv)
  have HP := Lib.hid (And.intro hpa hpb)
  have HLN := Lib.hid (And.intro hl (And.intro ha hb))
  have HM := Lib.hid hM
  obtain ⟨a0, ha0⟩ : ∃ x, x = str a := ⟨_, rfl⟩
  obtain ⟨b0, hb0⟩ : ∃ x, x = str b := ⟨_, rfl⟩
  rw [← ha0, ← hb0]
  have HAB := Lib.hid (And.intro ha0 hb0)
  clear ha0 hb0 hs hl hv ha hb hpa hpb hM
  go_enter Tryz.func12, Tryz.ntmps12
  go_wp2_with (first
    | (go_at_call 11; refine Hid.out ?_))
  refine Hid.mk_ ((HKV.out).mono ?_)
  rintro e w1 ⟨rfl, hE1⟩
  have hsl : SlC strF 1 (w1.alloc (.cells #[.string a0, .string b0] 9)) (some ⟨w1.heap.size, 0, none⟩) 2 ([a, b].map str) := by
    rw [HAB.out.1, HAB.out.2]
    exact SlC.new_ (cs := strF) w1 [str a, str b] (fun _ => rfl) (by simp) _ rfl (0, 0) _ rfl _
  have hE2 : Ext w (w1.alloc (.cells #[.string a0, .string b0] 9)) := hE1.alloc _
  have HKR := Lib.hid (mread_any (c0 := 2) hsl (by simp) (fun s hs => by
    have h := HLN.out
    simp only [List.mem_cons, List.not_mem_nil, or_false] at hs
    rcases hs with rfl | rfl
    · exact h.2.1
    · exact h.2.2) (HM.out.ext hE2))
  clear hsl hE1
  go_wp2_with (first
    | (go_at_call 48; refine Hid.out ?_))
  refine Hid.mk_ (HKR.out.mono ?_)
  rintro e w3 ⟨⟨h3, z, rfl, hz⟩, hE3⟩
  have hE03 := hE2.trans hE3
  rcases hz with ⟨rfl, -, L, hL, hsl, -, hru⟩ | ⟨hz, s, hs, hzs⟩
  · have hlen2 : L.length = 2 := by have := congrArg List.length hL; simpa using this
    obtain ⟨x1, x2, rfl⟩ := len_two hlen2
    simp only [List.map_cons, List.map_nil, List.cons.injEq, and_true] at hL
    obtain ⟨h31, h32, h33⟩ := h3
    dsimp only at hsl ⊢
    have hlen : h32 = 2 := hsl.len
    subst hlen
    obtain ⟨bq, off, rfl, hbl, hcs⟩ := hsl.at_ (i := 0) (by omega) (by omega)
    have y0 := hcs 0 (by simp) 0 (by omega)
    have y1 := hcs 0 (by simp) 1 (by omega)
    have y2 := hcs 0 (by simp) 2 (by omega)
    have y3 := hcs 0 (by simp) 3 (by omega)
    have z0 := hcs 1 (by simp) 0 (by omega)
    have z1 := hcs 1 (by simp) 1 (by omega)
    have z2 := hcs 1 (by simp) 2 (by omega)
    have z3 := hcs 1 (by simp) 3 (by omega)
    simp only [tgC, List.getElem_cons_zero, List.getElem_cons_succ, Nat.add_zero, Nat.zero_mul, Nat.one_mul, Nat.zero_add, ← Nat.add_assoc] at y0 y1 y2 y3 z0 z1 z2 z3
    have HKD : Hid (∀ W, Ext w3 W → Calls Tryz.prog 49 #[.slice A m c, tgV x1.h x1.t, tgV x2.h x2.t] W fun e w' => e = .returned (.int .i64 (distT l (parseT a).1 (parseT b).1)) ∧ Ext W w') := fun W hE => by
      rw [← hL.1, ← hL.2]
      exact distance_any (h := ⟨A, m, c⟩) (HW.ext HS.out (hE03.trans hE)) HLN.out.1 HC.out ((hru x1 (by simp)).ext hE) ((hru x2 (by simp)).ext hE)
    obtain ⟨D, hD⟩ : ∃ D, D = distT l (parseT a).1 (parseT b).1 := ⟨_, rfl⟩
    rw [← hD] at HKD
    have HD := Lib.hid hD
    have y0 := latersU y0
    have y1 := latersU y1
    have y2 := latersU y2
    have y3 := latersU y3
    have z0 := latersU z0
    have z1 := latersU z1
    have z2 := latersU z2
    have z3 := latersU z3
    have HE03 := Lib.hid hE03
    clear hD hcs hsl hL hru hlen2 hE2 hE3 hE03
    go_wp2
    refine wp_region_ext_lit (by kernel_rfl) (by kernel_rfl) ?_
    try dsimp only [List.append]
    repeat (go_big_quiet_step ((go_at_call 49; with_reducible exact Calls.quiet_ext (HKD.out _ (ExtOf.ext _)))))
    refine wpQuiet_nil ?_
    rintro w5 ⟨⟨_, h5⟩, rfl⟩
    try dsimp only
    have HEF := Lib.hid (HE03.out.trans h5)
    clear h5
    go_wp2
    go_ret2
    exact ⟨by rw [← HD.out]; rfl, HEF.out⟩
  · exfalso
    simp only [List.mem_cons, List.not_mem_nil, or_false] at hs
    rcases hs with rfl | rfl
    · exact hz (hzs.symm.trans HP.out.1)
    · exact hz (hzs.symm.trans HP.out.2)
end
end Go.Proofs.YtdgppdiickmofaaGreatDoor

/- The program's match: comparisons, the comparison that order hands to slices.SortFunc. -/
namespace Go.Proofs.YtdgppdiickmofaaGreatDoor
open Go.RowKit
set_option maxRecDepth 100000
attribute [local go_sem] ext_refl_t ext_alloc_t ext_drew_t ext_drewN_t ext_alloc2_t ext_alloc3_t ext_alloc4_t ext_alloc5_t ext_alloc6_t ext_alloc7_t ext_alloc8_t ext_alloc1d_t ext_alloc2d_t ext_alloc3d_t ext_alloc4d_t
def cmpL (a b : List UInt8) : Int := if Op.bytesLess a b = true then -1 else if a = b then 0 else 1
def cmpI (a b : Int) : Int := if a < b then -1 else if b < a then 1 else 0
section
variable {w : World}
theorem isNaN_any (a : ByteArray) : Calls Tryz.prog 59 #[.string a] w fun e w' => e = .returned (.bool false) ∧ w' = w := by
  go_enter Tryz.func59, Tryz.ntmps59
  go_wp2
  go_ret
  exact ⟨by simp, rfl⟩
theorem isNaNI_any (a : Int) : Calls Tryz.prog 151 #[.int .i64 a] w fun e w' => e = .returned (.bool false) ∧ w' = w := by
  go_enter Tryz.func151, Tryz.ntmps151
  go_wp2
  go_ret
  exact ⟨by simp, rfl⟩
set_option maxHeartbeats 400000 in
theorem compareS_any (x y : List UInt8) : Calls Tryz.prog 30 #[.string (str x), .string (str y)] w fun e w' => e = .returned (.int .i64 (cmpL x y)) ∧ w' = w := by
  have hc : cmpL x y = if Op.bytesLess x y = true then -1 else if x = y then 0 else 1 := rfl
  have q1 : ((str x).toList == (str y).toList) = decide (x = y) := str_eqB _ _
  have q2 : Op.bytesLess (str x).toList (str y).toList = Op.bytesLess x y := by rw [str_toList, str_toList]
  obtain ⟨c, hcq⟩ : ∃ c, c = cmpL x y := ⟨_, rfl⟩
  rw [← hcq] at hc ⊢
  obtain ⟨a, ha⟩ : ∃ a, a = str x := ⟨_, rfl⟩
  obtain ⟨b, hb⟩ : ∃ a, a = str y := ⟨_, rfl⟩
  rw [← ha, ← hb] at q1 q2
  rw [← ha, ← hb]
  clear ha hb hcq
  cases h1 : Op.bytesLess x y with
  | true =>
    rw [h1, if_pos rfl] at hc
    rw [h1] at q2
    subst hc
    clear q1 h1
    go_enter Tryz.func30, Tryz.ntmps30
    go_wp2_with (first | (go_at_call 59; refine (isNaN_any _).mono ?_; rintro e w1 ⟨rfl, rfl⟩))
    go_ret
    exact ⟨rfl, rfl⟩
  | false =>
    rw [h1, if_neg (by decide)] at hc
    rw [h1] at q2
    by_cases h2 : x = y
    · rw [if_pos h2] at hc
      rw [decide_eq_true h2] at q1
      subst hc
      clear h1 h2
      go_enter Tryz.func30, Tryz.ntmps30
      go_wp2_with (first | (go_at_call 59; refine (isNaN_any _).mono ?_; rintro e w1 ⟨rfl, rfl⟩))
      go_ret
      exact ⟨rfl, rfl⟩
    · rw [if_neg h2] at hc
      rw [decide_eq_false h2] at q1
      subst hc
      clear h1 h2
      go_enter Tryz.func30, Tryz.ntmps30
      go_wp2_with (first | (go_at_call 59; refine (isNaN_any _).mono ?_; rintro e w1 ⟨rfl, rfl⟩))
      go_ret
      exact ⟨rfl, rfl⟩
set_option maxHeartbeats 400000 in
theorem compareI_any (x y : Int) : Calls Tryz.prog 105 #[.int .i64 x, .int .i64 y] w fun e w' => e = .returned (.int .i64 (cmpI x y)) ∧ w' = w := by
  have hc : cmpI x y = if x < y then -1 else if y < x then 1 else 0 := rfl
  obtain ⟨c, hcq⟩ : ∃ c, c = cmpI x y := ⟨_, rfl⟩
  rw [← hcq] at hc ⊢
  clear hcq
  by_cases h1 : x < y
  · rw [if_pos h1] at hc
    subst hc
    go_enter Tryz.func105, Tryz.ntmps105
    go_wp2_with (first | (go_at_call 151; refine (isNaNI_any _).mono ?_; rintro e w1 ⟨rfl, rfl⟩))
    go_ret
    exact ⟨rfl, rfl⟩
  · rw [if_neg h1] at hc
    by_cases h2 : y < x
    · rw [if_pos h2] at hc
      subst hc
      go_enter Tryz.func105, Tryz.ntmps105
      go_wp2_with (first | (go_at_call 151; refine (isNaNI_any _).mono ?_; rintro e w1 ⟨rfl, rfl⟩))
      go_ret
      exact ⟨rfl, rfl⟩
    · rw [if_neg h2] at hc
      subst hc
      go_enter Tryz.func105, Tryz.ntmps105
      go_wp2_with (first | (go_at_call 151; refine (isNaNI_any _).mono ?_; rintro e w1 ⟨rfl, rfl⟩))
      go_ret
      exact ⟨rfl, rfl⟩
set_option maxHeartbeats 800000 in
theorem or_any (b : Nat) (x y r : Int) (HR : Hid (r = if x = 0 then y else x)) (h0 : w.cell? ⟨b, 0, none⟩ = some (.int .i64 x)) (h1 : w.cell? ⟨b, 1, none⟩ = some (.int .i64 y)) :
    Calls Tryz.prog 36 #[.slice (some ⟨b, 0, none⟩) 2 2] w fun e w' => e = .returned (.int .i64 r) ∧ w' = w := by
  go_enter Tryz.func36, Tryz.ntmps36
  go_wp2
  go_loopw [8] (fun i wr => ∃ q : Nat, q ≤ 2 ∧ i = .int .i64 q ∧ Hid (0 < q → x = 0) ∧ Hid (1 < q → y = 0) ∧ wr = w) (fun i _ => 2 - (intOf i).toNat)
  case atStart => exact ⟨0, by omega, rfl, Lib.hid (by omega), Lib.hid (by omega), rfl⟩
  case round =>
    obtain ⟨q, hq, rfl, hx, hy, rfl⟩ := hrel
    by_cases q0 : q = 0
    · subst q0
      by_cases hx0 : x = 0
      · have HX := Lib.hid hx0
        go_wp2
        go_roundw
        case rel => exact ⟨1, by omega, rfl, Lib.hid fun _ => HX.out, Lib.hid (by omega), trivial⟩
        case measure => simp [intOf]
      · have HX := Lib.hid hx0
        go_wp2
        go_ret
        exact ⟨by rw [← (HR.out.trans (if_neg HX.out))]; rfl, rfl⟩
    · by_cases q1 : q = 1
      · subst q1
        by_cases hy0 : y = 0
        · have HY := Lib.hid hy0
          go_wp2
          go_roundw
          case rel => exact ⟨2, by omega, rfl, Lib.hid fun _ => hx.out (by omega), Lib.hid fun _ => HY.out, trivial⟩
          case measure => simp [intOf]
        · have HY := Lib.hid hy0
          go_wp2
          go_ret
          exact ⟨by rw [← (HR.out.trans (if_pos (hx.out (by omega))))]; rfl, rfl⟩
      · obtain rfl : q = 2 := by omega
        go_wp2
        go_ret
        exact ⟨by rw [(HR.out.trans (if_pos (hx.out (by omega)))).trans (hy.out (by omega))]; rfl, rfl⟩
/-- What the comparison sees. -/
structure OrdW (w : World) (g3 g4 g5 : Nat) (l : List NrP) (hn : SlH) (t : Tg) (ht : SlH) (hs : SlH) (L : List TaH) : Prop where
  nr : NrW w hn l
  nl : l.length ≤ 30
  nc : ∀ x ∈ l, 1 ≤ x.c ∧ x.c ≤ 99
  tg : TgW w ht t
  sl : SlC tgC 4 w hs.A hs.m L
  ru : ∀ x ∈ L, TgW w x.h x.t
  b3 : w.cell? ⟨g3, 0, none⟩ = some (.slice hn.A hn.m hn.c)
  b4 : Blk w g4 108 #[.string (str t.lang), .string (str t.scr), .string (str t.reg), .slice ht.A ht.m ht.c]
  b5 : w.cell? ⟨g5, 0, none⟩ = some (.slice hs.A hs.m hs.c)
theorem OrdW.ext {w' : World} {g3 g4 g5 : Nat} {l : List NrP} {hn : SlH} {t : Tg} {ht : SlH} {hs : SlH} {L : List TaH} (h : OrdW w g3 g4 g5 l hn t ht hs L) (hE : Ext w w') : OrdW w' g3 g4 g5 l hn t ht hs L :=
  ⟨HW.ext h.nr hE, h.nl, h.nc, h.tg.ext hE, h.sl.ext hE, fun x hx => (h.ru x hx).ext hE, later hE h.b3, h.b4.below hE h.b4.lt, later hE h.b5⟩
/-- The order of two tags by their distance to a tag, then by their texts. -/
def ordR (l : List NrP) (t x y : Tg) : Int := if cmpI (distT l t x) (distT l t y) = 0 then cmpL (textT x) (textT y) else cmpI (distT l t x) (distT l t y)
set_option maxHeartbeats 6400000 in
theorem ordc_any {g3 g4 g5 : Nat} {l : List NrP} {hn : SlH} {t : Tg} {ht : SlH} {hs : SlH} {L : List TaH} (h : OrdW w g3 g4 g5 l hn t ht hs L) {i k : Nat} (hi : i < L.length) (hk : k < L.length) :
    Calls Tryz.prog 104 #[.int .i64 (i : Int), .int .i64 (k : Int), .pointer (some ⟨g3, 0, none⟩), .pointer (some ⟨g4, 0, none⟩), .pointer (some ⟨g5, 0, none⟩)] w fun e w' => e = .returned (.int .i64 (ordR l t L[i].t L[k].t)) ∧ Ext w w' := by
  obtain ⟨A, m, c⟩ := hs
  have HM := Lib.hid h.sl.len
  have hle := h.sl.le
  dsimp only at HM hle
  have him : i < m := by rw [HM.out]; exact hi
  have hkm : k < m := by rw [HM.out]; exact hk
  obtain ⟨b, off, e0, hbl, hcs⟩ := h.sl.at_ (i := i) him (by omega)
  dsimp only at e0
  subst e0
  obtain ⟨x, hx⟩ : ∃ x, x = L[i] := ⟨_, rfl⟩
  obtain ⟨y, hy⟩ : ∃ x, x = L[k] := ⟨_, rfl⟩
  have HOR : Hid (ordR l t L[i].t L[k].t = if cmpI (distT l t x.t) (distT l t y.t) = 0 then cmpL (textT x.t) (textT y.t) else cmpI (distT l t x.t) (distT l t y.t)) := by show _ = _; rw [hx, hy]; rfl
  obtain ⟨rr, hrr⟩ : ∃ rr, rr = ordR l t L[i].t L[k].t := ⟨_, rfl⟩
  rw [← hrr] at HOR ⊢
  clear hrr
  have x0 := latersU (hcs i hi 0 (by omega))
  have x1 := latersU (hcs i hi 1 (by omega))
  have x2 := latersU (hcs i hi 2 (by omega))
  have x3 := latersU (hcs i hi 3 (by omega))
  have y0 := latersU (hcs k hk 0 (by omega))
  have y1 := latersU (hcs k hk 1 (by omega))
  have y2 := latersU (hcs k hk 2 (by omega))
  have y3 := latersU (hcs k hk 3 (by omega))
  simp only [← hx, tgC, List.getElem_cons_zero, List.getElem_cons_succ, Nat.add_zero, ← Nat.add_assoc] at x0 x1 x2 x3
  simp only [← hy, tgC, List.getElem_cons_zero, List.getElem_cons_succ, Nat.add_zero, ← Nat.add_assoc] at y0 y1 y2 y3
  have hxW : TgW w x.h x.t := h.ru x (by rw [hx]; exact List.getElem_mem hi)
  have hyW : TgW w y.h y.t := h.ru y (by rw [hy]; exact List.getElem_mem hk)
  have HD1 : Hid (∀ W, Ext w W → Calls Tryz.prog 49 #[.slice hn.A hn.m hn.c, tgV ht t, tgV x.h x.t] W fun e w' => e = .returned (.int .i64 (distT l t x.t)) ∧ Ext W w') := fun W hE => distance_any (HW.ext h.nr hE) h.nl h.nc (h.tg.ext hE) (hxW.ext hE)
  have HD2 : Hid (∀ W, Ext w W → Calls Tryz.prog 49 #[.slice hn.A hn.m hn.c, tgV ht t, tgV y.h y.t] W fun e w' => e = .returned (.int .i64 (distT l t y.t)) ∧ Ext W w') := fun W hE => distance_any (HW.ext h.nr hE) h.nl h.nc (h.tg.ext hE) (hyW.ext hE)
  have HT1 : Hid (∀ W, Ext w W → Calls Tryz.prog 66 #[tgV x.h x.t] W fun e w' => e = .returned (.string (str (textT x.t))) ∧ Ext W w') := fun W hE => tText_any (hxW.ext hE)
  have HT2 : Hid (∀ W, Ext w W → Calls Tryz.prog 66 #[tgV y.h y.t] W fun e w' => e = .returned (.string (str (textT y.t))) ∧ Ext W w') := fun W hE => tText_any (hyW.ext hE)
  have HCI : Hid (∀ W a b, Calls Tryz.prog 105 #[.int .i64 a, .int .i64 b] W fun e w' => e = .returned (.int .i64 (cmpI a b)) ∧ Ext W w') := fun W a b => (compareI_any a b).mono fun _ _ ⟨h1, h2⟩ => ⟨h1, h2 ▸ Ext.refl _⟩
  have HCS : Hid (∀ W a b, Calls Tryz.prog 30 #[.string (str a), .string (str b)] W fun e w' => e = .returned (.int .i64 (cmpL a b)) ∧ Ext W w') := fun W a b => (compareS_any a b).mono fun _ _ ⟨h1, h2⟩ => ⟨h1, h2 ▸ Ext.refl _⟩
  have z3 := latersU h.b3
  have z5 := latersU h.b5
  have u0 := latersU (show w.cell? ⟨g4, 0, none⟩ = some (.string (str t.lang)) from h.b4.cell 0)
  have u1 := latersU (show w.cell? ⟨g4, 1, none⟩ = some (.string (str t.scr)) from h.b4.cell 1)
  have u2 := latersU (show w.cell? ⟨g4, 2, none⟩ = some (.string (str t.reg)) from h.b4.cell 2)
  have u3 := latersU (show w.cell? ⟨g4, 3, none⟩ = some (.slice ht.A ht.m ht.c) from h.b4.cell 3)
  have hii : (i : Int) < (m : Int) := by omega
  have hki : (k : Int) < (m : Int) := by omega
  dsimp only at z5
  clear hcs hx hy hxW hyW h hi hk
  go_enter Tryz.func104, Tryz.ntmps104
  go_wp2
  refine wp_region_ext_tail 26 (by kernel_rfl) (by kernel_rfl) ?_
  simp only [List.take_succ_cons, List.take_zero, List.drop_succ_cons, List.drop_zero]
  repeat (go_big_quiet_step (first | (go_at_call 49; first | with_reducible exact Calls.quiet_ext (HD1.out _ (ExtOf.ext _)) | with_reducible exact Calls.quiet_ext (HD2.out _ (ExtOf.ext _))) | (go_at_call 66; first | with_reducible exact Calls.quiet_ext (HT1.out _ (ExtOf.ext _)) | with_reducible exact Calls.quiet_ext (HT2.out _ (ExtOf.ext _))) | (go_at_call 105; with_reducible exact Calls.quiet_ext (HCI.out _ _ _)) | (go_at_call 30; with_reducible exact Calls.quiet_ext (HCS.out _ _ _))))
  refine wpQuiet_nil ?_
  rintro w5 ⟨⟨_, h5⟩, rfl⟩
  try dsimp only
  obtain ⟨d1, hd1⟩ : ∃ d, d = cmpI (distT l t x.t) (distT l t y.t) := ⟨_, rfl⟩
  obtain ⟨d2, hd2⟩ : ∃ d, d = cmpL (textT x.t) (textT y.t) := ⟨_, rfl⟩
  rw [← hd1, ← hd2] at HOR
  rw [← hd1, ← hd2]
  obtain ⟨r, hr⟩ : ∃ r, r = if d1 = 0 then d2 else d1 := ⟨_, rfl⟩
  have hb6 := Blk.new w5 3 #[.int .i64 d1, .int .i64 d2]
  have HO := Lib.hid (or_any (w := w5.alloc (.cells #[.int .i64 d1, .int .i64 d2] 3)) w5.heap.size d1 d2 r hr (hb6.cell 0) (hb6.cell 1))
  have hE6 : Ext w (w5.alloc (.cells #[.int .i64 d1, .int .i64 d2] 3)) := h5.alloc _
  have HRQ := Lib.hid hr
  clear hd1 hd2 hr hb6
  go_wp2_with (first
    | (go_at_call 36; refine Hid.out ?_))
  refine Hid.mk_ (HO.out.mono ?_)
  rintro e w7 ⟨rfl, rfl⟩
  go_wp2
  go_ret
  exact ⟨by rw [HOR.out, ← HRQ.out]; rfl, hE6⟩
end
end Go.Proofs.YtdgppdiickmofaaGreatDoor
