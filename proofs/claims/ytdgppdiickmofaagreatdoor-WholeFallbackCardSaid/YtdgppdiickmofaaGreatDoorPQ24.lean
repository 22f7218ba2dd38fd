/- The program's aliases: Steps, Canonical. -/
import Derived.Test.YtdgppdiickmofaaGreatDoorPQ23
import Derived.DeepKeys4
import Derived.OpenShut
namespace Go.Proofs.YtdgppdiickmofaaGreatDoor
open Go.RowKit
set_option maxRecDepth 100000
attribute [local go_sem] ext_refl_t ext_alloc_t ext_drew_t ext_drewN_t ext_alloc2_t ext_alloc3_t ext_alloc4_t ext_alloc5_t ext_alloc6_t ext_alloc7_t ext_alloc8_t ext_alloc1d_t ext_alloc2d_t ext_alloc3d_t ext_alloc4d_t
/-- The tag in its box is another one. -/
theorem AnS.turn {w wr w2 : World} {g : Nat} {h h' : SlH} {t t' : Tg} {A : Option Addr} {m c : Nat} {L : List (List UInt8)} {l s r : ByteArray} (hh : AnS w wr g h t A m c L) (hE : Ext wr w2) (ht : TgW w2 h' t') (hn : ∀ k, ob h'.A = some k → wr.heap.size ≤ k)
    (hl : l = str t'.lang) (hs : s = str t'.scr) (hr : r = str t'.reg) :
    AnS w ((((w2.setCell ⟨g, 0, none⟩ (.string l)).setCell ⟨g, 1, none⟩ (.string s)).setCell ⟨g, 2, none⟩ (.string r)).setCell ⟨g, 3, none⟩ (.slice h'.A h'.m h'.c)) g h' t' A m c L := by
  have hE2 := hh.ext.trans hE
  have hb := hh.bt.below hE hh.bt.lt
  have ho := hh.own.ext hE
  have hne := own_ne_tg ho hb
  have hA9 : Apart (some g) h' := apart_new (h := ⟨none, 0, 0⟩) (.inl rfl) (fun j hj => by injection hj with hj; have := hh.bt.lt; omega) (.inr hn)
  refine ⟨(((hE2.set_ (p := ⟨g, 0, none⟩) hh.ge _).set_ (p := ⟨g, 1, none⟩) hh.ge _).set_ (p := ⟨g, 2, none⟩) hh.ge _).set_ (p := ⟨g, 3, none⟩) hh.ge _, hh.ge, ?_, ?_, ?_, ?_⟩
  · rw [← hl, ← hs, ← hr]
    exact (((hb.set_ 0 _).set_ 1 _).set_ 2 _).set_ 3 _
  · exact (((ht.kept (grown_setM w2 g 0 (.string l)) hA9).kept (grown_setM _ g 1 (.string s)) hA9).kept (grown_setM _ g 2 (.string r)) hA9).kept (grown_setM _ g 3 (.slice h'.A h'.m h'.c)) hA9
  · exact (((ho.kept (grown_setM w2 g 0 (.string l)) hne).kept (grown_setM _ g 1 (.string s)) hne).kept (grown_setM _ g 2 (.string r)) hne).kept (grown_setM _ g 3 (.slice h'.A h'.m h'.c)) hne
  · exact apart_new (h := ⟨none, 0, 0⟩) (.inl rfl) (fun j hj => hh.own.lt j hj) (.inr hn)
theorem stepsR_none {rs : List Ral} {k n : Nat} {t : Tg} (h : stepR rs t = none) : stepsR rs (k + 1) t n = (t, 0) := by rw [stepsR, h]
theorem stepsR_some {rs : List Ral} {k n : Nat} {t u : Tg} (h : stepR rs t = some u) : stepsR rs (k + 1) t n = if 4 < u.vars.length then (t, 6) else if 20 < n then (t, 15) else stepsR rs k u (n + 1) := by rw [stepsR, h]
/-- What Steps returns. -/
def StepsPost (al : List AlP) (s : List UInt8) (e : Ending) (w' : World) : Prop := ∃ h : SlH, e = .returned (.tuple #[.slice h.A h.m h.c, .int .i64 (canonR al s).2]) ∧ ((canonR al s).2 = 0 → ∃ L : List (List UInt8), SlC strF 1 w' h.A h.m ((L ++ [(canonR al s).1]).map str))
section
variable {w : World}
set_option maxHeartbeats 12800000 in
theorem steps_any {h : SlH} {al : List AlP} {s : List UInt8} (ha : AlsW w h al) (hl : al.length ≤ 12) (hs : s.length ≤ 1000) (hM : MX w) :
    Calls Tryz.prog 41 #[.slice h.A h.m h.c, .string (str s)] w fun e w' => StepsPost al s e w' ∧ Ext w w' := by
  have HRA := Lib.hid (readAll_any ha hl hM)
  have HPS : Hid (∀ W, Ext w W → Calls Tryz.prog 65 #[.string (str s)] W fun e w' => (∃ h, e = .returned (.tuple #[tgV h (parseT s).1, .int .i64 (parseT s).2]) ∧ TgW w' h (parseT s).1 ∧ ∀ k, ob h.A = some k → W.heap.size ≤ k) ∧ Ext W w') := fun W hE => parse_any hs (hM.ext hE)
  obtain ⟨s0, hs0⟩ : ∃ x, x = str s := ⟨_, rfl⟩
  rw [← hs0] at HPS ⊢
  clear hs0 ha hl hs hM
  go_enter Tryz.func41, Tryz.ntmps41
  go_wp2_with (first
    | (go_at_call 64; refine Hid.out ?_))
  refine Hid.mk_ (HRA.out.mono ?_)
  rintro e w1 ⟨⟨hr, rfl, hrs⟩, hE1⟩
  obtain ⟨ors, hors⟩ : ∃ o, o = readRs al := ⟨_, rfl⟩
  rw [← hors] at hrs ⊢
  have HO := Lib.hid hors
  clear hors
  cases ors with
  | none =>
    have HC : Hid (canonR al s = ([], 1)) := by show _ = _; unfold canonR; rw [← HO.out]
    go_wp2
    go_ret2
    exact ⟨⟨⟨none, 0, 0⟩, by rw [HC.out]; rfl, fun h => by rw [HC.out] at h; exact absurd h (by decide)⟩, hE1⟩
  | some rs =>
    have HRS := Lib.hid (hrs rs rfl)
    have HRV := Lib.hid (readRs_valid HO.out.symm)
    clear hrs
    go_wp2_with (first
      | (go_at_call 65; refine Hid.out ?_))
    refine Hid.mk_ ((HPS.out _ hE1).mono ?_)
    rintro e w3 ⟨⟨h0, rfl, hT, hn0⟩, hE3⟩
    obtain ⟨t0, ht0⟩ : ∃ t, t = (parseT s).1 := ⟨_, rfl⟩
    obtain ⟨er, her⟩ : ∃ er, er = (parseT s).2 := ⟨_, rfl⟩
    rw [← ht0] at hT ⊢
    rw [← her]
    have HT0 := Lib.hid ht0
    have HER := Lib.hid her
    unfold tgV
    clear ht0 her
    obtain ⟨l0, hla⟩ : ∃ x, x = str (t0).lang := ⟨_, rfl⟩
    obtain ⟨s1, hsc⟩ : ∃ x, x = str (t0).scr := ⟨_, rfl⟩
    obtain ⟨r0, hrg⟩ : ∃ x, x = str (t0).reg := ⟨_, rfl⟩
    have HL0 := Lib.hid hla
    have HS0 := Lib.hid hsc
    have HR0 := Lib.hid hrg
    rw [← hla, ← hsc, ← hrg]
    clear hla hsc hrg
    by_cases c0 : er = 0
    case neg =>
      have HC : Hid (canonR al s = ([], er)) := by show _ = _; unfold canonR; rw [← HO.out]; show (if _ then _ else _) = _; rw [← HER.out, if_neg c0]
      have hE4 : Ext w3 (w3.alloc (.cells #[.string l0, .string s1, .string r0, .slice h0.A h0.m h0.c] 108)) := (Ext.refl w3).alloc _
      go_wp2
      go_ret2
      exact ⟨⟨⟨none, 0, 0⟩, by rw [HC.out]; rfl, fun h => by rw [HC.out] at h; exact absurd h c0⟩, (hE1.trans hE3).trans hE4⟩
    case pos =>
      have HC : Hid (canonR al s = if (stepsR rs 30 t0 1).2 = 0 then (textT (stepsR rs 30 t0 1).1, 0) else ([], (stepsR rs 30 t0 1).2)) := by
        show _ = _
        unfold canonR
        rw [← HO.out]
        show (if _ then _ else _) = _
        rw [← HER.out, if_pos c0, ← HT0.out]
      subst c0
      have HV0 : Hid (validT t0 = true) := by
        refine parse_valid (s := s) ?_
        rw [HT0.out]
        exact Prod.ext rfl HER.out.symm
      have HVL : Hid (t0.vars.length ≤ 4) := (valid_parts HV0.out).2.2.2.2.2
      have hb8 := Blk.new w3 108 #[.string l0, .string s1, .string r0, .slice h0.A h0.m h0.c]
      have hE4 : Ext w3 (w3.alloc (.cells #[.string l0, .string s1, .string r0, .slice h0.A h0.m h0.c] 108)) := (Ext.refl w3).alloc _
      have HTX : Hid (∀ W, Ext w3 W → Calls Tryz.prog 66 #[.agg #[.string l0, .string s1, .string r0, .slice h0.A h0.m h0.c]] W fun e w' => e = .returned (.string (str (textT t0))) ∧ Ext W w') := fun W hE => by
        rw [HL0.out, HS0.out, HR0.out]
        exact tText_any (hT.ext hE)
      obtain ⟨T0, hT0⟩ : ∃ T, T = str (textT t0) := ⟨_, rfl⟩
      rw [← hT0] at HTX
      have HT0Q := Lib.hid hT0
      have HT := Lib.hid hT
      clear hT0 hT
      go_wp2_with (first
        | (go_at_call 66; refine Hid.out ?_))
      refine Hid.mk_ ((HTX.out _ hE4).mono ?_)
      rintro e w5 ⟨rfl, hE5⟩
      have hE35 := hE4.trans hE5
      obtain ⟨g8, hg8⟩ : ∃ g, g = w3.heap.size := ⟨_, rfl⟩
      have hb85 := hb8.below hE5 (by simp)
      rw [← hg8] at hb85 ⊢
      have hE6 : Ext w3 (w5.alloc (.cells #[.string T0] 9)) := hE35.alloc _
      have HAN : Hid (AnS w3 (w5.alloc (.cells #[.string T0] 9)) g8 h0 t0 (some ⟨w5.heap.size, 0, none⟩) 1 1 [textT t0]) := by
        refine ⟨hE6, by omega, ?_, HT.out.ext hE6, ?_, ?_⟩
        · rw [← HL0.out, ← HS0.out, ← HR0.out]
          exact hb85.below ((Ext.refl w5).alloc _) hb85.lt
        · rw [show [textT t0].map str = [T0] by rw [HT0Q.out]; rfl]
          have hh := heap_alloc_new w5 (.cells #[.string T0] 9)
          exact OsC.of_row (cs := strF) (e := 9) (k := 1) (base := w3.heap.size) (m := 1) (c := 1) (l := [T0]) rfl hE35.size_le hh (by omega) (by simp [maxLen]) rfl rfl strF_len strF_cell rfl (by omega)
        · exact HT.out.far fun j hj => by injection hj with hj; rw [← hj]; exact hE35.size_le
      have HRS3 := Lib.hid (HRS.out.ext hE3)
      have HE3 := Lib.hid (hE1.trans hE3)
      obtain ⟨W6, hW6⟩ : ∃ W6, W6 = w5.alloc (.cells #[.string T0] 9) := ⟨_, rfl⟩
      obtain ⟨A6, hA6⟩ : ∃ A6 : Option Addr, A6 = some ⟨w5.heap.size, 0, none⟩ := ⟨_, rfl⟩
      rw [← hW6, ← hA6] at HAN
      clear hg8
      go_upto_region 8 with fail
      rw [← hW6, ← hA6]
      clear hW6 hA6 hb8 hE4 HTX hE5 hE35 hb85 hE6 hE1 hE3 HRA HPS HRS HT hn0
      go_loopg [10, 11, 12] 21 (fun gz s10 _ _ wx => ∃ (h : SlH) (t : Tg) (A : Option Addr) (m c k n : Nat) (L : List (List UInt8)), s10 = .slice A m c ∧ Hid (AnS w3 wx g8 h t A m c (L ++ [textT t])) ∧ Hid (stepsR rs 30 t0 1 = stepsR rs k t n) ∧ Hid (k + n = 31 ∧ n ≤ 21 ∧ 22 ≤ n + gz ∧ L.length + 1 = n ∧ t.vars.length ≤ 4))
      case atStart => exact ⟨h0, t0, A6, 1, 1, 30, 1, [], rfl, HAN, rfl, ⟨by omega, by omega, by omega, rfl, HVL.out⟩⟩
      case round =>
        obtain ⟨h, t, A, m, c, k, n, L, rfl, HA, HSR, HNN⟩ := hrel
        obtain ⟨hn1, hn2, hn3, hn4, hn5⟩ := HNN.out
        have HML : Hid (m = n) := by have := HA.out.own.len; rw [List.length_map, List.length_append, List.length_singleton] at this; exact this.trans hn4
        have hm21 : m ≤ 21 := by have := HML.out; omega
        have hb := HA.out.bt
        obtain ⟨l, hl⟩ : ∃ x, x = str t.lang := ⟨_, rfl⟩
        obtain ⟨sc, hs⟩ : ∃ x, x = str t.scr := ⟨_, rfl⟩
        obtain ⟨r, hr'⟩ : ∃ x, x = str t.reg := ⟨_, rfl⟩
        rw [← hl, ← hs, ← hr'] at hb
        have hHM := HA.out.tg
        obtain ⟨hA, hm, hc⟩ := h
        dsimp only at hb hHM
        have x0 := (hb).cell 0
        have x1 := (hb).cell 1
        have x2 := (hb).cell 2
        have x3 := (hb).cell 3
        simp only [List.getElem?_toArray, List.getElem?_cons_zero, List.getElem?_cons_succ] at x0 x1 x2 x3
        have HKS : Hid (Calls Tryz.prog 67 #[.slice hr.A hr.m hr.c, .agg #[.string l, .string sc, .string r, .slice hA hm hc]] wr fun e w' => StepPost wr (stepR rs t) e w' ∧ Ext wr w') := by
          show Calls _ _ _ _ _
          rw [hl, hs, hr']
          exact astep_any (ht := ⟨hA, hm, hc⟩) (HRS3.out.ext HA.out.ext) HA.out.tg fun y hy => by
            have := (valid_parts (HRV.out y hy).2).2.2.2.2.2
            omega
        obtain ⟨k, rfl⟩ : ∃ k', k = k' + 1 := ⟨k - 1, by omega⟩
        have HNN2 := Lib.hid (And.intro hn1 (And.intro hn2 (And.intro hn3 (And.intro hn4 hn5))))
        clear hl hs hr' hb hHM hn1 hn2 hn3 hn4 hn5 HNN
        go_wp2_with (first
          | (go_at_call 67; refine Hid.out ?_))
        refine Hid.mk_ (HKS.out.mono ?_)
        rintro e w5 ⟨⟨⟨bA, bm, bc⟩, t', ok, rfl, hst, ht5, hn5⟩, hE5⟩
        have HST := Lib.hid hst
        have HT5 := Lib.hid ht5
        have HN5 := Lib.hid hn5
        unfold tgV
        dsimp only
        obtain ⟨lu, hla⟩ : ∃ x, x = str (t').lang := ⟨_, rfl⟩
        obtain ⟨su, hsc⟩ : ∃ x, x = str (t').scr := ⟨_, rfl⟩
        obtain ⟨ru, hrg⟩ : ∃ x, x = str (t').reg := ⟨_, rfl⟩
        have HLU := Lib.hid hla
        have HSU := Lib.hid hsc
        have HRU := Lib.hid hrg
        rw [← hla, ← hsc, ← hrg]
        clear hla hsc hrg
        have hE56 : Ext w5 (w5.alloc (.cells #[.string lu, .string su, .string ru, .slice bA bm bc] 108)) := (Ext.refl w5).alloc _
        have hb11 := Blk.new w5 108 #[.string lu, .string su, .string ru, .slice bA bm bc]
        have HA6 := Lib.hid (HA.out.extn (hE5.trans hE56))
        have HT6 := Lib.hid (ht5.ext hE56)
        have HE6 := Lib.hid (hE5.trans hE56)
        have HB11 := Lib.hid hb11
        have hbm : (bm : Nat) = t'.vars.length := by have := ht5.sl.len; rw [List.length_map] at this; exact this
        have HBM := Lib.hid hbm
        clear hst ht5 hn5 hE5 hE56 hb11 hbm x0 x1 x2 x3
        cases ok with
        | false =>
          have HC2 : Hid (canonR al s = (textT t, 0)) := by
            show _ = _
            have hsn : stepR rs t = none := by
              have h := HST.out
              unfold StR at h
              cases hq : stepR rs t with
              | none => rfl
              | some u => rw [hq] at h; cases h.1
            rw [HC.out, HSR.out, stepsR_none hsn]
            rfl
          go_wp2
          go_ret2
          exact ⟨⟨⟨A, m, c⟩, by rw [HC2.out]; rfl, fun _ => ⟨L, by rw [HC2.out]; exact HA6.out.own.sl⟩⟩, HE3.out.trans HA6.out.ext⟩
        | true =>
          have hsn : stepR rs t = some t' := by
            have h := HST.out
            unfold StR at h
            cases hq : stepR rs t with
            | none => rw [hq] at h; cases h.1
            | some u => rw [hq] at h; rw [h.2]
          have HSS := Lib.hid (stepsR_some (k := k) (n := n) hsn)
          clear hsn
          by_cases h4 : 4 < bm
          · have h4i : (4 : Int) < (bm : Int) := by omega
            have HC2 : Hid (canonR al s = ([], 6)) := by
              show _ = _
              have hq : stepsR rs 30 t0 1 = (t, 6) := by rw [HSR.out, HSS.out, if_pos (by rw [← HBM.out]; exact h4)]
              rw [HC.out, hq]
              rfl
            go_wp2
            go_ret2
            exact ⟨⟨⟨none, 0, 0⟩, by rw [HC2.out]; rfl, fun h => by rw [HC2.out] at h; exact absurd h (by decide)⟩, HE3.out.trans HA6.out.ext⟩
          · have h4i : ¬ (4 : Int) < (bm : Int) := by omega
            by_cases h20 : 20 < m
            · have h20i : (20 : Int) < (m : Int) := by omega
              have HC2 : Hid (canonR al s = ([], 15)) := by
                show _ = _
                have hq : stepsR rs 30 t0 1 = (t, 15) := by rw [HSR.out, HSS.out, if_neg (by rw [← HBM.out]; exact h4), if_pos (by rw [← HML.out]; exact h20)]
                rw [HC.out, hq]
                rfl
              go_wp2
              go_ret2
              exact ⟨⟨⟨none, 0, 0⟩, by rw [HC2.out]; rfl, fun h => by rw [HC2.out] at h; exact absurd h (by decide)⟩, HE3.out.trans HA6.out.ext⟩
            · have h20i : ¬ (20 : Int) < (m : Int) := by omega
              have HSN : Hid (stepsR rs 30 t0 1 = stepsR rs k t' (n + 1)) := by
                show _ = _
                rw [HSR.out, HSS.out, if_neg (by rw [← HBM.out]; exact h4), if_neg (by rw [← HML.out]; exact h20)]
              have HNX : Hid (k + (n + 1) = 31 ∧ n + 1 ≤ 21 ∧ (L ++ [textT t]).length + 1 = n + 1 ∧ t'.vars.length ≤ 4) := by
                obtain ⟨hn1, hn2, hn3, hn4, hn5⟩ := HNN2.out
                have := HML.out
                have := HBM.out
                refine ⟨by omega, by omega, by rw [List.length_append, List.length_singleton]; omega, by omega⟩
              obtain ⟨gz', hgz⟩ : ∃ gz', gk = gz' + 1 := ⟨gk - 1, by have := HNN2.out; have := HML.out; omega⟩
              have HGZ := Lib.hid hgz
              clear hgz h4 h20
              have hn6 : ∀ j, ob (⟨bA, bm, bc⟩ : SlH).A = some j → wr.heap.size ≤ j := HN5.out
              have hb8 := HA6.out.bt
              have f0 := hb8.frozen 0
              have f1 := hb8.frozen 1
              have f2 := hb8.frozen 2
              have f3 := hb8.frozen 3
              have e0 := hb8.cell 0
              have e1 := hb8.cell 1
              have e2 := hb8.cell 2
              have e3 := hb8.cell 3
              simp only [List.getElem?_toArray, List.getElem?_cons_zero, List.getElem?_cons_succ] at e0 e1 e2 e3
              have HA7 := Lib.hid (HA.out.turn HE6.out HT6.out hn6 HLU.out HSU.out HRU.out)
              dsimp only at HA7
              clear hb8 hn6
              go_upto_region 16 with fail
              obtain ⟨w7, hw7⟩ : ∃ w7, w7 = (((((w5.alloc (.cells #[.string lu, .string su, .string ru, .slice bA bm bc] 108)).setCell ⟨g8, 0, none⟩ (.string lu)).setCell ⟨g8, 1, none⟩ (.string su)).setCell ⟨g8, 2, none⟩ (.string ru)).setCell ⟨g8, 3, none⟩ (.slice bA bm bc)) := ⟨_, rfl⟩
              rw [← hw7] at HA7 ⊢
              clear hw7 f0 f1 f2 f3 e0 e1 e2 e3
              have hb7 := HA7.out.bt
              dsimp only at hb7
              rw [← HLU.out, ← HSU.out, ← HRU.out] at hb7
              have y0 := (hb7).cell 0
              have y1 := (hb7).cell 1
              have y2 := (hb7).cell 2
              have y3 := (hb7).cell 3
              simp only [List.getElem?_toArray, List.getElem?_cons_zero, List.getElem?_cons_succ] at y0 y1 y2 y3
              obtain ⟨x, hx⟩ : ∃ x, x = str (textT t') := ⟨_, rfl⟩
              have HX := Lib.hid hx
              have HKT : Hid (Calls Tryz.prog 66 #[.agg #[.string lu, .string su, .string ru, .slice bA bm bc]] w7 fun e w' => e = .returned (.string x) ∧ Ext w7 w') := by
                show Calls _ _ _ _ _
                rw [HLU.out, HSU.out, HRU.out, hx]
                exact tText_any (h := ⟨bA, bm, bc⟩) HA7.out.tg
              clear hx hb7
              go_wp2_with (first
                | (go_at_call 66; refine Hid.out ?_))
              refine Hid.mk_ ((HKT.out).mono ?_)
              rintro e w8 ⟨rfl, hE8⟩
              have hE9 : Ext w7 (w8.alloc (.cells #[.string x] 9)) := hE8.alloc _
              have hnew : SlC strF 1 (w8.alloc (.cells #[.string x] 9)) (some ⟨w8.heap.size, 0, none⟩) 1 [x] := SlC.new_ (cs := strF) w8 [x] (fun _ => rfl) (by simp) _ rfl (0, 0) _ rfl _
              have HA9 := Lib.hid (HA7.out.extn hE9)
              have hbase := HA9.out.ext.size_le
              go_wp2_with (first
                | (at_builtin; refine Hid.out ?_))
              refine Hid.mk_ ?_
              refine appC einfo_ss rfl _ _ rfl HA9.out.own rfl hnew rfl (by omega) hbase ?_
              intro A10 m10 c10 w10 ho10 hg10 hn10
              have HA10 : Hid (AnS w3 w10 g8 ⟨bA, bm, bc⟩ t' A10 m10 c10 ((L ++ [textT t]) ++ [textT t'])) := HA9.out.app (by rw [← HX.out]; exact ho10) hg10 hn10
              clear ho10 hg10 hn10 hbase hnew hE9 hE8 y0 y1 y2 y3
              have hgz := HGZ.out
              subst hgz
              go_wp2
              go_roundg gz'
              case measure => omega
              case rel =>
                obtain ⟨j1, j2, j3, j4⟩ := HNX.out
                have := HNN2.out
                exact ⟨⟨bA, bm, bc⟩, t', A10, m10, c10, k, n + 1, L ++ [textT t], rfl, HA10, HSN, ⟨j1, j2, by omega, j3, j4⟩⟩
set_option maxHeartbeats 3200000 in
theorem acanon_any {h : SlH} {al : List AlP} {s : List UInt8} (ha : AlsW w h al) (hl : al.length ≤ 12) (hs : s.length ≤ 1000) (hM : MX w) :
    Calls Tryz.prog 8 #[.slice h.A h.m h.c, .string (str s)] w fun e w' => e = .returned (.tuple #[.string (str (canonR al s).1), .int .i64 (canonR al s).2]) ∧ Ext w w' := by
  have HK := Lib.hid (steps_any ha hl hs hM)
  obtain ⟨s0, hs0⟩ : ∃ x, x = str s := ⟨_, rfl⟩
  rw [← hs0] at HK ⊢
  clear hs0 ha hl hs hM
  go_enter Tryz.func8, Tryz.ntmps8
  go_wp2_with (first
    | (go_at_call 41; refine Hid.out ?_))
  refine Hid.mk_ (HK.out.mono ?_)
  rintro e w1 ⟨⟨⟨A, m, c⟩, rfl, hr⟩, hE1⟩
  obtain ⟨er, her⟩ : ∃ er, er = (canonR al s).2 := ⟨_, rfl⟩
  rw [← her] at hr ⊢
  by_cases h0 : er = 0
  · obtain ⟨L, hL⟩ := hr h0
    have hlen := hL.len
    rw [List.length_map, List.length_append, List.length_singleton] at hlen
    dsimp only at hL hlen
    obtain ⟨b, off, rfl, hbl, hcs⟩ := strs_cells hL (by omega)
    obtain ⟨T, hTq⟩ : ∃ T, T = str (canonR al s).1 := ⟨_, rfl⟩
    have x0 := hcs (m - 1) T (by rw [hTq, hlen]; simp)
    have hle := hL.le
    have hm1 : (m : Int) - 1 = ((m - 1 : Nat) : Int) := by omega
    have hmi : ((m - 1 : Nat) : Int) < (m : Int) := by omega
    have HH := Lib.hid hTq
    have HER := Lib.hid (her.symm.trans h0)
    subst h0
    clear hr her hL hcs hlen hTq
    go_wp2
    go_ret2
    exact ⟨by rw [← HH.out, HER.out]; rfl, hE1⟩
  · have HC : Hid ((canonR al s).1 = []) := by
      show _ = _
      have h1 := her
      unfold canonR at h1 ⊢
      split
      · rfl
      · rename_i rs hrs
        rw [hrs] at h1
        dsimp only at h1
        split
        · rename_i c1
          rw [if_pos c1] at h1
          split
          · rename_i c2
            rw [if_pos c2] at h1
            exact absurd h1 h0
          · rfl
        · rfl
    have HER := Lib.hid her
    clear hr her
    go_wp2
    go_ret2
    exact ⟨by rw [HC.out, ← HER.out]; rfl, hE1⟩
end
end Go.Proofs.YtdgppdiickmofaaGreatDoor

/- Sets of pairs of strings as maps to true; the program's match: of. -/
namespace Go.Proofs.YtdgppdiickmofaaGreatDoor
open Go.RowKit Go.Maps
set_option maxRecDepth 100000
attribute [local go_sem] ext_refl_t ext_alloc_t ext_drew_t ext_drewN_t ext_alloc2_t ext_alloc3_t ext_alloc4_t ext_alloc5_t ext_alloc6_t ext_alloc7_t ext_alloc8_t ext_alloc1d_t ext_alloc2d_t ext_alloc3d_t ext_alloc4d_t
abbrev PrP := List UInt8 × List UInt8
def prV (p : PrP) : Value := .agg #[.string (str p.1), .string (str p.2)]
def prL (p : PrP) : Lit := .string (keyBytes [.string p.1, .string p.2])
theorem laidM : laidOutB Tryz.prog = true := by kernel_rfl
theorem rowMM : 100 < Tryz.prog.types.size := of_decide_eq_true (by kernel_rfl)
theorem keyedMM : Keyed Tryz.prog 100 := Keyed.of_law (deep_law_laid laidM (m := 8) (by omega) rowMM (by kernel_rfl) (by kernel_rfl))
theorem key_someM (p : PrP) (ha : p.1.length ≤ maxLen) (hb : p.2.length ≤ maxLen) : keyOf Tryz.prog 100 (prV p) = some (prL p) := by
  obtain ⟨n, hn⟩ : ∃ n, Tryz.prog.types.size = n + 1 := ⟨Tryz.prog.types.size - 1, by have := rowMM; omega⟩
  have h1 : Tryz.prog.keyType 100 = true := by kernel_rfl
  have h2 : Tryz.prog.cellsOf 100 = 2 := by kernel_rfl
  have h3 : Tryz.prog.cellsOf 9 = 1 := by kernel_rfl
  have h4 : (prV p).formed Tryz.prog 100 = true := by
    simp [prV, Value.formed, Tryz.underlying100, h2]
  have hs : ∀ s : List UInt8, s.length ≤ maxLen → Tryz.prog.keyLits (n + 1) 9 [.string (str s)] = some [.string s] := fun s h => by
    have h5 : (str s).size ≤ maxLen := by rw [str_size]; exact h
    have h6 : (str s).data.toList = s := bys_str s
    simp [Program.keyLits, Tryz.underlying9, h5, h6]
  unfold keyOf
  rw [Tryz.underlying100]
  simp only [h1, h4, Bool.and_self, if_true, hn]
  rw [Program.keyLits]
  case heq => exact Tryz.underlying100
  simp only [h2, h3, prV, Value.cells]
  have r2 : List.range 2 = [0, 1] := rfl
  simp [r2, hs p.1 ha, hs p.2 hb, prL]
theorem prL_injM {p q : PrP} (ha : p.1.length ≤ maxLen) (hb : p.2.length ≤ maxLen) (ha' : q.1.length ≤ maxLen) (hb' : q.2.length ≤ maxLen) (h : prL p = prL q) : p = q := by
  have h1 := keyedMM.inj (key_someM p ha hb) ((key_someM q ha' hb').trans (by rw [h]))
  simp only [prV, Value.agg.injEq] at h1
  have h2 : str p.1 = str q.1 ∧ str p.2 = str q.2 := by simpa using h1
  exact Prod.ext (str_inj.1 h2.1) (str_inj.1 h2.2)
/-- Block bm is a set of at most n pairs, S, as a map to true. -/
def SPM (w : World) (bm n : Nat) (S : List PrP) : Prop :=
  ∃ D : DataW Unit, w.ownsMap Tryz.prog 100 (plainElem Tryz.prog 4) bm n D ∧ ∀ p : PrP, p.1.length ≤ maxLen → p.2.length ≤ maxLen → D.atKey (prL p) (.lit (.bool false)) = .lit (.bool (decide (p ∈ S)))
section
variable {w w' : World} {bm n : Nat} {S : List PrP}
theorem SPM.lt (h : SPM w bm n S) : bm < w.heap.size := by obtain ⟨D, ho, _⟩ := h; exact ho.lt
theorem SPM.kept {r : Option Nat} (h : SPM w bm n S) (hg : w.grownBy w' r) (hr : some bm ≠ r) : SPM w' bm n S := by
  obtain ⟨D, ho, hv⟩ := h
  exact ⟨D, ho.kept hg hr, hv⟩
theorem SPM.ext (h : SPM w bm n S) (hE : Ext w w') : SPM w' bm n S := h.kept (hE.grownBy none) (by simp)
theorem SPM.made (w : World) : SPM (w.alloc (.map #[] 0)) w.heap.size 0 [] :=
  ⟨.map [], World.ownsMap_made _ _ _ _, fun _ _ _ => rfl⟩
theorem SPM.look (h : SPM w bm n S) (p : PrP) (ha : p.1.length ≤ maxLen) (hb : p.2.length ≤ maxLen) : (Instr.lookup 97 (.map (some bm)) (prV p) false).run Tryz.prog w = .ok (.bool (decide (p ∈ S))) w := by
  obtain ⟨D, ho, hv⟩ := h
  obtain ⟨v, ps, hrun, hR⟩ := ho.lookup keyedMM Tryz.underlying97 (zero_b w) (plainElem_bool Tryz.underlying4 false) (key_someM p ha hb)
  rw [hv p ha hb] at hR
  have e : v = .bool (decide (p ∈ S)) := by
    unfold plainElem at hR
    rw [Tryz.underlying4] at hR
    cases v <;> simp at hR
    rw [hR.1]
  rw [← e]
  exact hrun
theorem SPM.store (h : SPM w bm n S) (hn : n < maxLen) (p : PrP) (ha : p.1.length ≤ maxLen) (hb : p.2.length ≤ maxLen) :
    ∃ w', (Instr.mapUpdate 97 (.map (some bm)) (prV p) (.bool true)).run Tryz.prog w = .ok () w' ∧ SPM w' bm (n + 1) (S ++ [p]) ∧ w.grownBy w' (some bm) := by
  obtain ⟨D, ho, hv⟩ := h
  obtain ⟨w', hrun, ho', hg⟩ := ho.update keyedMM Tryz.underlying97 hn (key_someM p ha hb) (plainElem_bool Tryz.underlying4 true)
  refine ⟨w', hrun, ⟨_, ho', fun q hqa hqb => ?_⟩, hg⟩
  by_cases hk : q = p
  · subst hk
    rw [decide_eq_true (show q ∈ S ++ [q] by simp)]
    exact atKey_put_same ho.isMap (keyedMM.key (key_someM q ha hb)) _ _
  · have hne : prL q ≠ prL p := fun e => hk (prL_injM hqa hqb ha hb e)
    rw [atKey_put_other hne, hv q hqa hqb]
    by_cases hm : q ∈ S
    · rw [decide_eq_true hm, decide_eq_true (show q ∈ S ++ [p] by simp [hm])]
    · rw [decide_eq_false hm, decide_eq_false (show ¬ q ∈ S ++ [p] by simp [hm, hk])]
theorem SPM.ne_blk {g : Nat} {t : TypeId} {cs : Array Value} (h : SPM w bm n S) (hb : Blk w g t cs) : g ≠ bm := by
  intro e
  obtain ⟨D, ⟨es, clock, h1, _⟩, _⟩ := h
  unfold Blk at hb
  rw [e, h1] at hb
  cases hb
end
theorem rowMU : 80 < Tryz.prog.types.size := of_decide_eq_true (by kernel_rfl)
theorem keyedMU : Keyed Tryz.prog 80 := Keyed.of_law (deep_law_laid laidM (m := 8) (by omega) rowMU (by kernel_rfl) (by kernel_rfl))
theorem key_someU (p : PrP) (ha : p.1.length ≤ maxLen) (hb : p.2.length ≤ maxLen) : keyOf Tryz.prog 80 (prV p) = some (prL p) := by
  obtain ⟨n, hn⟩ : ∃ n, Tryz.prog.types.size = n + 1 := ⟨Tryz.prog.types.size - 1, by have := rowMU; omega⟩
  have h1 : Tryz.prog.keyType 80 = true := by kernel_rfl
  have h2 : Tryz.prog.cellsOf 80 = 2 := by kernel_rfl
  have h3 : Tryz.prog.cellsOf 9 = 1 := by kernel_rfl
  have h4 : (prV p).formed Tryz.prog 80 = true := by
    simp [prV, Value.formed, Tryz.underlying80, h2]
  have hs : ∀ s : List UInt8, s.length ≤ maxLen → Tryz.prog.keyLits (n + 1) 9 [.string (str s)] = some [.string s] := fun s h => by
    have h5 : (str s).size ≤ maxLen := by rw [str_size]; exact h
    have h6 : (str s).data.toList = s := bys_str s
    simp [Program.keyLits, Tryz.underlying9, h5, h6]
  unfold keyOf
  rw [Tryz.underlying80]
  simp only [h1, h4, Bool.and_self, if_true, hn]
  rw [Program.keyLits]
  case heq => exact Tryz.underlying80
  simp only [h2, h3, prV, Value.cells]
  have r2 : List.range 2 = [0, 1] := rfl
  simp [r2, hs p.1 ha, hs p.2 hb, prL]
theorem prL_injU {p q : PrP} (ha : p.1.length ≤ maxLen) (hb : p.2.length ≤ maxLen) (ha' : q.1.length ≤ maxLen) (hb' : q.2.length ≤ maxLen) (h : prL p = prL q) : p = q := by
  have h1 := keyedMU.inj (key_someU p ha hb) ((key_someU q ha' hb').trans (by rw [h]))
  simp only [prV, Value.agg.injEq] at h1
  have h2 : str p.1 = str q.1 ∧ str p.2 = str q.2 := by simpa using h1
  exact Prod.ext (str_inj.1 h2.1) (str_inj.1 h2.2)
/-- Block bm is a set of at most n pairs, S, as a map to true. -/
def SPU (w : World) (bm n : Nat) (S : List PrP) : Prop :=
  ∃ D : DataW Unit, w.ownsMap Tryz.prog 80 (plainElem Tryz.prog 4) bm n D ∧ ∀ p : PrP, p.1.length ≤ maxLen → p.2.length ≤ maxLen → D.atKey (prL p) (.lit (.bool false)) = .lit (.bool (decide (p ∈ S)))
section
variable {w w' : World} {bm n : Nat} {S : List PrP}
theorem SPU.lt (h : SPU w bm n S) : bm < w.heap.size := by obtain ⟨D, ho, _⟩ := h; exact ho.lt
theorem SPU.kept {r : Option Nat} (h : SPU w bm n S) (hg : w.grownBy w' r) (hr : some bm ≠ r) : SPU w' bm n S := by
  obtain ⟨D, ho, hv⟩ := h
  exact ⟨D, ho.kept hg hr, hv⟩
theorem SPU.ext (h : SPU w bm n S) (hE : Ext w w') : SPU w' bm n S := h.kept (hE.grownBy none) (by simp)
theorem SPU.made (w : World) : SPU (w.alloc (.map #[] 0)) w.heap.size 0 [] :=
  ⟨.map [], World.ownsMap_made _ _ _ _, fun _ _ _ => rfl⟩
theorem SPU.look (h : SPU w bm n S) (p : PrP) (ha : p.1.length ≤ maxLen) (hb : p.2.length ≤ maxLen) : (Instr.lookup 129 (.map (some bm)) (prV p) false).run Tryz.prog w = .ok (.bool (decide (p ∈ S))) w := by
  obtain ⟨D, ho, hv⟩ := h
  obtain ⟨v, ps, hrun, hR⟩ := ho.lookup keyedMU Tryz.underlying129 (zero_b w) (plainElem_bool Tryz.underlying4 false) (key_someU p ha hb)
  rw [hv p ha hb] at hR
  have e : v = .bool (decide (p ∈ S)) := by
    unfold plainElem at hR
    rw [Tryz.underlying4] at hR
    cases v <;> simp at hR
    rw [hR.1]
  rw [← e]
  exact hrun
theorem SPU.store (h : SPU w bm n S) (hn : n < maxLen) (p : PrP) (ha : p.1.length ≤ maxLen) (hb : p.2.length ≤ maxLen) :
    ∃ w', (Instr.mapUpdate 129 (.map (some bm)) (prV p) (.bool true)).run Tryz.prog w = .ok () w' ∧ SPU w' bm (n + 1) (S ++ [p]) ∧ w.grownBy w' (some bm) := by
  obtain ⟨D, ho, hv⟩ := h
  obtain ⟨w', hrun, ho', hg⟩ := ho.update keyedMU Tryz.underlying129 hn (key_someU p ha hb) (plainElem_bool Tryz.underlying4 true)
  refine ⟨w', hrun, ⟨_, ho', fun q hqa hqb => ?_⟩, hg⟩
  by_cases hk : q = p
  · subst hk
    rw [decide_eq_true (show q ∈ S ++ [q] by simp)]
    exact atKey_put_same ho.isMap (keyedMU.key (key_someU q ha hb)) _ _
  · have hne : prL q ≠ prL p := fun e => hk (prL_injU hqa hqb ha hb e)
    rw [atKey_put_other hne, hv q hqa hqb]
    by_cases hm : q ∈ S
    · rw [decide_eq_true hm, decide_eq_true (show q ∈ S ++ [p] by simp [hm])]
    · rw [decide_eq_false hm, decide_eq_false (show ¬ q ∈ S ++ [p] by simp [hm, hk])]
theorem SPU.ne_blk {g : Nat} {t : TypeId} {cs : Array Value} (h : SPU w bm n S) (hb : Blk w g t cs) : g ≠ bm := by
  intro e
  obtain ⟨D, ⟨es, clock, h1, _⟩, _⟩ := h
  unfold Blk at hb
  rw [e, h1] at hb
  cases hb
end
theorem eql_pair (w : World) (p q : PrP) (hp : p.1.length ≤ maxLen ∧ p.2.length ≤ maxLen) (hq : q.1.length ≤ maxLen ∧ q.2.length ≤ maxLen) : (binOp .eql 100 (prV p) (prV q)).run Tryz.prog w = .ok (.bool (decide (p = q))) w := by
  obtain ⟨r, hr, hiff⟩ := run_equal_deep (P := Tryz.prog) w (m := 8) (by omega) (k := 100) (by kernel_rfl) (by rw [Tryz.underlying100]) (key_someM p hp.1 hp.2) (key_someM q hq.1 hq.2)
  have e : r = decide (p = q) := by
    by_cases h : p = q
    · rw [decide_eq_true h]; exact hiff.2 (by rw [h])
    · rw [decide_eq_false h]
      cases r with
      | false => rfl
      | true => exact absurd (prL_injM hp.1 hp.2 hq.1 hq.2 (hiff.1 rfl)) h
  rw [prV, prV, run_eql_struct]
  have h2 : (Op.equalIn 10000 100 (prV p) (prV q)).run Tryz.prog w = .ok r w := hr
  rw [prV, prV] at h2
  rw [h2, ← e]
  rfl
def minP (a b : List UInt8) : List UInt8 := if (Op.bytesLess a b || a == b) = true then a else b
def maxP (a b : List UInt8) : List UInt8 := if (!Op.bytesLess a b) = true then a else b
def ofP (a b : List UInt8) : PrP := (minP a b, maxP a b)
theorem run_min_str (w : World) (ts : Array TypeId) (t : TypeId) (a b : List UInt8) : (Builtin.min_ ts t #[.string (str a), .string (str b)]).run Tryz.prog w = .ok (.string (str (minP a b))) w := by
  have h1 := str_toList a
  have h2 := str_toList b
  unfold minP
  obtain ⟨c, hc⟩ : ∃ c, c = (Op.bytesLess a b || a == b) := ⟨_, rfl⟩
  simp only [Builtin.min_, Builtin.min2, Op.stringOp, h1, h2, List.foldlM_cons, List.foldlM_nil, ← hc]
  cases c <;> rfl
theorem run_max_str (w : World) (ts : Array TypeId) (t : TypeId) (a b : List UInt8) : (Builtin.max_ ts t #[.string (str a), .string (str b)]).run Tryz.prog w = .ok (.string (str (maxP a b))) w := by
  have h1 := str_toList a
  have h2 := str_toList b
  unfold maxP
  obtain ⟨c, hc⟩ : ∃ c, c = Op.bytesLess a b := ⟨_, rfl⟩
  simp only [Builtin.max_, Builtin.max2, Op.stringOp, h1, h2, List.foldlM_cons, List.foldlM_nil, ← hc]
  cases c <;> rfl
section
attribute [local go_sem] run_min_str run_max_str
variable {w : World}
set_option maxHeartbeats 1600000 in
theorem mof_any (a b : List UInt8) : Calls Tryz.prog 46 #[.string (str a), .string (str b)] w fun e w' => e = .returned (prV (ofP a b)) ∧ Ext w w' := by
  go_enter Tryz.func46, Tryz.ntmps46
  go_wp2
  refine bodyPost_ret (results_cell_row rfl _ _ w.heap.size 100 _ (0, 0) _ rfl (Blk.new w _ _) Tryz.underlying100 rfl (by kernel_rfl)) rfl ?_
  exact ⟨rfl, (Ext.refl w).alloc _⟩
end
end Go.Proofs.YtdgppdiickmofaaGreatDoor

/- The program's match: kind. -/
namespace Go.Proofs.YtdgppdiickmofaaGreatDoor
open Go.RowKit
set_option maxRecDepth 100000
attribute [local go_sem] ext_refl_t ext_alloc_t ext_drew_t ext_drewN_t ext_alloc2_t ext_alloc3_t ext_alloc4_t ext_alloc5_t ext_alloc6_t ext_alloc7_t ext_alloc8_t ext_alloc1d_t ext_alloc2d_t ext_alloc3d_t ext_alloc4d_t
def kindP (s : List UInt8) : Int := if validT ⟨s, [], [], []⟩ = true then 1 else if (!s.isEmpty && validT ⟨undL, s, [], []⟩) = true then 2 else if (!s.isEmpty && validT ⟨undL, [], s, []⟩) = true then 3 else 0
theorem tgn_W (w : World) {l s r : List UInt8} (hl : l.length ≤ 1000) (hs : s.length ≤ 1000) (hr : r.length ≤ 1000) : TgW w ⟨none, 0, 0⟩ ⟨l, s, r, []⟩ := ⟨SlC.nil_ strF_len, Nat.le_refl _, by simp, by simp, hl, hs, hr⟩
section
variable {w : World}
set_option maxHeartbeats 6400000 in
theorem kind_any {s : List UInt8} (hs : s.length ≤ 1000) :
    Calls Tryz.prog 47 #[.string (str s)] w fun e w' => e = .returned (.int .i64 (kindP s)) ∧ Ext w w' := by
  obtain ⟨s0, hs0⟩ : ∃ x, x = str s := ⟨_, rfl⟩
  obtain ⟨v1, hv1⟩ : ∃ v, v = validT ⟨s, [], [], []⟩ := ⟨_, rfl⟩
  obtain ⟨v2, hv2⟩ : ∃ v, v = validT ⟨undL, s, [], []⟩ := ⟨_, rfl⟩
  obtain ⟨v3, hv3⟩ : ∃ v, v = validT ⟨undL, [], s, []⟩ := ⟨_, rfl⟩
  obtain ⟨em, hem⟩ : ∃ e, e = s.isEmpty := ⟨_, rfl⟩
  have HK : Hid (kindP s = if v1 = true then 1 else if (!em && v2) = true then 2 else if (!em && v3) = true then 3 else 0) := by show _ = _; rw [hv1, hv2, hv3, hem]; rfl
  have HC1 : Hid (∀ W, Calls Tryz.prog 74 #[.agg #[.string s0, .string ⟨#[]⟩, .string ⟨#[]⟩, .slice none 0 0]] W fun e w' => e = .returned (.bool v1) ∧ Ext W w') := fun W => by
    rw [hs0, hv1]
    exact tvalid_any (h := ⟨none, 0, 0⟩) (tgn_W W hs (by simp) (by simp))
  have HC2 : Hid (∀ W, Calls Tryz.prog 74 #[.agg #[.string ⟨#[117, 110, 100]⟩, .string s0, .string ⟨#[]⟩, .slice none 0 0]] W fun e w' => e = .returned (.bool v2) ∧ Ext W w') := fun W => by
    rw [hs0, hv2]
    exact tvalid_any (h := ⟨none, 0, 0⟩) (tgn_W W (by simp [undL]) hs (by simp))
  have HC3 : Hid (∀ W, Calls Tryz.prog 74 #[.agg #[.string ⟨#[117, 110, 100]⟩, .string ⟨#[]⟩, .string s0, .slice none 0 0]] W fun e w' => e = .returned (.bool v3) ∧ Ext W w') := fun W => by
    rw [hs0, hv3]
    exact tvalid_any (h := ⟨none, 0, 0⟩) (tgn_W W (by simp [undL]) (by simp) hs)
  have q0 : s0.toList.isEmpty = em := by rw [hs0, str_toList, hem]
  obtain ⟨kp, hkp⟩ : ∃ kp, kp = kindP s := ⟨_, rfl⟩
  rw [← hkp] at HK ⊢
  rw [← hs0]
  clear hs0 hv1 hv2 hv3 hem hs hkp
  have hE0 : Ext w (w.alloc (.cells #[.string ⟨#[117, 110, 100]⟩, .string ⟨#[]⟩, .string ⟨#[]⟩, .slice none 0 0] 108)) := (Ext.refl w).alloc _
  have hb0 := Blk.new w 108 #[.string ⟨#[117, 110, 100]⟩, .string ⟨#[]⟩, .string ⟨#[]⟩, .slice none 0 0]
  go_enter Tryz.func47, Tryz.ntmps47
  go_wp2_with (first
    | (go_at_call 74; refine Hid.out ?_))
  refine Hid.mk_ ((HC1.out _).mono ?_)
  rintro e w1 ⟨rfl, hE1⟩
  cases v1 with
  | true =>
    go_wp2
    go_ret
    exact ⟨by rw [HK.out]; rfl, hE0.trans hE1⟩
  | false =>
    have hb1 := hb0.below hE1 (by simp)
    obtain ⟨g, hg⟩ : ∃ g, g = w.heap.size := ⟨_, rfl⟩
    rw [← hg] at hb1 ⊢
    have HG : Hid (w.heap.size ≤ g) := by show _ ≤ _; omega
    clear hg hb0
    have f1 := hb1.frozen 1
    have c1 := hb1.cell 1
    simp only [List.getElem?_toArray, List.getElem?_cons_zero, List.getElem?_cons_succ] at c1
    have hE2 : Ext w (w1.setCell ⟨g, 1, none⟩ (.string s0)) := (hE0.trans hE1).set_ (p := ⟨g, 1, none⟩) HG.out _
    have hb2 := hb1.set_ 1 (.string s0)
    go_upto_region 5 with fail
    obtain ⟨w2, hw2⟩ : ∃ w2, w2 = w1.setCell ⟨g, 1, none⟩ (.string s0) := ⟨_, rfl⟩
    rw [← hw2] at hE2 hb2 ⊢
    have hb2 : Blk w2 g 108 #[.string ⟨#[117, 110, 100]⟩, .string s0, .string ⟨#[]⟩, .slice none 0 0] := hb2
    have x0 := (hb2).cell 0
    have x1 := (hb2).cell 1
    have x2 := (hb2).cell 2
    have x3 := (hb2).cell 3
    simp only [List.getElem?_toArray, List.getElem?_cons_zero, List.getElem?_cons_succ] at x0 x1 x2 x3
    have HB2 := Lib.hid hb2
    clear hw2 f1 c1 hb1 hE0 hE1 hb2
    cases em with
    | true =>
      have f1 := HB2.out.frozen 1
      have f2 := HB2.out.frozen 2
      go_wp2
      go_ret
      exact ⟨by rw [HK.out]; rfl, (hE2.set_ (p := ⟨g, 1, none⟩) HG.out _).set_ (p := ⟨g, 2, none⟩) HG.out _⟩
    | false =>
      go_wp2_with (first
        | (go_at_call 74; refine Hid.out ?_))
      refine Hid.mk_ ((HC2.out _).mono ?_)
      rintro e w3 ⟨rfl, hE3⟩
      cases v2 with
      | true =>
        go_wp2
        go_ret
        exact ⟨by rw [HK.out]; rfl, hE2.trans hE3⟩
      | false =>
        have hb3 := HB2.out.below hE3 HB2.out.lt
        have f1 := hb3.frozen 1
        have f2 := hb3.frozen 2
        have c1 := hb3.cell 1
        have c2 := hb3.cell 2
        simp only [List.getElem?_toArray, List.getElem?_cons_zero, List.getElem?_cons_succ] at c1 c2
        have hE4 : Ext w ((w3.setCell ⟨g, 1, none⟩ (.string ⟨#[]⟩)).setCell ⟨g, 2, none⟩ (.string s0)) := ((hE2.trans hE3).set_ (p := ⟨g, 1, none⟩) HG.out _).set_ (p := ⟨g, 2, none⟩) HG.out _
        have hb4 := (hb3.set_ 1 (.string ⟨#[]⟩)).set_ 2 (.string s0)
        go_upto_region 8 with fail
        obtain ⟨w4, hw4⟩ : ∃ w4, w4 = ((w3.setCell ⟨g, 1, none⟩ (.string ⟨#[]⟩)).setCell ⟨g, 2, none⟩ (.string s0)) := ⟨_, rfl⟩
        rw [← hw4] at hE4 hb4 ⊢
        have hb4 : Blk w4 g 108 #[.string ⟨#[117, 110, 100]⟩, .string ⟨#[]⟩, .string s0, .slice none 0 0] := hb4
        have y0 := (hb4).cell 0
        have y1 := (hb4).cell 1
        have y2 := (hb4).cell 2
        have y3 := (hb4).cell 3
        simp only [List.getElem?_toArray, List.getElem?_cons_zero, List.getElem?_cons_succ] at y0 y1 y2 y3
        clear hw4 f1 f2 c1 c2 hb3 hE2 hE3 hb4 x0 x1 x2 x3
        go_wp2_with (first
          | (go_at_call 74; refine Hid.out ?_))
        refine Hid.mk_ ((HC3.out _).mono ?_)
        rintro e w5 ⟨rfl, hE5⟩
        cases v3 with
        | true =>
          go_wp2
          go_ret
          exact ⟨by rw [HK.out]; rfl, hE4.trans hE5⟩
        | false =>
          go_wp2
          go_ret
          exact ⟨by rw [HK.out]; rfl, hE4.trans hE5⟩
end
end Go.Proofs.YtdgppdiickmofaaGreatDoor

/- The program's match: distances in memory, Valid. -/
namespace Go.Proofs.YtdgppdiickmofaaGreatDoor
open Go.RowKit
set_option maxRecDepth 100000
attribute [local go_sem] ext_refl_t ext_alloc_t ext_drew_t ext_drewN_t ext_alloc2_t ext_alloc3_t ext_alloc4_t ext_alloc5_t ext_alloc6_t ext_alloc7_t ext_alloc8_t ext_alloc1d_t ext_alloc2d_t ext_alloc3d_t ext_alloc4d_t
attribute [local go_sem] yielded_undef
/-- A distance, plain. -/
structure NrP where
  a : List UInt8
  b : List UInt8
  c : Int
def nrC (x : NrP) : List Value := [.string (str x.a), .string (str x.b), .int .i64 x.c]
def GoodNr (x : NrP) : Prop := x.a.length ≤ 60 ∧ x.b.length ≤ 60 ∧ -9223372036854775808 ≤ x.c ∧ x.c ≤ 9223372036854775807
/-- Distances in memory. -/
abbrev NrW (w : World) (h : SlH) (l : List NrP) : Prop := HW nrC 3 40 GoodNr w h l
def badN (x : NrP) : Bool := (kindP x.a == 0) || ((kindP x.a != kindP x.b) || (decide (x.a = x.b) || (decide (x.c < 1) || decide (99 < x.c))))
def valS : List NrP → List PrP → Bool
  | [], _ => true
  | x :: r, S => !(badN x || decide (ofP x.a x.b ∈ S)) && valS r (S ++ [ofP x.a x.b])
def valN (l : List NrP) : Bool := valS l [] && decide (l.length ≤ 200)
theorem minP_len {a b : List UInt8} {n : Nat} (ha : a.length ≤ n) (hb : b.length ≤ n) : (minP a b).length ≤ n := by unfold minP; split <;> assumption
theorem maxP_len {a b : List UInt8} {n : Nat} (ha : a.length ≤ n) (hb : b.length ≤ n) : (maxP a b).length ≤ n := by unfold maxP; split <;> assumption
section
variable {w : World}
set_option maxHeartbeats 12800000 in
theorem mvalid_any {h : SlH} {l : List NrP} (hs : NrW w h l) (hl : l.length ≤ 30) :
    Calls Tryz.prog 11 #[.slice h.A h.m h.c] w fun e w' => e = .returned (.bool (valN l)) ∧ Ext w w' := by
  obtain ⟨A, m, c⟩ := h
  dsimp only
  have HL : Hid (m = l.length) := hs.sl.len
  have hm : m ≤ 30 := by have := HL.out; omega
  have HS := Lib.hid hs
  clear hs hl
  go_enter Tryz.func11, Tryz.ntmps11
  have hmm := @run_makeMap Tryz.prog
  obtain ⟨W0, hW0⟩ : ∃ W0, W0 = w.alloc (.map #[] 0) := ⟨_, rfl⟩
  have hSM : SPM W0 w.heap.size 0 [] := by rw [hW0]; exact SPM.made w
  have hE0 : Ext w W0 := by rw [hW0]; exact (Ext.refl w).alloc _
  go_upto_region 2 with fail
  rw [← hW0]
  obtain ⟨bm, hbm⟩ : ∃ b, b = w.heap.size := ⟨_, rfl⟩
  rw [← hbm] at hSM ⊢
  have HBM : Hid (w.heap.size ≤ bm) := by show _ ≤ _; omega
  clear hmm hW0 hbm
  go_wp2
  go_loopw [5, 6, 10] (fun _ _ i wr => ∃ (q n : Nat) (S : List PrP), q ≤ m ∧ n ≤ q ∧ i = .int .i64 q ∧ Hid (SPM wr bm n S) ∧ Hid (Ext w wr) ∧ Hid (valS l [] = valS (l.drop q) S)) (fun _ _ i _ => m - (intOf i).toNat)
  case atStart => exact ⟨0, 0, [], Nat.zero_le _, Nat.le_refl _, rfl, hSM, hE0, Lib.hid (by rw [List.drop_zero])⟩
  case round =>
    obtain ⟨q, n, S, hq, hnq, rfl, HSM, HE, HC⟩ := hrel
    by_cases hlt : q < m
    · obtain ⟨b, off, e0, hbl, hcs⟩ := (HS.out.sl.ext HE.out).at_ hlt (by omega)
      dsimp only at e0
      subst e0
      have hlt1 : q < l.length := by rw [← HL.out]; exact hlt
      obtain ⟨x, hxq⟩ : ∃ x, x = l[q] := ⟨_, rfl⟩
      have x0 := hcs q hlt1 0 (by omega)
      have x1 := hcs q hlt1 1 (by omega)
      have x2 := hcs q hlt1 2 (by omega)
      simp only [← hxq, nrC, List.getElem_cons_zero, List.getElem_cons_succ, Nat.add_zero, ← Nat.add_assoc] at x0 x1 x2
      have hgood := HS.out.good x (by rw [hxq]; exact List.getElem_mem hlt1)
      have HDV : Hid (valS l [] = (!(badN x || decide (ofP x.a x.b ∈ S)) && valS (l.drop (q + 1)) (S ++ [ofP x.a x.b]))) := by
        show _ = _
        rw [HC.out, List.drop_eq_getElem_cons hlt1, ← hxq]
        rfl
      have HGD := Lib.hid hgood
      clear hcs hxq hgood HC
      have hi1 : (q : Int) < (m : Int) := by omega
      have HK1 : Hid (∀ W, Calls Tryz.prog 47 #[.string (str x.a)] W fun e w' => e = .returned (.int .i64 (kindP x.a)) ∧ Ext W w') := fun W => kind_any (by have := HGD.out.1; omega)
      have HK2 : Hid (∀ W, Calls Tryz.prog 47 #[.string (str x.b)] W fun e w' => e = .returned (.int .i64 (kindP x.b)) ∧ Ext W w') := fun W => kind_any (by have := HGD.out.2.1; omega)
      have HOF : Hid (∀ W, Calls Tryz.prog 46 #[.string (str x.a), .string (str x.b)] W fun e w' => e = .returned (prV (ofP x.a x.b)) ∧ Ext W w') := fun W => mof_any x.a x.b
      obtain ⟨p, hp⟩ : ∃ p, p = ofP x.a x.b := ⟨_, rfl⟩
      have hpl : p.1.length ≤ maxLen ∧ p.2.length ≤ maxLen := by
        rw [hp]
        exact ⟨Nat.le_trans (minP_len HGD.out.1 HGD.out.2.1) (by simp [maxLen]), Nat.le_trans (maxP_len HGD.out.1 HGD.out.2.1) (by simp [maxLen])⟩
      have q3 : ((str x.a).toList == (str x.b).toList) = decide (x.a = x.b) := str_eqB _ _
      have HBD : Hid (badN x = ((kindP x.a == 0) || ((kindP x.a != kindP x.b) || (decide (x.a = x.b) || (decide (x.c < 1) || decide (99 < x.c)))))) := rfl
      rw [← hp] at HOF HDV
      obtain ⟨xa, hxa⟩ : ∃ y, y = str x.a := ⟨_, rfl⟩
      obtain ⟨xb, hxb⟩ : ∃ y, y = str x.b := ⟨_, rfl⟩
      obtain ⟨k1, hk1⟩ : ∃ y, y = kindP x.a := ⟨_, rfl⟩
      obtain ⟨k2, hk2⟩ : ∃ y, y = kindP x.b := ⟨_, rfl⟩
      obtain ⟨xc, hxc⟩ : ∃ y, y = x.c := ⟨_, rfl⟩
      rw [← hxa] at x0 HK1 HOF q3
      rw [← hxb] at x1 HK2 HOF q3
      rw [← hxc] at x2 HBD
      rw [← hk1] at HK1 HBD
      rw [← hk2] at HK2 HBD
      obtain ⟨b1, hb1⟩ : ∃ b, b = (k1 == 0) := ⟨_, rfl⟩
      obtain ⟨b2, hb2⟩ : ∃ b, b = (k1 != k2) := ⟨_, rfl⟩
      obtain ⟨b3, hb3⟩ : ∃ b, b = decide (x.a = x.b) := ⟨_, rfl⟩
      obtain ⟨b4, hb4⟩ : ∃ b, b = decide (xc < 1) := ⟨_, rfl⟩
      obtain ⟨b5, hb5⟩ : ∃ b, b = decide (99 < xc) := ⟨_, rfl⟩
      obtain ⟨b6, hb6⟩ : ∃ b, b = decide (p ∈ S) := ⟨_, rfl⟩
      rw [← hb1, ← hb2, ← hb3, ← hb4, ← hb5] at HBD
      rw [← hb3] at q3
      have HV : Hid (valS l [] = (!((b1 || (b2 || (b3 || (b4 || b5)))) || b6) && valS (l.drop (q + 1)) (S ++ [p]))) := by show _ = _; rw [HDV.out, HBD.out, hb6]
      have HLK : Hid (∀ W, Ext wr W → (Instr.lookup 97 (.map (some bm)) (prV p) false).run Tryz.prog W = .ok (.bool b6) W) := fun W hE => by
        rw [hb6]
        exact (HSM.out.ext hE).look p hpl.1 hpl.2
      have HQ1 := Lib.hid hb1.symm
      have HQ2 := Lib.hid hb2.symm
      have HQ3 := Lib.hid q3
      have HQ4 := Lib.hid hb4.symm
      have HQ5 := Lib.hid hb5.symm
      have HPL := Lib.hid hpl
      have HB22 : Hid ((k1 == k2) = !b2) := by show _ = _; rw [hb2]; cases h : (k1 == k2) <;> simp [bne, h]
      clear hb1 hb2 hb3 hb4 hb5 hb6 hxa hxb hxc hk1 hk2 hp q3 HDV HBD hpl
      have hE1 : Ext wr (wr.alloc (.cells #[.string xa, .string xb, .int .i64 xc] 99)) := (Ext.refl wr).alloc _
      have hb5 := Blk.new wr 99 #[.string xa, .string xb, .int .i64 xc]
      go_wp2_with (first
        | (go_at_call 46; refine Hid.out ?_))
      refine Hid.mk_ ((HOF.out _).mono ?_)
      rintro e w5 ⟨rfl, hE5⟩
      have hE6 : Ext w5 (w5.alloc (.cells #[.string (str p.1), .string (str p.2)] 100)) := (Ext.refl w5).alloc _
      have hb6 := Blk.new w5 100 #[.string (str p.1), .string (str p.2)]
      have hb55 := (hb5.below hE5 (by simp)).below hE6 (Nat.lt_of_lt_of_le (by simp) hE5.size_le)
      obtain ⟨W6, hW6⟩ : ∃ W6, W6 = (w5.alloc (.cells #[.string (str p.1), .string (str p.2)] 100)) := ⟨_, rfl⟩
      obtain ⟨g5, hg5⟩ : ∃ g, g = wr.heap.size := ⟨_, rfl⟩
      obtain ⟨g6, hg6⟩ : ∃ g, g = w5.heap.size := ⟨_, rfl⟩
      rw [← hW6] at hE6 hb6 hb55
      rw [← hg5] at hb55
      rw [← hg6] at hb6
      have HE16 := Lib.hid ((hE1.trans hE5).trans hE6)
      have HE6 := Lib.hid (HE.out.trans HE16.out)
      have HB5 := Lib.hid hb55
      have HB6 := Lib.hid hb6
      have HG5 := Lib.hid hg5
      have HG6 := Lib.hid hg6
      unfold prV
      clear hb5 hE1 hE5 hE6 hg5 hg6 hb55 hb6 x0 x1 x2
      go_upto_region 6 with fail
      rw [← hW6, ← HG5.out, ← HG6.out]
      clear hW6
      have z0 := latersU (show W6.cell? ⟨g5, 0, none⟩ = some (.string xa) from HB5.out.cell 0)
      have z1 := latersU (show W6.cell? ⟨g5, 1, none⟩ = some (.string xb) from HB5.out.cell 1)
      have z2 := latersU (show W6.cell? ⟨g5, 2, none⟩ = some (.int .i64 xc) from HB5.out.cell 2)
      have z3 := latersU (show W6.cell? ⟨g6, 0, none⟩ = some (.string (str p.1)) from HB6.out.cell 0)
      have z4 := latersU (show W6.cell? ⟨g6, 1, none⟩ = some (.string (str p.2)) from HB6.out.cell 1)
      have hlk : ∀ u : ExtOf W6, (Instr.lookup 97 (.map (some bm)) (.agg #[.string (str p.1), .string (str p.2)]) false).run Tryz.prog u.val = .ok (.bool b6) u.val := fun u => HLK.out u.val (HE16.out.trans u.ext)
      have p1 := HQ1.out
      have p2 := HQ2.out
      have p22 := HB22.out
      have p3 := HQ3.out
      have p4 := HQ4.out
      have p5 := HQ5.out
      clear HQ1 HQ2 HQ3 HQ4 HQ5 HB22
      cases b1 with
      | true =>
        go_wp2
        refine wp_region_ext_lit (by kernel_rfl) (by kernel_rfl) ?_
        try dsimp only [List.append]
        repeat (go_big_quiet_step (first | (go_at_call 47; first | with_reducible exact Calls.quiet_ext (HK1.out _) | with_reducible exact Calls.quiet_ext (HK2.out _))))
        refine wpQuiet_nil ?_
        rintro w7 ⟨⟨_, h7⟩, rfl⟩
        try dsimp only
        have HEF := Lib.hid (Ext.trans HE6.out h7)
        have HF : Hid (valS l [] = false) := by show _ = _; rw [HV.out]; rfl
        clear h7
        go_wp2
        go_ret
        exact ⟨by first | (rw [show valN l = false by unfold valN; rw [HF.out]; rfl]; rfl) | rfl, HEF.out⟩
      | false =>
        cases b2 with
        | true =>
          go_wp2
          refine wp_region_ext_lit (by kernel_rfl) (by kernel_rfl) ?_
          try dsimp only [List.append]
          repeat (go_big_quiet_step (first | (go_at_call 47; first | with_reducible exact Calls.quiet_ext (HK1.out _) | with_reducible exact Calls.quiet_ext (HK2.out _))))
          refine wpQuiet_nil ?_
          rintro w7 ⟨⟨_, h7⟩, rfl⟩
          try dsimp only
          have HEF := Lib.hid (Ext.trans HE6.out h7)
          have HF : Hid (valS l [] = false) := by show _ = _; rw [HV.out]; rfl
          clear h7
          go_wp2
          go_ret
          exact ⟨by first | (rw [show valN l = false by unfold valN; rw [HF.out]; rfl]; rfl) | rfl, HEF.out⟩
        | false =>
          cases b3 with
          | true =>
            go_wp2
            refine wp_region_ext_lit (by kernel_rfl) (by kernel_rfl) ?_
            try dsimp only [List.append]
            repeat (go_big_quiet_step (first | (go_at_call 47; first | with_reducible exact Calls.quiet_ext (HK1.out _) | with_reducible exact Calls.quiet_ext (HK2.out _))))
            refine wpQuiet_nil ?_
            rintro w7 ⟨⟨_, h7⟩, rfl⟩
            try dsimp only
            have HEF := Lib.hid (Ext.trans HE6.out h7)
            have HF : Hid (valS l [] = false) := by show _ = _; rw [HV.out]; rfl
            clear h7
            go_wp2
            go_ret
            exact ⟨by first | (rw [show valN l = false by unfold valN; rw [HF.out]; rfl]; rfl) | rfl, HEF.out⟩
          | false =>
            cases b4 with
            | true =>
              go_wp2
              refine wp_region_ext_lit (by kernel_rfl) (by kernel_rfl) ?_
              try dsimp only [List.append]
              repeat (go_big_quiet_step (first | (go_at_call 47; first | with_reducible exact Calls.quiet_ext (HK1.out _) | with_reducible exact Calls.quiet_ext (HK2.out _))))
              refine wpQuiet_nil ?_
              rintro w7 ⟨⟨_, h7⟩, rfl⟩
              try dsimp only
              have HEF := Lib.hid (Ext.trans HE6.out h7)
              have HF : Hid (valS l [] = false) := by show _ = _; rw [HV.out]; rfl
              clear h7
              go_wp2
              go_ret
              exact ⟨by first | (rw [show valN l = false by unfold valN; rw [HF.out]; rfl]; rfl) | rfl, HEF.out⟩
            | false =>
              cases b5 with
              | true =>
                go_wp2
                refine wp_region_ext_lit (by kernel_rfl) (by kernel_rfl) ?_
                try dsimp only [List.append]
                repeat (go_big_quiet_step (first | (go_at_call 47; first | with_reducible exact Calls.quiet_ext (HK1.out _) | with_reducible exact Calls.quiet_ext (HK2.out _))))
                refine wpQuiet_nil ?_
                rintro w7 ⟨⟨_, h7⟩, rfl⟩
                try dsimp only
                have HEF := Lib.hid (Ext.trans HE6.out h7)
                have HF : Hid (valS l [] = false) := by show _ = _; rw [HV.out]; rfl
                clear h7
                go_wp2
                go_ret
                exact ⟨by first | (rw [show valN l = false by unfold valN; rw [HF.out]; rfl]; rfl) | rfl, HEF.out⟩
              | false =>
                cases b6 with
                | true =>
                  go_wp2
                  refine wp_region_ext_lit (by kernel_rfl) (by kernel_rfl) ?_
                  try dsimp only [List.append]
                  repeat (go_big_quiet_step (first | (go_at_call 47; first | with_reducible exact Calls.quiet_ext (HK1.out _) | with_reducible exact Calls.quiet_ext (HK2.out _))))
                  refine wpQuiet_nil ?_
                  rintro w7 ⟨⟨_, h7⟩, rfl⟩
                  try dsimp only
                  have HEF := Lib.hid (Ext.trans HE6.out h7)
                  have HF : Hid (valS l [] = false) := by show _ = _; rw [HV.out]; rfl
                  clear h7
                  go_wp2
                  go_ret
                  exact ⟨by first | (rw [show valN l = false by unfold valN; rw [HF.out]; rfl]; rfl) | rfl, HEF.out⟩
                | false =>
                  go_wp2
                  refine wp_region_ext_lit (by kernel_rfl) (by kernel_rfl) ?_
                  try dsimp only [List.append]
                  repeat (go_big_quiet_step (first | (go_at_call 47; first | with_reducible exact Calls.quiet_ext (HK1.out _) | with_reducible exact Calls.quiet_ext (HK2.out _))))
                  refine wpQuiet_nil ?_
                  rintro w7 ⟨⟨_, h7⟩, rfl⟩
                  try dsimp only
                  have HE7 := Lib.hid (HE16.out.trans h7)
                  have HEF := Lib.hid (HE6.out.trans h7)
                  have y3 := HB6.out.below h7 HB6.out.lt
                  have y4 := (show w7.cell? ⟨g6, 0, none⟩ = some (.string (str p.1)) from y3.cell 0)
                  have y5 := (show w7.cell? ⟨g6, 1, none⟩ = some (.string (str p.2)) from y3.cell 1)
                  have hn30 : n < maxLen := by simp [maxLen]; omega
                  obtain ⟨w8, hrun, hS8, hg8⟩ := (HSM.out.ext HE7.out).store hn30 p HPL.out.1 HPL.out.2
                  unfold prV at hrun
                  have HS8 := Lib.hid hS8
                  have HE8 := Lib.hid (HEF.out.grown hg8 (fun j hj => by injection hj with hj; rw [← hj]; exact HBM.out))
                  have HVN : Hid (valS l [] = valS (l.drop (q + 1)) (S ++ [p])) := HV.out
                  clear h7 y3 hn30 hS8 hg8 hlk z0 z1 z2 z3 z4
                  go_wp2
                  go_roundw
                  case rel => exact ⟨q + 1, n + 1, S ++ [p], by omega, by omega, by go_num, HS8, HE8, HVN⟩
                  case measure => simp [intOf]; omega
    · have hi1 : ¬ (q : Int) < (m : Int) := by omega
      have HF : Hid (valN l = decide (m ≤ 200)) := by
        show _ = _
        unfold valN
        rw [HC.out, List.drop_eq_nil_of_le (by have := HL.out; omega), ← HL.out]
        rfl
      have hm2 : (m : Int) ≤ 200 := by omega
      have hm3 : m ≤ 200 := by omega
      go_wp2
      go_ret
      exact ⟨by rw [HF.out, decide_eq_true hm3]; rfl, HE.out⟩
end
end Go.Proofs.YtdgppdiickmofaaGreatDoor
