/- The program's aliases: slices.Contains of strings, fits. -/
import Derived.Test.YtdgppdiickmofaaGreatDoorPQ20
namespace Go.Proofs.YtdgppdiickmofaaGreatDoor
open Go.RowKit
set_option maxRecDepth 100000
attribute [local go_sem] ext_refl_t ext_alloc_t ext_drew_t ext_drewN_t ext_alloc2_t ext_alloc3_t ext_alloc4_t ext_alloc5_t ext_alloc6_t ext_alloc7_t ext_alloc8_t ext_alloc1d_t ext_alloc2d_t ext_alloc3d_t ext_alloc4d_t
attribute [local go_sem] yielded_undef
theorem mem_take_succ {l : List (List UInt8)} {q : Nat} (hq : q < l.length) {x : List UInt8} (h : ¬ x ∈ l.take q) (hx : l[q] ≠ x) : ¬ x ∈ l.take (q + 1) := by
  rw [List.take_succ_eq_append_getElem hq, List.mem_append, List.mem_singleton]
  rintro (h1 | h1)
  · exact h h1
  · exact hx h1.symm
section
variable {w : World}
set_option maxHeartbeats 1600000 in
theorem indexT_any {A : Option Addr} {m : Nat} (c : Nat) {l : List (List UInt8)} (hs : SlC strF 1 w A m (l.map str)) (x : List UInt8) :
    Calls Tryz.prog 180 #[.slice A m c, .string (str x)] w fun e w' => (∃ z : Int, e = .returned (.int .i64 z) ∧ ((x ∈ l ∧ 0 ≤ z) ∨ (¬ x ∈ l ∧ z = -1))) ∧ w = w' := by
  have HL : Hid (m = l.length) := by have := hs.len; rw [List.length_map] at this; exact this
  have hle := hs.le
  have HS := Lib.hid hs
  clear hs
  obtain ⟨s, hsx⟩ : ∃ s, s = str x := ⟨_, rfl⟩
  rw [← hsx]
  have HX := Lib.hid hsx
  clear hsx
  go_enter Tryz.func180, Tryz.ntmps180
  go_wp2
  go_loopw [5, 8] (fun _ i wr => ∃ q : Nat, q ≤ m ∧ i = .int .i64 q ∧ wr = w ∧ Hid (¬ x ∈ l.take q)) (fun _ i _ => m - (intOf i).toNat)
  case atStart => exact ⟨0, Nat.zero_le _, rfl, rfl, by show ¬ _; simp⟩
  case round =>
    obtain ⟨q, hq, rfl, rfl, HC⟩ := hrel
    by_cases hlt : q < m
    · obtain ⟨b, off, rfl, hbl, hcs⟩ := strs_cells HS.out (by omega)
      have hlt1 : q < l.length := by rw [← HL.out]; exact hlt
      have x0 := hcs q (str l[q]) (by rw [List.getElem?_map, List.getElem?_eq_getElem hlt1]; rfl)
      obtain ⟨y, hy⟩ : ∃ y, y = str l[q] := ⟨_, rfl⟩
      rw [← hy] at x0
      have hi1 : (q : Int) < (m : Int) := by omega
      clear hcs
      by_cases hxy : l[q] = x
      · have e1 : (s.toList == y.toList) = true := by rw [HX.out, hy, str_eqB]; exact decide_eq_true hxy.symm
        have HM : Hid (x ∈ l) := by show _ ∈ _; rw [← hxy]; exact List.getElem_mem hlt1
        clear hy hxy
        go_wp2
        go_ret
        exact ⟨⟨q, rfl, .inl ⟨HM.out, by omega⟩⟩, rfl⟩
      · have e1 : (s.toList == y.toList) = false := by rw [HX.out, hy, str_eqB]; exact decide_eq_false fun e => hxy e.symm
        have HM : Hid (¬ x ∈ l.take (q + 1)) := mem_take_succ hlt1 HC.out hxy
        clear hy hxy
        go_wp2
        go_roundw
        case rel => exact ⟨q + 1, by omega, by go_num, by first | trivial | rfl, HM⟩
        case measure => simp [intOf]; omega
    · have hi1 : ¬ (q : Int) < (m : Int) := by omega
      have HM : Hid (¬ x ∈ l) := by
        have h := HC.out
        rwa [List.take_of_length_le (by have := HL.out; omega)] at h
      go_wp2
      go_ret
      exact ⟨⟨-1, rfl, .inr ⟨HM.out, rfl⟩⟩, rfl⟩
set_option maxHeartbeats 1600000 in
theorem containsT_any {A : Option Addr} {m : Nat} (c : Nat) {l : List (List UInt8)} (hs : SlC strF 1 w A m (l.map str)) (x : List UInt8) :
    Calls Tryz.prog 147 #[.slice A m c, .string (str x)] w fun e w' => e = .returned (.bool (decide (x ∈ l))) ∧ w = w' := by
  have HK := Lib.hid (indexT_any c hs x)
  obtain ⟨s, hsx⟩ : ∃ s, s = str x := ⟨_, rfl⟩
  rw [← hsx] at HK ⊢
  clear hsx
  go_enter Tryz.func147, Tryz.ntmps147
  go_wp2_with (first
    | (go_at_call 180; refine Hid.out ?_))
  refine Hid.mk_ ((HK.out).mono ?_)
  rintro e w1 ⟨⟨z, rfl, hz⟩, rfl⟩
  rcases hz with ⟨h1, h2⟩ | ⟨h1, rfl⟩
  · have H1 := Lib.hid (decide_eq_true h1)
    clear h1
    go_wp2
    go_ret
    exact ⟨by rw [H1.out]; rfl, rfl⟩
  · have H1 := Lib.hid (decide_eq_false h1)
    clear h1
    go_wp2
    go_ret
    exact ⟨by rw [H1.out]; rfl, rfl⟩
theorem fits_take {a b : List (List UInt8)} {q : Nat} (hq : q < a.length) (h : (a.take q).all (fun v => decide (v ∈ b)) = true) (hx : a[q] ∈ b) : (a.take (q + 1)).all (fun v => decide (v ∈ b)) = true := by
  rw [List.take_succ_eq_append_getElem hq, List.all_append, h]
  simp [hx]
theorem fits_not {a b : List (List UInt8)} {q : Nat} (hq : q < a.length) (hx : ¬ a[q] ∈ b) : a.all (fun v => decide (v ∈ b)) = false := by
  cases h : a.all (fun v => decide (v ∈ b)) with
  | false => rfl
  | true =>
    rw [List.all_eq_true] at h
    exact absurd (of_decide_eq_true (h _ (List.getElem_mem hq))) hx
set_option maxHeartbeats 12800000 in
theorem fits_any {x : RuH} {h : SlH} {t : Tg} (hx : RuW w x) (hs : TgW w h t) :
    Calls Tryz.prog 98 #[ruV x, tgV h t] w fun e w' => e = .returned (.bool (fitsR x.r t)) ∧ Ext w w' := by
  obtain ⟨⟨ra, rb⟩, ⟨A1, m1, c1⟩, ⟨A2, m2, c2⟩⟩ := x
  obtain ⟨A, m, c⟩ := h
  have HX := Lib.hid hx.a
  have HT := Lib.hid hs
  have HL : Hid (m1 = ra.vars.length) := by have := hx.a.sl.len; rw [List.length_map] at this; exact this
  have hle : m1 ≤ 1000 := by have := hx.a.n; have := HL.out; dsimp only at *; omega
  unfold ruV tgV fitsR
  dsimp only at HX HT ⊢
  obtain ⟨l1, hl1⟩ : ∃ x, x = str ra.lang := ⟨_, rfl⟩
  obtain ⟨s1, hs1⟩ : ∃ x, x = str ra.scr := ⟨_, rfl⟩
  obtain ⟨r1, hr1⟩ : ∃ x, x = str ra.reg := ⟨_, rfl⟩
  obtain ⟨l2, hl2⟩ : ∃ x, x = str rb.lang := ⟨_, rfl⟩
  obtain ⟨s2, hs2⟩ : ∃ x, x = str rb.scr := ⟨_, rfl⟩
  obtain ⟨r2, hr2⟩ : ∃ x, x = str rb.reg := ⟨_, rfl⟩
  obtain ⟨l3, hl3⟩ : ∃ x, x = str t.lang := ⟨_, rfl⟩
  obtain ⟨s3, hs3⟩ : ∃ x, x = str t.scr := ⟨_, rfl⟩
  obtain ⟨r3, hr3⟩ : ∃ x, x = str t.reg := ⟨_, rfl⟩
  rw [← hl1, ← hs1, ← hr1, ← hl2, ← hs2, ← hr2, ← hl3, ← hs3, ← hr3]
  have q1 : (l1.toList == [117, 110, 100]) = decide (ra.lang = undL) := by rw [hl1, ← str_toList [117, 110, 100]]; exact str_eqB _ _
  have q2 : (l1.toList == l3.toList) = decide (ra.lang = t.lang) := by rw [hl1, hl3]; exact str_eqB _ _
  have q3 : s1.toList.isEmpty = decide (ra.scr = []) := by rw [hs1, str_toList]; cases ra.scr <;> rfl
  have q4 : (s1.toList == s3.toList) = decide (ra.scr = t.scr) := by rw [hs1, hs3]; exact str_eqB _ _
  have q5 : r1.toList.isEmpty = decide (ra.reg = []) := by rw [hr1, str_toList]; cases ra.reg <;> rfl
  have q6 : (r1.toList == r3.toList) = decide (ra.reg = t.reg) := by rw [hr1, hr3]; exact str_eqB _ _
  have HF : Hid (∀ v, ra.vars.all (fun v => decide (v ∈ t.vars)) = v → (ra.vars.all (fun v => decide (v ∈ t.vars)) && ((decide (ra.lang = undL) || decide (ra.lang = t.lang)) && ((decide (ra.scr = []) || decide (ra.scr = t.scr)) && (decide (ra.reg = []) || decide (ra.reg = t.reg))))) = (v && ((decide (ra.lang = undL) || decide (ra.lang = t.lang)) && ((decide (ra.scr = []) || decide (ra.scr = t.scr)) && (decide (ra.reg = []) || decide (ra.reg = t.reg)))))) := fun v h => by rw [h]
  obtain ⟨b1, hb1⟩ : ∃ b, b = decide (ra.lang = undL) := ⟨_, rfl⟩
  obtain ⟨b2, hb2⟩ : ∃ b, b = decide (ra.lang = t.lang) := ⟨_, rfl⟩
  obtain ⟨b3, hb3⟩ : ∃ b, b = decide (ra.scr = []) := ⟨_, rfl⟩
  obtain ⟨b4, hb4⟩ : ∃ b, b = decide (ra.scr = t.scr) := ⟨_, rfl⟩
  obtain ⟨b5, hb5⟩ : ∃ b, b = decide (ra.reg = []) := ⟨_, rfl⟩
  obtain ⟨b6, hb6⟩ : ∃ b, b = decide (ra.reg = t.reg) := ⟨_, rfl⟩
  rw [← hb1] at q1 HF ⊢
  rw [← hb2] at q2 HF ⊢
  rw [← hb3] at q3 HF ⊢
  rw [← hb4] at q4 HF ⊢
  rw [← hb5] at q5 HF ⊢
  rw [← hb6] at q6 HF ⊢
  obtain ⟨fv, hfv⟩ : ∃ fv, fv = (ra.vars.all (fun v => decide (v ∈ t.vars)) && ((b1 || b2) && ((b3 || b4) && (b5 || b6)))) := ⟨_, rfl⟩
  rw [← hfv] at HF ⊢
  clear hfv
  have Q1 := Lib.hid q1
  have Q2 := Lib.hid q2
  have Q3 := Lib.hid q3
  have Q4 := Lib.hid q4
  have Q5 := Lib.hid q5
  have Q6 := Lib.hid q6
  clear hb1 hb2 hb3 hb4 hb5 hb6 hl1 hs1 hr1 hl2 hs2 hr2 hl3 hs3 hr3 hx hs q1 q2 q3 q4 q5 q6
  go_enter Tryz.func98, Tryz.ntmps98
  have hb0 : Blk ((w.alloc (.cells #[.string l1, .string s1, .string r1, .slice A1 m1 c1, .string l2, .string s2, .string r2, .slice A2 m2 c2] 160)).alloc (.cells #[.string l3, .string s3, .string r3, .slice A m c] 108)) w.heap.size 160 #[.string l1, .string s1, .string r1, .slice A1 m1 c1, .string l2, .string s2, .string r2, .slice A2 m2 c2] := (Blk.new w _ _).alloc _
  have hb1 := Blk.new (w.alloc (.cells #[.string l1, .string s1, .string r1, .slice A1 m1 c1, .string l2, .string s2, .string r2, .slice A2 m2 c2] 160)) 108 #[.string l3, .string s3, .string r3, .slice A m c]
  rw [show (w.alloc (.cells #[.string l1, .string s1, .string r1, .slice A1 m1 c1, .string l2, .string s2, .string r2, .slice A2 m2 c2] 160)).heap.size = w.heap.size + 1 by simp] at hb1
  have hE0 : Ext w ((w.alloc (.cells #[.string l1, .string s1, .string r1, .slice A1 m1 c1, .string l2, .string s2, .string r2, .slice A2 m2 c2] 160)).alloc (.cells #[.string l3, .string s3, .string r3, .slice A m c] 108)) := ((Ext.refl w).alloc _).alloc _
  go_upto_region 1 with fail
  obtain ⟨W0, hW0⟩ : ∃ W0, W0 = ((w.alloc (.cells #[.string l1, .string s1, .string r1, .slice A1 m1 c1, .string l2, .string s2, .string r2, .slice A2 m2 c2] 160)).alloc (.cells #[.string l3, .string s3, .string r3, .slice A m c] 108)) := ⟨_, rfl⟩
  rw [← hW0] at hE0 hb0 hb1 ⊢
  obtain ⟨g0, hg0⟩ : ∃ g, g = w.heap.size := ⟨_, rfl⟩
  obtain ⟨g1, hg1⟩ : ∃ g, g = w.heap.size + 1 := ⟨_, rfl⟩
  rw [← hg0] at hb0
  rw [← hg1] at hb1
  rw [← hg1, ← hg0]
  have HB0 := Lib.hid hb0
  have HB1 := Lib.hid hb1
  have k3 := hb0.cell 3
  simp only [List.getElem?_toArray, List.getElem?_cons_zero, List.getElem?_cons_succ] at k3
  clear hW0 hg0 hg1 hb0 hb1
  have HV := Lib.hid (HX.out.ext hE0)
  have HU := Lib.hid (HT.out.ext hE0)
  have HEr := Lib.hid hE0
  clear hE0
  go_wp2
  go_loopw [4, 6, 11] (fun _ _ i wr => ∃ q : Nat, q ≤ m1 ∧ i = .int .i64 q ∧ wr = W0 ∧ Hid ((ra.vars.take q).all (fun v => decide (v ∈ t.vars)) = true)) (fun _ _ i _ => m1 - (intOf i).toNat)
  case atStart => exact ⟨0, Nat.zero_le _, rfl, rfl, Lib.hid rfl⟩
  case round =>
    obtain ⟨q, hq, rfl, rfl, HC⟩ := hrel
    by_cases hlt : q < m1
    · obtain ⟨b, off, e0, hbl, hcs⟩ := strs_cells HV.out.sl (by dsimp only; omega)
      dsimp only at e0
      subst e0
      have hlt1 : q < ra.vars.length := by rw [← HL.out]; exact hlt
      have x0 := hcs q (str ra.vars[q]) (by rw [List.getElem?_map, List.getElem?_eq_getElem hlt1]; rfl)
      have HK := Lib.hid (containsT_any c HU.out.sl ra.vars[q])
      obtain ⟨y, hy⟩ : ∃ y, y = str ra.vars[q] := ⟨_, rfl⟩
      rw [← hy] at x0 HK
      have k7 := HB1.out.cell 3
      simp only [List.getElem?_toArray, List.getElem?_cons_zero, List.getElem?_cons_succ] at k7
      have hi1 : (q : Int) < (m1 : Int) := by omega
      obtain ⟨bq, hbq⟩ : ∃ b, b = decide (ra.vars[q] ∈ t.vars) := ⟨_, rfl⟩
      rw [← hbq] at HK
      have HBQ := Lib.hid hbq
      clear hcs hy hbq
      cases bq with
      | false =>
        have HFF : Hid (ra.vars.all (fun v => decide (v ∈ t.vars)) = false) := fits_not hlt1 (of_decide_eq_false HBQ.out.symm)
        go_wp2_with (first
          | (go_at_call 147; refine Hid.out ?_))
        refine Hid.mk_ ((HK.out).mono ?_)
        rintro e w2 ⟨rfl, rfl⟩
        go_wp2
        go_ret
        exact ⟨by rw [HF.out false HFF.out]; rfl, HEr.out⟩
      | true =>
        have HN : Hid ((ra.vars.take (q + 1)).all (fun v => decide (v ∈ t.vars)) = true) := fits_take hlt1 HC.out (of_decide_eq_true HBQ.out.symm)
        go_wp2_with (first
          | (go_at_call 147; refine Hid.out ?_))
        refine Hid.mk_ ((HK.out).mono ?_)
        rintro e w2 ⟨rfl, rfl⟩
        go_wp2
        go_roundw
        case rel => exact ⟨q + 1, by omega, by go_num, by first | trivial | rfl, HN⟩
        case measure => simp [intOf]; omega
    · have hi1 : ¬ (q : Int) < (m1 : Int) := by omega
      have HFF := Lib.hid (HF.out true (by
        have h := HC.out
        rwa [List.take_of_length_le (by have := HL.out; omega)] at h))
      have z0 := (show wr.cell? ⟨g0, 0, none⟩ = some (.string l1) from HB0.out.cell 0)
      have z1 := (show wr.cell? ⟨g0, 1, none⟩ = some (.string s1) from HB0.out.cell 1)
      have z2 := (show wr.cell? ⟨g0, 2, none⟩ = some (.string r1) from HB0.out.cell 2)
      have y0 := (show wr.cell? ⟨g1, 0, none⟩ = some (.string l3) from HB1.out.cell 0)
      have y1 := (show wr.cell? ⟨g1, 1, none⟩ = some (.string s3) from HB1.out.cell 1)
      have y2 := (show wr.cell? ⟨g1, 2, none⟩ = some (.string r3) from HB1.out.cell 2)
      have p1 := Q1.out
      have p2 := Q2.out
      have p3 := Q3.out
      have p4 := Q4.out
      have p5 := Q5.out
      have p6 := Q6.out
      clear Q1 Q2 Q3 Q4 Q5 Q6 HV HU HX HT HC HF
      cases b1 with
      | true =>
        cases b3 with
        | true =>
          cases b5 with
          | true =>
            go_wp2
            go_ret
            exact ⟨by rw [HFF.out]; rfl, HEr.out⟩
          | false =>
            cases b6 with
            | true =>
              go_wp2
              go_ret
              exact ⟨by rw [HFF.out]; rfl, HEr.out⟩
            | false =>
              go_wp2
              go_ret
              exact ⟨by rw [HFF.out]; rfl, HEr.out⟩
        | false =>
          cases b4 with
          | true =>
            cases b5 with
            | true =>
              go_wp2
              go_ret
              exact ⟨by rw [HFF.out]; rfl, HEr.out⟩
            | false =>
              cases b6 with
              | true =>
                go_wp2
                go_ret
                exact ⟨by rw [HFF.out]; rfl, HEr.out⟩
              | false =>
                go_wp2
                go_ret
                exact ⟨by rw [HFF.out]; rfl, HEr.out⟩
          | false =>
            go_wp2
            go_ret
            exact ⟨by rw [HFF.out]; rfl, HEr.out⟩
      | false =>
        cases b2 with
        | true =>
          cases b3 with
          | true =>
            cases b5 with
            | true =>
              go_wp2
              go_ret
              exact ⟨by rw [HFF.out]; rfl, HEr.out⟩
            | false =>
              cases b6 with
              | true =>
                go_wp2
                go_ret
                exact ⟨by rw [HFF.out]; rfl, HEr.out⟩
              | false =>
                go_wp2
                go_ret
                exact ⟨by rw [HFF.out]; rfl, HEr.out⟩
          | false =>
            cases b4 with
            | true =>
              cases b5 with
              | true =>
                go_wp2
                go_ret
                exact ⟨by rw [HFF.out]; rfl, HEr.out⟩
              | false =>
                cases b6 with
                | true =>
                  go_wp2
                  go_ret
                  exact ⟨by rw [HFF.out]; rfl, HEr.out⟩
                | false =>
                  go_wp2
                  go_ret
                  exact ⟨by rw [HFF.out]; rfl, HEr.out⟩
            | false =>
              go_wp2
              go_ret
              exact ⟨by rw [HFF.out]; rfl, HEr.out⟩
        | false =>
          go_wp2
          go_ret
          exact ⟨by rw [HFF.out]; rfl, HEr.out⟩
end
end Go.Proofs.YtdgppdiickmofaaGreatDoor
