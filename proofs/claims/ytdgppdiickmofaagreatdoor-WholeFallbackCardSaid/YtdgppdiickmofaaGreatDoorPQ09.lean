/- The program's tags: tags in memory, Valid. -/
import Derived.Test.YtdgppdiickmofaaGreatDoorPQ07
import Derived.Test.YtdgppdiickmofaaGreatDoorPQ08
namespace Go.Proofs.YtdgppdiickmofaaGreatDoor
open Go.RowKit
set_option maxRecDepth 100000
/-- A tag in memory: the slice of its variants. -/
structure TgW (w : World) (h : SlH) (t : Tg) : Prop where
  sl : SlC strF 1 w h.A h.m (t.vars.map str)
  cap : h.m ≤ h.c
  n : t.vars.length ≤ 1000
  sz : ∀ x ∈ t.vars, x.length ≤ 1000
  ln : t.lang.length ≤ 1000
  sn : t.scr.length ≤ 1000
  rn : t.reg.length ≤ 1000
abbrev tgV (h : SlH) (t : Tg) : Value := .agg #[.string (str t.lang), .string (str t.scr), .string (str t.reg), .slice h.A h.m h.c]
theorem TgW.ext {w w' : World} {h : SlH} {t : Tg} (hh : TgW w h t) (hE : Ext w w') : TgW w' h t := ⟨hh.sl.ext hE, hh.cap, hh.n, hh.sz, hh.ln, hh.sn, hh.rn⟩
theorem ascP_iff : ∀ {l : List (List UInt8)}, ascP l = true ↔ ∀ j (h : j + 1 < l.length), Op.bytesLess l[j] l[j + 1] = true
  | [] => ⟨fun _ j h => absurd h (by simp), fun _ => rfl⟩
  | [a] => ⟨fun _ j h => absurd h (by simp), fun _ => rfl⟩
  | a :: b :: r => by
    rw [show ascP (a :: b :: r) = (Op.bytesLess a b && ascP (b :: r)) from rfl, Bool.and_eq_true, ascP_iff]
    constructor
    · rintro ⟨h1, h2⟩ j hj
      cases j with
      | zero => exact h1
      | succ j => exact h2 j (by simpa using hj)
    · intro h
      exact ⟨h 0 (by simp), fun j hj => h (j + 1) (by simpa using hj)⟩
theorem str_toList (l : List UInt8) : (str l).toList = l := by
  rw [ByteArray.toList_eq]
  rfl
/-- The variants so far are valid, in order. -/
def VarOk (t : Tg) (q : Nat) : Prop := ∀ j (_ : j < q) (h : j < t.vars.length), varP t.vars[j] = true ∧ (0 < j → Op.bytesLess t.vars[j - 1] t.vars[j] = true)
theorem VarOk.all {t : Tg} (h : VarOk t t.vars.length) : t.vars.all varP = true ∧ ascP t.vars = true :=
  ⟨List.all_eq_true.2 fun x hx => by
    obtain ⟨j, hj, rfl⟩ := List.getElem_of_mem hx
    exact (h j hj hj).1, ascP_iff.2 fun j hj => (h (j + 1) hj hj).2 (by omega)⟩
theorem VarOk.of {t : Tg} (h : validT t = true) (q : Nat) : VarOk t q := fun j _ hj => by
  obtain ⟨h1, h2, _⟩ := valid_parts h
  refine ⟨h1 _ (List.getElem_mem hj), fun h0 => ?_⟩
  have := ascP_iff.1 h2 (j - 1) (by omega)
  simpa only [show j - 1 + 1 = j by omega] using this
section
variable {w : World}
set_option maxHeartbeats 3200000 in
theorem tvalid_any {h : SlH} {t : Tg} (hs : TgW w h t) :
    Calls Tryz.prog 74 #[tgV h t] w fun e w' => e = .returned (.bool (validT t)) ∧ Ext w w' := by
  obtain ⟨A, m, c⟩ := h
  obtain ⟨lang, hla⟩ : ∃ x, x = str t.lang := ⟨_, rfl⟩
  obtain ⟨scr, hsc⟩ : ∃ x, x = str t.scr := ⟨_, rfl⟩
  obtain ⟨reg, hrg⟩ : ∃ x, x = str t.reg := ⟨_, rfl⟩
  unfold tgV
  rw [← hla, ← hsc, ← hrg]
  have HL : Hid (m = t.vars.length) := by have := hs.sl.len; rw [List.length_map] at this; exact this
  have hn : m ≤ 1000 := by have := hs.n; have := HL.out; omega
  have HLA := Lib.hid hla
  have HSC := Lib.hid hsc
  have HRG := Lib.hid hrg
  have HS := Lib.hid hs
  clear hla hsc hrg hs
  dsimp only
  go_enter Tryz.func74, Tryz.ntmps74
  have hB := Blk.new w 108 #[.string lang, .string scr, .string reg, .slice A m c]
  have hE0 : Ext w (w.alloc (.cells #[.string lang, .string scr, .string reg, .slice A m c] 108)) := (Ext.refl w).alloc _
  go_wp2
  go_loopw [3, 4, 8] (fun _ _ i wr => ∃ q : Nat, q ≤ m ∧ i = .int .i64 q ∧ wr = w.alloc (.cells #[.string lang, .string scr, .string reg, .slice A m c] 108) ∧ Hid (VarOk t q)) (fun _ _ i _ => m - (intOf i).toNat)
  case atStart => exact ⟨0, Nat.zero_le _, rfl, rfl, fun j hj _ => absurd hj (by omega)⟩
  case round =>
    obtain ⟨q, hq, rfl, rfl, HC⟩ := hrel
    by_cases hlt : q < m
    · obtain ⟨b, off, e0, hbl, hcs⟩ := (HS.out.sl.ext hE0).at_ hlt (by omega)
      dsimp only at e0
      subst e0
      have hlt1 : q < t.vars.length := by rw [← HL.out]; exact hlt
      have hlt2 : q < (t.vars.map str).length := by rw [List.length_map]; exact hlt1
      obtain ⟨v, hv⟩ : ∃ v, v = str t.vars[q] := ⟨_, rfl⟩
      have x0 := hcs q hlt2 0 (by omega)
      simp only [List.getElem_map, ← hv, strF, List.getElem_cons_zero, Nat.mul_one, Nat.add_zero] at x0
      have hi1 : (q : Int) < (m : Int) := by omega
      have HCS := Lib.hid hcs
      have HV := Lib.hid hv
      have hvs : v.size ≤ 140737488351232 := by rw [hv, str_size]; have := HS.out.sz _ (List.getElem_mem hlt1); omega
      obtain ⟨cv, hcv⟩ : ∃ c, c = varP t.vars[q] := ⟨_, rfl⟩
      have hK := variant_any (w := w.alloc (.cells #[.string lang, .string scr, .string reg, .slice (some ⟨b, off, none⟩) m c] 108)) v hvs
      rw [show bys v = t.vars[q] by rw [hv, bys_str], ← hcv] at hK
      have HK := Lib.hid hK
      have HCV := Lib.hid hcv
      clear hcs hv hK hcv
      cases cv with
      | false =>
        have HF : Hid (validT t = false) := by
          show _ = _
          cases hvt : validT t with
          | false => rfl
          | true =>
            have := (VarOk.of hvt (q + 1) q (by omega) hlt1).1
            rw [← HCV.out] at this
            cases this
        go_wp2_with (first
          | (go_at_call 94; refine Hid.out ?_))
        refine Hid.mk_ ((HK.out).mono ?_)
        rintro e w2 ⟨rfl, rfl⟩
        go_wp2
        go_ret
        exact ⟨by rw [HF.out]; first | done | rfl, hE0⟩
      | true =>
        by_cases h0 : q = 0
        · have h0i : ¬ (0 : Int) < (q : Int) := by omega
          have HN : Hid (VarOk t (q + 1)) := fun j hj h => by
            rcases Nat.lt_or_ge j q with h2 | h2
            · exact HC.out j h2 h
            · obtain rfl : j = q := by omega
              exact ⟨HCV.out.symm, fun h3 => by omega⟩
          clear h0
          go_wp2_with (first
            | (go_at_call 94; refine Hid.out ?_))
          refine Hid.mk_ ((HK.out).mono ?_)
          rintro e w2 ⟨rfl, rfl⟩
          go_wp2
          go_roundw
          case rel => exact ⟨q + 1, by omega, by go_num, by first | trivial | rfl, HN⟩
          case measure => simp [intOf]; omega
        · have h0i : (0 : Int) < (q : Int) := by omega
          obtain ⟨p, hp⟩ : ∃ p, p = q - 1 := ⟨_, rfl⟩
          have hpi : (q : Int) - 1 = (p : Int) := by omega
          have hpl : p < t.vars.length := by omega
          have hpm : (p : Int) < (m : Int) := by omega
          obtain ⟨u, hu⟩ : ∃ u, u = str t.vars[p] := ⟨_, rfl⟩
          have x1 := HCS.out p (by rw [List.length_map]; exact hpl) 0 (by omega)
          simp only [List.getElem_map, ← hu, strF, List.getElem_cons_zero, Nat.mul_one, Nat.add_zero] at x1
          have HP : Hid (Op.bytesLess t.vars[p] t.vars[q] = Op.bytesLess u.toList v.toList) := by
            show _ = _
            rw [hu, HV.out, str_toList, str_toList]
          have HPQ := Lib.hid hp
          clear hu hp
          cases hb : Op.bytesLess u.toList v.toList with
          | true =>
            have hb1 : Op.bytesLess v.toList u.toList = false := bO_asym hb
            have hb2 : (v.toList == u.toList) = false := by
              rw [beq_eq_false_iff_ne]
              intro e
              rw [e, bl_irrefl] at hb
              cases hb
            have HN : Hid (VarOk t (q + 1)) := fun j hj h => by
              rcases Nat.lt_or_ge j q with h2 | h2
              · exact HC.out j h2 h
              · obtain rfl : j = q := by omega
                refine ⟨HCV.out.symm, fun h3 => ?_⟩
                have e := HP.out
                simp only [HPQ.out] at e
                rw [e]
                exact hb
            clear h0
            go_wp2_with (first
              | (go_at_call 94; refine Hid.out ?_))
            refine Hid.mk_ ((HK.out).mono ?_)
            rintro e w2 ⟨rfl, rfl⟩
            go_wp2
            go_roundw
            case rel => exact ⟨q + 1, by omega, by go_num, by first | trivial | rfl, HN⟩
            case measure => simp [intOf]; omega
          | false =>
            have HF : Hid (validT t = false) := by
              show _ = _
              cases hvt : validT t with
              | false => rfl
              | true =>
                have := (VarOk.of hvt (q + 1) q (by omega) hlt1).2 (by omega)
                have e := HP.out
                simp only [HPQ.out] at e
                rw [e, hb] at this
                cases this
            have hb3 : (Op.bytesLess v.toList u.toList || (v.toList == u.toList)) = true := by
              rw [le_not]
              show (!Op.bytesLess u.toList v.toList) = true
              rw [hb]
              rfl
            have hb4 : Op.bytesLess v.toList u.toList = true ∨ v = u := by
              rw [Bool.or_eq_true] at hb3
              exact hb3.imp id fun h => by rw [beq_iff_eq] at h; exact toList_iff.1 h
            go_wp2_with (first
              | (go_at_call 94; refine Hid.out ?_))
            refine Hid.mk_ ((HK.out).mono ?_)
            rintro e w2 ⟨rfl, rfl⟩
            go_wp2
            go_ret
            exact ⟨by rw [HF.out]; first | done | rfl, hE0⟩
    · have hi1 : ¬ (q : Int) < (m : Int) := by omega
      have HN := Lib.hid (VarOk.all (t := t) (by have h := HC.out; rw [show q = t.vars.length by have := HL.out; omega] at h; exact h))
      have hls : lang.size ≤ 140737488351232 := by rw [HLA.out, str_size]; have := HS.out.ln; omega
      have hss : scr.size ≤ 140737488351232 := by rw [HSC.out, str_size]; have := HS.out.sn; omega
      have hrs : reg.size ≤ 140737488351232 := by rw [HRG.out, str_size]; have := HS.out.rn; omega
      have HV : Hid (validT t = (langP t.lang && ((t.scr.isEmpty || scrP t.scr) && ((t.reg.isEmpty || regP t.reg) && decide (m ≤ 4))))) := by
        show _ = _
        unfold validT
        rw [HN.out.1, HN.out.2, ← HL.out]
        rfl
      have HM : Hid ((m : Int) ≤ 4 ↔ m ≤ 4) := by show _ ↔ _; omega
      have K1 := language_any (w := w.alloc (.cells #[.string lang, .string scr, .string reg, .slice A m c] 108)) lang hls
      have K2 := script_any (w := w.alloc (.cells #[.string lang, .string scr, .string reg, .slice A m c] 108)) scr hss
      have K3 := region_any (w := w.alloc (.cells #[.string lang, .string scr, .string reg, .slice A m c] 108)) reg hrs
      rw [show bys lang = t.lang by rw [HLA.out, bys_str]] at K1
      rw [show bys scr = t.scr by rw [HSC.out, bys_str]] at K2
      rw [show bys reg = t.reg by rw [HRG.out, bys_str]] at K3
      have HSE : Hid (t.scr.isEmpty = true ↔ scr.toList = []) := by
        show _ ↔ _
        rw [List.isEmpty_iff, HSC.out, str_toList]
      have HRE : Hid (t.reg.isEmpty = true ↔ reg.toList = []) := by
        show _ ↔ _
        rw [List.isEmpty_iff, HRG.out, str_toList]
      obtain ⟨c1, h1⟩ : ∃ c, c = langP t.lang := ⟨_, rfl⟩
      obtain ⟨c2, h2⟩ : ∃ c, c = scrP t.scr := ⟨_, rfl⟩
      obtain ⟨c3, h3⟩ : ∃ c, c = regP t.reg := ⟨_, rfl⟩
      obtain ⟨d2, g2⟩ : ∃ c, c = t.scr.isEmpty := ⟨_, rfl⟩
      obtain ⟨d3, g3⟩ : ∃ c, c = t.reg.isEmpty := ⟨_, rfl⟩
      rw [← h1] at K1
      rw [← h2] at K2
      rw [← h3] at K3
      rw [← g2] at HSE
      rw [← g3] at HRE
      rw [← h1, ← h2, ← h3, ← g2, ← g3] at HV
      have K1 := Lib.hid K1
      have K2 := Lib.hid K2
      have K3 := Lib.hid K3
      clear h1 h2 h3 g2 g3 hls hss hrs HN
      cases c1 with
      | false =>
        go_wp2_with (first
          | (go_at_call 89; refine Hid.out ?_))
        refine Hid.mk_ ((K1.out).mono ?_)
        rintro e w2 ⟨rfl, rfl⟩
        go_wp2
        go_ret
        exact ⟨by rw [HV.out]; rfl, hE0⟩
      | true =>
        cases d2 with
        | true =>
          have e2 : scr.toList = [] := HSE.out.1 rfl
          cases d3 with
          | true =>
            have e3 : reg.toList = [] := HRE.out.1 rfl
            go_wp2_with (first
              | (go_at_call 89; refine Hid.out ?_))
            refine Hid.mk_ ((K1.out).mono ?_)
            rintro e w2 ⟨rfl, rfl⟩
            go_wp2
            go_ret
            refine ⟨?_, hE0⟩
            rw [HV.out]
            by_cases h4 : m ≤ 4
            · rw [decide_eq_true h4]
              show Ending.returned (Value.bool (decide _)) = _
              rw [decide_eq_true (HM.out.2 h4)]
              rfl
            · rw [decide_eq_false h4]
              show Ending.returned (Value.bool (decide _)) = _
              rw [decide_eq_false (fun e => h4 (HM.out.1 e))]
              rfl
          | false =>
            have e3 : ¬ reg.toList = [] := fun e => by cases HRE.out.2 e
            cases c3 with
            | false =>
              go_wp2_with (first
                | (go_at_call 89; refine Hid.out ?_))
              refine Hid.mk_ ((K1.out).mono ?_)
              rintro e w2 ⟨rfl, rfl⟩
              go_wp2_with (first
                | (go_at_call 93; refine Hid.out ?_))
              refine Hid.mk_ ((K3.out).mono ?_)
              rintro e w2 ⟨rfl, rfl⟩
              go_wp2
              go_ret
              exact ⟨by rw [HV.out]; rfl, hE0⟩
            | true =>
              go_wp2_with (first
                | (go_at_call 89; refine Hid.out ?_))
              refine Hid.mk_ ((K1.out).mono ?_)
              rintro e w2 ⟨rfl, rfl⟩
              go_wp2_with (first
                | (go_at_call 93; refine Hid.out ?_))
              refine Hid.mk_ ((K3.out).mono ?_)
              rintro e w2 ⟨rfl, rfl⟩
              go_wp2
              go_ret
              refine ⟨?_, hE0⟩
              rw [HV.out]
              by_cases h4 : m ≤ 4
              · rw [decide_eq_true h4]
                show Ending.returned (Value.bool (decide _)) = _
                rw [decide_eq_true (HM.out.2 h4)]
                rfl
              · rw [decide_eq_false h4]
                show Ending.returned (Value.bool (decide _)) = _
                rw [decide_eq_false (fun e => h4 (HM.out.1 e))]
                rfl
        | false =>
          have e2 : ¬ scr.toList = [] := fun e => by cases HSE.out.2 e
          cases c2 with
          | false =>
            go_wp2_with (first
              | (go_at_call 89; refine Hid.out ?_))
            refine Hid.mk_ ((K1.out).mono ?_)
            rintro e w2 ⟨rfl, rfl⟩
            go_wp2_with (first
              | (go_at_call 91; refine Hid.out ?_))
            refine Hid.mk_ ((K2.out).mono ?_)
            rintro e w2 ⟨rfl, rfl⟩
            go_wp2
            go_ret
            exact ⟨by rw [HV.out]; rfl, hE0⟩
          | true =>
            cases d3 with
            | true =>
              have e3 : reg.toList = [] := HRE.out.1 rfl
              go_wp2_with (first
                | (go_at_call 89; refine Hid.out ?_))
              refine Hid.mk_ ((K1.out).mono ?_)
              rintro e w2 ⟨rfl, rfl⟩
              go_wp2_with (first
                | (go_at_call 91; refine Hid.out ?_))
              refine Hid.mk_ ((K2.out).mono ?_)
              rintro e w2 ⟨rfl, rfl⟩
              go_wp2
              go_ret
              refine ⟨?_, hE0⟩
              rw [HV.out]
              by_cases h4 : m ≤ 4
              · rw [decide_eq_true h4]
                show Ending.returned (Value.bool (decide _)) = _
                rw [decide_eq_true (HM.out.2 h4)]
                rfl
              · rw [decide_eq_false h4]
                show Ending.returned (Value.bool (decide _)) = _
                rw [decide_eq_false (fun e => h4 (HM.out.1 e))]
                rfl
            | false =>
              have e3 : ¬ reg.toList = [] := fun e => by cases HRE.out.2 e
              cases c3 with
              | false =>
                go_wp2_with (first
                  | (go_at_call 89; refine Hid.out ?_))
                refine Hid.mk_ ((K1.out).mono ?_)
                rintro e w2 ⟨rfl, rfl⟩
                go_wp2_with (first
                  | (go_at_call 91; refine Hid.out ?_))
                refine Hid.mk_ ((K2.out).mono ?_)
                rintro e w2 ⟨rfl, rfl⟩
                go_wp2_with (first
                  | (go_at_call 93; refine Hid.out ?_))
                refine Hid.mk_ ((K3.out).mono ?_)
                rintro e w2 ⟨rfl, rfl⟩
                go_wp2
                go_ret
                exact ⟨by rw [HV.out]; rfl, hE0⟩
              | true =>
                go_wp2_with (first
                  | (go_at_call 89; refine Hid.out ?_))
                refine Hid.mk_ ((K1.out).mono ?_)
                rintro e w2 ⟨rfl, rfl⟩
                go_wp2_with (first
                  | (go_at_call 91; refine Hid.out ?_))
                refine Hid.mk_ ((K2.out).mono ?_)
                rintro e w2 ⟨rfl, rfl⟩
                go_wp2_with (first
                  | (go_at_call 93; refine Hid.out ?_))
                refine Hid.mk_ ((K3.out).mono ?_)
                rintro e w2 ⟨rfl, rfl⟩
                go_wp2
                go_ret
                refine ⟨?_, hE0⟩
                rw [HV.out]
                by_cases h4 : m ≤ 4
                · rw [decide_eq_true h4]
                  show Ending.returned (Value.bool (decide _)) = _
                  rw [decide_eq_true (HM.out.2 h4)]
                  rfl
                · rw [decide_eq_false h4]
                  show Ending.returned (Value.bool (decide _)) = _
                  rw [decide_eq_false (fun e => h4 (HM.out.1 e))]
                  rfl
end
end Go.Proofs.YtdgppdiickmofaaGreatDoor
