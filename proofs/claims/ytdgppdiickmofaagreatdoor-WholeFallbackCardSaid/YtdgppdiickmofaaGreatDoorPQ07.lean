/- The program's tags: scripts, variants, small and capital letters. -/
import Derived.Test.YtdgppdiickmofaaGreatDoorPQ05
import Derived.Test.YtdgppdiickmofaaGreatDoorPQ06
namespace Go.Proofs.YtdgppdiickmofaaGreatDoor
open Go.RowKit
set_option maxRecDepth 100000
section
variable {w w' : World} {b C : Nat} {l : List UInt8}
theorem tbys_extract (s : ByteArray) (i j : Nat) : bys (s.extract i j) = ((bys s).take j).drop i := by
  unfold bys
  rw [ByteArray.data_extract, Array.toList_extract]
  simp [List.extract, List.drop_take]
theorem CvB.set_ (h : CvB w b C l) {q : Nat} (hq : q < l.length) (hC : l.length ≤ C) (x : UInt8) : CvB (w.setCell ⟨b, q, none⟩ (bv x)) b C (l.set q x) := by
  refine ⟨?_, fun j hj => ?_, fun j hj => ?_, fun j hj => ?_⟩
  · rw [show (w.setCell ⟨b, q, none⟩ (bv x)).heap.size = w.heap.size by simp [World.setCell]]; exact h.lt
  · rw [List.length_set] at hj
    rw [List.getElem_set]
    split
    · rename_i e
      subst e
      exact World.cell?_setCell_same' _ _ _ (h.there q (by omega))
    · rename_i e
      rw [World.cell?_setCell_other _ _ _ _ (by intro e2; injection e2 with _ e2; exact e e2)]
      exact h.at_ j hj
  · by_cases e : j = q
    · subst e
      rw [World.cell?_setCell_same' _ _ _ (h.there j hj)]
      rfl
    · rw [World.cell?_setCell_other _ _ _ _ (by intro e2; injection e2 with _ e2; exact e e2.symm)]
      exact h.there j hj
  · rw [World.frozen?_setCell]
    exact h.free j hj
theorem CvB.sl (h : CvB w b C l) (hl : l.length ≤ 140737488355328) {n : Nat} (hn : n = l.length) : SlB w (some ⟨b, 0, none⟩) n l := by
  refine ⟨⟨by simp [hn], fun _ => ⟨_, rfl, h.lt, fun j u hj => ?_⟩⟩, hn, by omega⟩
  rw [List.getElem?_map] at hj
  obtain ⟨y, hy, rfl⟩ := Option.map_eq_some_iff.1 hj
  obtain ⟨hjl, rfl⟩ := List.getElem?_eq_some_iff.1 hy
  rw [Addr.add_lit, Nat.zero_add]
  exact h.at_ j hjl
set_option maxHeartbeats 1600000 in
theorem script_any (s : ByteArray) (_hs : s.size ≤ 140737488351232) : Calls Tryz.prog 91 #[.string s] w fun e w' => e = .returned (.bool (scrP (bys s))) ∧ w = w' := by
  have hbl := bys_len s
  by_cases h4 : s.size = 4
  · have h4i : (s.size : Int) = 4 := by omega
    have hlt : 0 < s.size := by omega
    have hi : (0 : Int) < (s.size : Int) := by omega
    obtain ⟨c0, h0⟩ : ∃ c, c = cpB (s[0]'hlt) := ⟨_, rfl⟩
    have HL : Hid (scrP (bys s) = (c0 && (bys (s.extract 1 s.size)).all smB)) := by
      show _ = _
      unfold scrP
      rw [tbys_extract, List.take_of_length_le (by omega), decide_eq_true (show (bys s).length = 4 by omega), Bool.true_and, h0]
      have e : (bys s).head? = some (s[0]'hlt) := by
        rw [List.head?_eq_getElem?, List.getElem?_eq_getElem (by omega)]
        rfl
      rw [e]
      rfl
    have HK := Lib.hid (capital_any (w := w) (s[0]'hlt))
    rw [← h0] at HK
    clear h0
    have hxs : (s.extract 1 s.size).size ≤ 140737488351232 := by simp; omega
    have hi1 : (1 : Int) ≤ (s.size : Int) := by omega
    have HA := Lib.hid (all_sm (w := w) (s.extract 1 s.size) hxs)
    clear h4 hbl
    cases c0 with
    | true =>
      go_enter Tryz.func91, Tryz.ntmps91
      go_wp2_with (first
        | (go_at_call 140; refine Hid.out ?_))
      refine Hid.mk_ ((HK.out).mono ?_)
      rintro e w2 ⟨rfl, rfl⟩
      go_wp2_with (first
        | (go_at_call 138; refine Hid.out ?_))
      refine Hid.mk_ ((HA.out).mono ?_)
      rintro e w2 ⟨rfl, rfl⟩
      go_wp2
      go_ret
      exact ⟨by rw [HL.out, Bool.true_and]; rfl, rfl⟩
    | false =>
      go_enter Tryz.func91, Tryz.ntmps91
      go_wp2_with (first
        | (go_at_call 140; refine Hid.out ?_))
      refine Hid.mk_ ((HK.out).mono ?_)
      rintro e w2 ⟨rfl, rfl⟩
      go_wp2
      go_ret
      exact ⟨by rw [HL.out, Bool.false_and]; rfl, rfl⟩
  · have h4i : ¬ (s.size : Int) = 4 := by omega
    have HL : Hid (scrP (bys s) = false) := by
      show _ = _
      unfold scrP
      rw [decide_eq_false (show ¬ (bys s).length = 4 by omega), Bool.false_and]
    go_enter Tryz.func91, Tryz.ntmps91
    go_wp2
    go_ret
    exact ⟨by rw [HL.out]; rfl, rfl⟩
set_option maxHeartbeats 1600000 in
theorem variant_any (s : ByteArray) (hs : s.size ≤ 140737488351232) : Calls Tryz.prog 94 #[.string s] w fun e w' => e = .returned (.bool (varP (bys s))) ∧ w = w' := by
  have HV : Hid (varP (bys s) = ((bys s).all eiB && ((decide (5 ≤ s.size) && decide (s.size ≤ 8)) || (decide (s.size = 4) && ((bys s).head?.map dgB).getD false)))) := by
    show _ = _
    unfold varP
    rw [bys_len]
  have HA0 := Lib.hid (all_ei (w := w) s hs)
  obtain ⟨ca, hca⟩ : ∃ c, c = (bys s).all eiB := ⟨_, rfl⟩
  have HA : Hid (Calls Tryz.prog 138 #[.string s, .func (.func 142) #[] #[]] w fun e w' => e = .returned (.bool ca) ∧ w = w') := by show Calls _ _ _ _ _; rw [hca]; exact HA0.out
  rw [← hca] at HV
  clear HA0 hca
  cases ca with
  | false =>
    go_enter Tryz.func94, Tryz.ntmps94
    go_wp2_with (first
      | (go_at_call 138; refine Hid.out ?_))
    refine Hid.mk_ ((HA.out).mono ?_)
    rintro e w2 ⟨rfl, rfl⟩
    go_wp2
    go_ret
    exact ⟨by rw [HV.out, Bool.false_and]; rfl, rfl⟩
  | true =>
    by_cases h5 : 5 ≤ s.size
    · have h5i : (5 : Int) ≤ (s.size : Int) := by omega
      have h4 : ¬ s.size = 4 := by omega
      have h4i : ¬ (s.size : Int) = 4 := by omega
      by_cases h8 : s.size ≤ 8
      · have h8i : (s.size : Int) ≤ 8 := by omega
        go_enter Tryz.func94, Tryz.ntmps94
        go_wp2_with (first
          | (go_at_call 138; refine Hid.out ?_))
        refine Hid.mk_ ((HA.out).mono ?_)
        rintro e w2 ⟨rfl, rfl⟩
        go_wp2
        go_ret
        exact ⟨by rw [HV.out, decide_eq_true h5, decide_eq_true h8]; rfl, rfl⟩
      · have h8i : ¬ (s.size : Int) ≤ 8 := by omega
        go_enter Tryz.func94, Tryz.ntmps94
        go_wp2_with (first
          | (go_at_call 138; refine Hid.out ?_))
        refine Hid.mk_ ((HA.out).mono ?_)
        rintro e w2 ⟨rfl, rfl⟩
        go_wp2
        go_ret
        refine ⟨?_, rfl⟩
        rw [HV.out, decide_eq_true h5, decide_eq_false h8, decide_eq_false h4]
        show Ending.returned (Value.bool (decide _)) = _
        rw [decide_eq_false (show ¬ ((s.size : Int) ≤ 8) by omega)]
        rfl
    · have h5i : ¬ (5 : Int) ≤ (s.size : Int) := by omega
      by_cases h4 : s.size = 4
      · have h4i : (s.size : Int) = 4 := by omega
        have hlt : 0 < s.size := by omega
        have hi : (0 : Int) < (s.size : Int) := by omega
        obtain ⟨c0, h0⟩ : ∃ c, c = dgB (s[0]'hlt) := ⟨_, rfl⟩
        have HD := Lib.hid (digit_any (w := w) (s[0]'hlt))
        have HE : Hid (((bys s).head?.map dgB).getD false = c0) := by
          show _ = _
          have e : (bys s).head? = some (s[0]'hlt) := by
            rw [List.head?_eq_getElem?, List.getElem?_eq_getElem (by rw [bys_len]; omega)]
            rfl
          rw [e, h0]
          rfl
        rw [← h0] at HD
        clear h0
        go_enter Tryz.func94, Tryz.ntmps94
        go_wp2_with (first
          | (go_at_call 138; refine Hid.out ?_))
        refine Hid.mk_ ((HA.out).mono ?_)
        rintro e w2 ⟨rfl, rfl⟩
        go_wp2_with (first
          | (go_at_call 141; refine Hid.out ?_))
        refine Hid.mk_ ((HD.out).mono ?_)
        rintro e w2 ⟨rfl, rfl⟩
        go_wp2
        go_ret
        exact ⟨by rw [HV.out, HE.out, decide_eq_false h5, decide_eq_true h4, Bool.false_and, Bool.false_or, Bool.true_and, Bool.true_and]; rfl, rfl⟩
      · have h4i : ¬ (s.size : Int) = 4 := by omega
        go_enter Tryz.func94, Tryz.ntmps94
        go_wp2_with (first
          | (go_at_call 138; refine Hid.out ?_))
        refine Hid.mk_ ((HA.out).mono ?_)
        rintro e w2 ⟨rfl, rfl⟩
        go_wp2
        go_ret
        exact ⟨by rw [HV.out, decide_eq_false h5, decide_eq_false h4]; rfl, rfl⟩
end
end Go.Proofs.YtdgppdiickmofaaGreatDoor

/- The program's tags: small and capital letters. -/
namespace Go.Proofs.YtdgppdiickmofaaGreatDoor
open Go.RowKit
set_option maxRecDepth 100000
theorem loB_at {x : UInt8} (h : cpB x = true) {z : Nat} (hz : z = x.toNat) : bv (loB x) = .int .u8 ((z : Int) + 97 - 65) := by
  unfold loB bv
  rw [if_pos h]
  unfold cpB at h
  simp only [Bool.and_eq_true, decide_eq_true_eq] at h
  congr 1
  have e : (x + 32).toNat = x.toNat + 32 := by
    rw [UInt8.toNat_add, show (32 : UInt8).toNat = 32 from rfl]
    have := h.2
    omega
  rw [e]
  omega
theorem upB_at {x : UInt8} (h : smB x = true) {z : Nat} (hz : z = x.toNat) : bv (upB x) = .int .u8 ((z : Int) - 97 + 65) := by
  unfold upB bv
  rw [if_pos h]
  unfold smB at h
  simp only [Bool.and_eq_true, decide_eq_true_eq] at h
  congr 1
  have e : (x - 32).toNat = x.toNat - 32 := by
    rw [UInt8.toNat_sub]
    have := x.toNat_lt
    simp
    omega
  rw [e]
  omega
section
variable {w : World}
set_option maxHeartbeats 3200000 in
theorem lower_any (s : ByteArray) (hs : s.size ≤ 140737488351232) : Calls Tryz.prog 90 #[.string s] w fun e w' => e = .returned (.string (str ((bys s).map loB))) ∧ Ext w w' := by
  have HL : Hid ((bys s).length = s.size) := bys_len s
  obtain ⟨C, W, hrun, hEW, hcb, hC⟩ := conv3 s w
  go_enter Tryz.func90, Tryz.ntmps90
  go_wp2
  go_loopw [10] (fun i wr => ∃ (q : Nat) (L : List UInt8), q ≤ s.size ∧ i = .int .i64 q ∧ Hid (CvB wr w.heap.size C L) ∧ Ext w wr ∧ L.length = s.size ∧ (∀ j (h : j < L.length) (h2 : j < (bys s).length), L[j] = if j < q then loB (bys s)[j] else (bys s)[j])) (fun i _ => s.size - (intOf i).toNat)
  case atStart => exact ⟨0, bys s, Nat.zero_le _, rfl, Lib.hid hcb, hEW, HL.out, fun j _ _ => by rw [if_neg (by omega)]⟩
  case round =>
    obtain ⟨q, L, hq, rfl, HCB, hE, hLn, hL⟩ := hrel
    have HLL := Lib.hid hL
    have HLN := Lib.hid hLn
    clear hL hLn
    by_cases hlt : q < s.size
    · have hi1 : (q : Int) < (s.size : Int) := by omega
      have hi2 : ¬ (q : Int) < 0 := by omega
      have hlL : q < L.length := by rw [HLN.out]; exact hlt
      have hlB : q < (bys s).length := by rw [HL.out]; exact hlt
      obtain ⟨x, hx⟩ : ∃ x, x = (bys s)[q] := ⟨_, rfl⟩
      have hLx : L[q] = x := by rw [HLL.out q hlL hlB, if_neg (by omega), hx]
      have hcell : wr.cell? ⟨w.heap.size, q, none⟩ = some (.int .u8 (x.toNat : Int)) := by
        have h := HCB.out.at_ q hlL
        rw [hLx] at h
        exact h
      have HX := Lib.hid hx
      have HLX := Lib.hid hLx
      clear hx hLx
      obtain ⟨cx, hcx⟩ : ∃ c, c = cpB x := ⟨_, rfl⟩
      have HK := Lib.hid (capital_any (w := wr) x)
      rw [← hcx] at HK
      have HCX := Lib.hid hcx
      clear hcx
      obtain ⟨z, hz⟩ : ∃ z, z = x.toNat := ⟨_, rfl⟩
      rw [← hz] at HK hcell
      have hz256 : z < 256 := by rw [hz]; exact x.toNat_lt
      have HZ := Lib.hid hz
      clear hz
      have hfr : wr.frozen? ⟨w.heap.size, q, none⟩ = false := HCB.out.free q (by omega)
      cases cx with
      | true =>
        have hb : 65 ≤ z ∧ z ≤ 90 := by
          have h := HCX.out.symm
          unfold cpB at h
          simp only [Bool.and_eq_true, decide_eq_true_eq] at h
          rw [HZ.out]
          exact h
        obtain ⟨hb1, hb2⟩ := hb
        go_wp2_with (first
          | (go_at_call 140; refine Hid.out ?_))
        refine Hid.mk_ ((HK.out).mono ?_)
        rintro e w2 ⟨rfl, rfl⟩
        go_wp2
        go_roundw
        case rel =>
          refine ⟨q + 1, L.set q (loB x), by omega, by rw [Int.natCast_succ], ?_, hE.set_ (Nat.le_refl _) _, by rw [List.length_set]; exact HLN.out, fun j hj h2 => ?_⟩
          · rw [← loB_at HCX.out.symm HZ.out]
            exact Lib.hid (HCB.out.set_ hlL (by rw [HLN.out]; omega) _)
          · rw [List.length_set] at hj
            rw [List.getElem_set]
            split
            · rename_i e
              subst e
              rw [if_pos (by omega), ← HX.out]
            · rename_i e
              rw [HLL.out j hj h2]
              by_cases hjq : j < q
              · rw [if_pos hjq, if_pos (by omega)]
              · rw [if_neg hjq, if_neg (by omega)]
        case measure => first | omega | (simp [intOf]; omega)
      | false =>
        go_wp2_with (first
          | (go_at_call 140; refine Hid.out ?_))
        refine Hid.mk_ ((HK.out).mono ?_)
        rintro e w2 ⟨rfl, rfl⟩
        go_wp2
        go_roundw
        case rel =>
          refine ⟨q + 1, L, by omega, by rw [Int.natCast_succ], HCB, hE, HLN.out, fun j hj h2 => ?_⟩
          rw [HLL.out j hj h2]
          by_cases hjq : j < q
          · rw [if_pos hjq, if_pos (by omega)]
          · rw [if_neg hjq]
            split
            · have e : j = q := by omega
              subst e
              rw [← HX.out]
              unfold loB
              rw [← HCX.out, if_neg (by decide)]
            · rfl
        case measure => first | omega | (simp [intOf]; omega)
    · have hi1 : ¬ (q : Int) < (s.size : Int) := by omega
      have hconv := conv_str (HCB.out.sl (by rw [HLN.out]; omega) HLN.out.symm) C
      have HEL : Hid (L = (bys s).map loB) := by
        show _ = _
        refine List.ext_getElem (by rw [List.length_map, HLN.out, HL.out]) fun j hj h2 => ?_
        rw [List.length_map] at h2
        rw [HLL.out j hj h2, List.getElem_map, if_pos (by have := HLN.out; omega)]
      go_wp2
      go_ret
      exact ⟨by rw [← HEL.out]; rfl, hE⟩
set_option maxHeartbeats 3200000 in
theorem upper_any (s : ByteArray) (hs : s.size ≤ 140737488351232) : Calls Tryz.prog 92 #[.string s] w fun e w' => e = .returned (.string (str ((bys s).map upB))) ∧ Ext w w' := by
  have HL : Hid ((bys s).length = s.size) := bys_len s
  obtain ⟨C, W, hrun, hEW, hcb, hC⟩ := conv3 s w
  go_enter Tryz.func92, Tryz.ntmps92
  go_wp2
  go_loopw [10] (fun i wr => ∃ (q : Nat) (L : List UInt8), q ≤ s.size ∧ i = .int .i64 q ∧ Hid (CvB wr w.heap.size C L) ∧ Ext w wr ∧ L.length = s.size ∧ (∀ j (h : j < L.length) (h2 : j < (bys s).length), L[j] = if j < q then upB (bys s)[j] else (bys s)[j])) (fun i _ => s.size - (intOf i).toNat)
  case atStart => exact ⟨0, bys s, Nat.zero_le _, rfl, Lib.hid hcb, hEW, HL.out, fun j _ _ => by rw [if_neg (by omega)]⟩
  case round =>
    obtain ⟨q, L, hq, rfl, HCB, hE, hLn, hL⟩ := hrel
    have HLL := Lib.hid hL
    have HLN := Lib.hid hLn
    clear hL hLn
    by_cases hlt : q < s.size
    · have hi1 : (q : Int) < (s.size : Int) := by omega
      have hi2 : ¬ (q : Int) < 0 := by omega
      have hlL : q < L.length := by rw [HLN.out]; exact hlt
      have hlB : q < (bys s).length := by rw [HL.out]; exact hlt
      obtain ⟨x, hx⟩ : ∃ x, x = (bys s)[q] := ⟨_, rfl⟩
      have hLx : L[q] = x := by rw [HLL.out q hlL hlB, if_neg (by omega), hx]
      have hcell : wr.cell? ⟨w.heap.size, q, none⟩ = some (.int .u8 (x.toNat : Int)) := by
        have h := HCB.out.at_ q hlL
        rw [hLx] at h
        exact h
      have HX := Lib.hid hx
      have HLX := Lib.hid hLx
      clear hx hLx
      obtain ⟨cx, hcx⟩ : ∃ c, c = smB x := ⟨_, rfl⟩
      have HK := Lib.hid (small_any (w := wr) x)
      rw [← hcx] at HK
      have HCX := Lib.hid hcx
      clear hcx
      obtain ⟨z, hz⟩ : ∃ z, z = x.toNat := ⟨_, rfl⟩
      rw [← hz] at HK hcell
      have hz256 : z < 256 := by rw [hz]; exact x.toNat_lt
      have HZ := Lib.hid hz
      clear hz
      have hfr : wr.frozen? ⟨w.heap.size, q, none⟩ = false := HCB.out.free q (by omega)
      cases cx with
      | true =>
        have hb : 97 ≤ z ∧ z ≤ 122 := by
          have h := HCX.out.symm
          unfold smB at h
          simp only [Bool.and_eq_true, decide_eq_true_eq] at h
          rw [HZ.out]
          exact h
        obtain ⟨hb1, hb2⟩ := hb
        go_wp2_with (first
          | (go_at_call 139; refine Hid.out ?_))
        refine Hid.mk_ ((HK.out).mono ?_)
        rintro e w2 ⟨rfl, rfl⟩
        go_wp2
        go_roundw
        case rel =>
          refine ⟨q + 1, L.set q (upB x), by omega, by rw [Int.natCast_succ], ?_, hE.set_ (Nat.le_refl _) _, by rw [List.length_set]; exact HLN.out, fun j hj h2 => ?_⟩
          · rw [← upB_at HCX.out.symm HZ.out]
            exact Lib.hid (HCB.out.set_ hlL (by rw [HLN.out]; omega) _)
          · rw [List.length_set] at hj
            rw [List.getElem_set]
            split
            · rename_i e
              subst e
              rw [if_pos (by omega), ← HX.out]
            · rename_i e
              rw [HLL.out j hj h2]
              by_cases hjq : j < q
              · rw [if_pos hjq, if_pos (by omega)]
              · rw [if_neg hjq, if_neg (by omega)]
        case measure => first | omega | (simp [intOf]; omega)
      | false =>
        go_wp2_with (first
          | (go_at_call 139; refine Hid.out ?_))
        refine Hid.mk_ ((HK.out).mono ?_)
        rintro e w2 ⟨rfl, rfl⟩
        go_wp2
        go_roundw
        case rel =>
          refine ⟨q + 1, L, by omega, by rw [Int.natCast_succ], HCB, hE, HLN.out, fun j hj h2 => ?_⟩
          rw [HLL.out j hj h2]
          by_cases hjq : j < q
          · rw [if_pos hjq, if_pos (by omega)]
          · rw [if_neg hjq]
            split
            · have e : j = q := by omega
              subst e
              rw [← HX.out]
              unfold upB
              rw [← HCX.out, if_neg (by decide)]
            · rfl
        case measure => first | omega | (simp [intOf]; omega)
    · have hi1 : ¬ (q : Int) < (s.size : Int) := by omega
      have hconv := conv_str (HCB.out.sl (by rw [HLN.out]; omega) HLN.out.symm) C
      have HEL : Hid (L = (bys s).map upB) := by
        show _ = _
        refine List.ext_getElem (by rw [List.length_map, HLN.out, HL.out]) fun j hj h2 => ?_
        rw [List.length_map] at h2
        rw [HLL.out j hj h2, List.getElem_map, if_pos (by have := HLN.out; omega)]
      go_wp2
      go_ret
      exact ⟨by rw [← HEL.out]; rfl, hE⟩
end
end Go.Proofs.YtdgppdiickmofaaGreatDoor
