/- The reference's checks of texts, flags, fields. -/
import Derived.Test.YtcdpmgdocgddcaaDoorRNames
import Derived.Test.YtcdpmgdocgddcaaDoorCatV
import Derived.Test.YtcdpmgdocgddcaaDoorRFew
import Derived.Test.YtcdpmgdocgddcaaDoorCatE
namespace Go.Proofs.YtcdpmgdocgddcaaDoor
open Go.RowKit
set_option maxRecDepth 100000
attribute [local go_sem] ext_refl_t ext_alloc_t ext_drew_t ext_drewN_t ext_alloc2_t ext_alloc3_t ext_alloc4_t ext_alloc5_t ext_alloc6_t ext_alloc7_t ext_alloc8_t ext_alloc1d_t ext_alloc2d_t ext_alloc3d_t ext_alloc4d_t
section
variable {w : World}
set_option maxHeartbeats 1600000 in
theorem rtexts_any {h : SlH} {l : List ByteArray} (hs : StrsW w h l) :
    Calls Tryd.prog 55 #[.slice h.A h.m h.c] w fun e w' => e = .returned (.bool (textsP l)) ∧ Ext w w' := by
  obtain ⟨A, m, c⟩ := h
  have HL := Lib.hid hs.sl.len
  have hle := hs.sl.le
  dsimp only at HL hle ⊢
  go_enter Tryd.func55, Tryd.ntmps55
  go_wp2
  go_loopw [3] (fun i wr => ∃ q : Nat, q ≤ m ∧ i = .int .i64 q ∧ Ext w wr ∧ Hid (∀ j (_ : j < q) (h : j < l.length), textL (bys l[j]) = true)) (fun i _ => m - (intOf i).toNat)
  case atStart => exact ⟨0, Nat.zero_le _, rfl, Ext.refl _, fun j hj _ => absurd hj (by omega)⟩
  case round =>
    obtain ⟨q, hq, rfl, hE, HC⟩ := hrel
    by_cases hlt : q < m
    · obtain ⟨b, off, e0, hbl, hcs⟩ := (hs.sl.ext hE).at_ hlt (by omega)
      dsimp only at e0
      subst e0
      have hlt1 : q < l.length := by rw [← HL.out]; exact hlt
      obtain ⟨s, hsq⟩ : ∃ s, s = l[q] := ⟨_, rfl⟩
      have x0 := hcs q hlt1 0 (by omega)
      simp only [← hsq, strF, List.getElem_cons_zero, Nat.mul_one, Nat.add_zero] at x0
      have hi1 : (q : Int) < (m : Int) := by omega
      have HS := Lib.hid hsq
      clear hcs hsq
      go_wp2_with (first
        | (go_at_call 57; refine Hid.out ?_))
      refine Hid.mk_ ((refText_any s).mono ?_)
      rintro e w2 ⟨rfl, hE2⟩
      cases ht : textL (bys s) with
      | true =>
        have HN : Hid (∀ j (_ : j < q + 1) (h : j < l.length), textL (bys l[j]) = true) := fun j hj h => by
          rcases Nat.lt_or_ge j q with h2 | h2
          · exact HC.out j h2 h
          · obtain rfl : j = q := by omega
            rw [← HS.out]; exact ht
        clear ht
        go_wp2
        go_roundw
        case rel => exact ⟨q + 1, by omega, by go_num, hE.trans hE2, HN⟩
        case measure => simp [intOf]; omega
      | false =>
        have HF : Hid (textsP l = false) := by
          show _ = _
          unfold textsP
          rw [decide_eq_false (show ¬ TxOk l from fun hall => by have := hall q hlt1; rw [← HS.out, ht] at this; cases this), Bool.and_false]
        clear ht
        go_wp2
        go_ret
        exact ⟨by rw [HF.out]; first | done | rfl, hE.trans hE2⟩
    · have hi1 : ¬ (q : Int) < (m : Int) := by omega
      have HN : Hid (TxOk l) := fun j hj => HC.out j (by have := HL.out; omega) hj
      by_cases h20 : m ≤ 20
      · have i1 : (m : Int) ≤ 20 := by omega
        have HF : Hid (textsP l = true) := by show _ = _; unfold textsP; rw [decide_eq_true HN.out, decide_eq_true (by have := HL.out; omega)]; rfl
        go_wp2
        go_ret
        exact ⟨by rw [HF.out]; first | done | rfl, hE⟩
      · have i1 : ¬ (m : Int) ≤ 20 := by omega
        have HF : Hid (textsP l = false) := by show _ = _; unfold textsP; rw [decide_eq_false (show ¬ l.length ≤ 20 by have := HL.out; omega), Bool.false_and]
        go_wp2
        go_ret
        exact ⟨by rw [HF.out]; first | done | rfl, hE⟩

set_option maxHeartbeats 3200000 in
theorem rflags_any {h : SlH} {l : List ByteArray} (hs : StrsW w h l) :
    Calls Tryd.prog 58 #[.slice h.A h.m h.c] w fun e w' => e = .returned (.bool (flagsP l)) ∧ Ext w w' := by
  obtain ⟨A, m, c⟩ := h
  have HL := Lib.hid hs.sl.len
  have hle := hs.sl.le
  have HG := Lib.hid hs.good
  dsimp only at HL hle ⊢
  go_enter Tryd.func58, Tryd.ntmps58
  go_wp2
  go_loopw [3] (fun i wr => ∃ q : Nat, q ≤ m ∧ i = .int .i64 q ∧ Ext w wr ∧ Hid (∀ j (_ : j < q) (h : j < l.length), nameL (bys l[j]) = true ∧ (0 < j → bO (l[j - 1]) l[j] = true))) (fun i _ => m - (intOf i).toNat)
  case atStart => exact ⟨0, Nat.zero_le _, rfl, Ext.refl _, fun j hj _ => absurd hj (by omega)⟩
  case round =>
    obtain ⟨q, hq, rfl, hE, HC⟩ := hrel
    by_cases hlt : q < m
    · obtain ⟨b, off, e0, hbl, hcs⟩ := (hs.sl.ext hE).at_ hlt (by omega)
      dsimp only at e0
      subst e0
      have hlt1 : q < l.length := by rw [← HL.out]; exact hlt
      obtain ⟨s, hsq⟩ : ∃ s, s = l[q] := ⟨_, rfl⟩
      have hgs := HG.out _ (List.getElem_mem hlt1)
      rw [← hsq] at hgs
      unfold GoodStr at hgs
      have hsz : s.size ≤ 140737488355328 := by omega
      have x0 := hcs q hlt1 0 (by omega)
      simp only [← hsq, strF, List.getElem_cons_zero, Nat.mul_one, Nat.add_zero] at x0
      have hi1 : (q : Int) < (m : Int) := by omega
      have HS := Lib.hid hsq
      have HBAD : Hid (¬ (nameL (bys s) = true ∧ (0 < q → bO (l[q - 1]) s = true)) → flagsP l = false) := fun hb => by
        unfold flagsP
        rw [decide_eq_false (fun hall => hb (by have := hall q hlt1; rw [← HS.out] at this; exact this)), Bool.false_and]
      have HGOOD : Hid (nameL (bys s) = true → (0 < q → bO (l[q - 1]) s = true) → ∀ j (_ : j < q + 1) (h : j < l.length), nameL (bys l[j]) = true ∧ (0 < j → bO (l[j - 1]) l[j] = true)) := fun h1 h2 j hj h => by
          rcases Nat.lt_or_ge j q with h3 | h3
          · exact HC.out j h3 h
          · obtain rfl : j = q := by omega
            rw [← HS.out]; exact ⟨h1, h2⟩
      have hprev : Hid (0 < q → ∃ p, p < l.length ∧ (q : Int) - 1 = (p : Int) ∧ p < m ∧ ∃ t, wr.cell? ⟨b, off + p, none⟩ = some (.string t) ∧ l[q - 1]'(by omega) = t) := fun h0 => by
        refine ⟨q - 1, by omega, by omega, by omega, (l[q - 1]'(by omega)), ?_, rfl⟩
        have x2 := hcs (q - 1) (by omega) 0 (by omega)
        simp only [strF, List.getElem_cons_zero, Nat.mul_one, Nat.add_zero] at x2
        exact x2
      have y0 := latersU x0
      clear hcs hsq x0
      cases hn : nameL (bys s) with
      | false =>
        have HF := Lib.hid (HBAD.out (by rw [hn]; rintro ⟨h, _⟩; cases h))
        have hv : ∀ u : ExtOf wr, Calls Tryd.prog 77 #[.string s] u.1 fun e w' => e = .returned (.bool false) ∧ Ext u.1 w' := fun u => by
          have := refName_any s (w := u.1) hsz; rw [hn] at this; exact this
        have HV := Lib.hid hv
        clear hv hn
        go_wp2
        refine wp_region_ext_lit (by kernel_rfl) (by kernel_rfl) ?_
        try dsimp only [List.append]
        repeat (go_big_quiet_step ((go_at_call 77; exact Calls.quiet_ext (HV.out _))))
        refine wpQuiet_nil ?_
        rintro w5 ⟨⟨_, h5⟩, rfl⟩
        try dsimp only
        go_wp2
        go_ret
        exact ⟨by rw [HF.out]; first | done | rfl, hE.trans h5⟩
      | true =>
        have HN := Lib.hid hn
        have hv : ∀ u : ExtOf wr, Calls Tryd.prog 77 #[.string s] u.1 fun e w' => e = .returned (.bool true) ∧ Ext u.1 w' := fun u => by
          have := refName_any s (w := u.1) hsz; rw [hn] at this; exact this
        have HV := Lib.hid hv
        clear hv hn
        by_cases h0 : q = 0
        · have h0i : decide ((0 : Int) < (q : Int)) = false := decide_eq_false (by omega)
          have h0n : decide (0 < q) = false := decide_eq_false (by omega)
          have H0 : Hid (¬ 0 < q) := by show ¬ _; omega
          clear h0
          go_wp2
          refine wp_region_ext_lit (by kernel_rfl) (by kernel_rfl) ?_
          try dsimp only [List.append]
          repeat (go_big_quiet_step ((go_at_call 77; exact Calls.quiet_ext (HV.out _))))
          refine wpQuiet_nil ?_
          rintro w5 ⟨⟨_, h5⟩, rfl⟩
          try dsimp only
          go_wp2
          go_roundw
          case rel => exact ⟨q + 1, by omega, by go_num, hE.trans h5, HGOOD.out HN.out (fun h => absurd h H0.out)⟩
          case measure => simp [intOf]; omega
        · have h0i : (0 : Int) < (q : Int) := by omega
          have h0n : 0 < q := by omega
          obtain ⟨p, hpl, hpi, hpm, t, x2, hpt⟩ := hprev.out (by omega)
          have hpmi : (p : Int) < (m : Int) := by omega
          have y2 := latersU x2
          have HP := Lib.hid hpt
          clear x2 hpt hprev
          have hln := le_not s t
          cases hb : Op.bytesLess t.toList s.toList with
          | true =>
            rw [show bO t s = true from hb] at hln
            have HB : Hid (0 < q → bO (l[q - 1]) s = true) := fun _ => by rw [HP.out]; exact hb
            go_wp2
            refine wp_region_ext_lit (by kernel_rfl) (by kernel_rfl) ?_
            try dsimp only [List.append]
            repeat (go_big_quiet_step ((go_at_call 77; exact Calls.quiet_ext (HV.out _))))
            refine wpQuiet_nil ?_
            rintro w5 ⟨⟨_, h5⟩, rfl⟩
            try dsimp only
            go_wp2
            go_roundw
            case rel => exact ⟨q + 1, by omega, by go_num, hE.trans h5, HGOOD.out HN.out HB.out⟩
            case measure => simp [intOf]; omega
          | false =>
            rw [show bO t s = false from hb] at hln
            have HF := Lib.hid (HBAD.out (fun hh => by have h9 := hh.2 (by omega); rw [HP.out] at h9; rw [show bO t s = false from hb] at h9; cases h9))
            go_wp2
            refine wp_region_ext_lit (by kernel_rfl) (by kernel_rfl) ?_
            try dsimp only [List.append]
            repeat (go_big_quiet_step ((go_at_call 77; exact Calls.quiet_ext (HV.out _))))
            refine wpQuiet_nil ?_
            rintro w5 ⟨⟨_, h5⟩, rfl⟩
            try dsimp only
            go_wp2
            go_ret
            exact ⟨by rw [HF.out]; first | done | rfl, hE.trans h5⟩
    · have hi1 : ¬ (q : Int) < (m : Int) := by omega
      have HN : Hid (FlOk l) := fun j hj => HC.out j (by have := HL.out; omega) hj
      by_cases h20 : m ≤ 20
      · have i1 : (m : Int) ≤ 20 := by omega
        have HF : Hid (flagsP l = true) := by show _ = _; unfold flagsP; rw [decide_eq_true HN.out, decide_eq_true (by have := HL.out; omega)]; rfl
        go_wp2
        go_ret
        exact ⟨by rw [HF.out]; first | done | rfl, hE⟩
      · have i1 : ¬ (m : Int) ≤ 20 := by omega
        have HF : Hid (flagsP l = false) := by show _ = _; unfold flagsP; rw [decide_eq_false (show ¬ l.length ≤ 20 by have := HL.out; omega), Bool.and_false]
        go_wp2
        go_ret
        exact ⟨by rw [HF.out]; first | done | rfl, hE⟩
end

end Go.Proofs.YtcdpmgdocgddcaaDoor

/- The reference's checks of fields, entries, catalogs. -/
namespace Go.Proofs.YtcdpmgdocgddcaaDoor
open Go.RowKit
set_option maxRecDepth 100000
attribute [local go_sem] ext_refl_t ext_alloc_t ext_drew_t ext_drewN_t ext_alloc2_t ext_alloc3_t ext_alloc4_t ext_alloc5_t ext_alloc6_t ext_alloc7_t ext_alloc8_t ext_alloc1d_t ext_alloc2d_t ext_alloc3d_t ext_alloc4d_t
section
variable {w : World}
set_option maxHeartbeats 3200000 in
theorem rfields_any {h : SlH} {l : List Fd} (hs : FdsW w h l) :
    Calls Tryd.prog 56 #[.slice h.A h.m h.c] w fun e w' => e = .returned (.bool (fieldsP l)) ∧ Ext w w' := by
  obtain ⟨A, m, c⟩ := h
  have HL := Lib.hid hs.sl.len
  have hle := hs.sl.le
  have HG := Lib.hid hs.good
  dsimp only at HL hle ⊢
  go_enter Tryd.func56, Tryd.ntmps56
  go_wp2
  go_loopw [3] (fun i wr => ∃ q : Nat, q ≤ m ∧ i = .int .i64 q ∧ Ext w wr ∧ Hid (∀ j (_ : j < q) (h : j < l.length), nameL (bys l[j].1) = true ∧ textL (bys l[j].2) = true ∧ (0 < j → bO (l[j - 1]).1 (l[j]).1 = true))) (fun i _ => m - (intOf i).toNat)
  case atStart => exact ⟨0, Nat.zero_le _, rfl, Ext.refl _, fun j hj _ => absurd hj (by omega)⟩
  case round =>
    obtain ⟨q, hq, rfl, hE, HC⟩ := hrel
    by_cases hlt : q < m
    · obtain ⟨b, off, e0, hbl, hcs⟩ := (hs.sl.ext hE).at_ hlt (by omega)
      dsimp only at e0
      subst e0
      have hlt1 : q < l.length := by rw [← HL.out]; exact hlt
      obtain ⟨x, hxq⟩ : ∃ x, x = l[q] := ⟨_, rfl⟩
      have hgs := HG.out _ (List.getElem_mem hlt1)
      rw [← hxq] at hgs
      obtain ⟨na, va⟩ := x
      obtain ⟨hgs, _⟩ := hgs
      unfold GoodStr at hgs
      dsimp only at hgs
      have x0 := hcs q hlt1 0 (by omega)
      have x1 := hcs q hlt1 1 (by omega)
      simp only [← hxq, fdC, List.getElem_cons_zero, List.getElem_cons_succ, Nat.add_zero, ← Nat.add_assoc] at x0 x1
      have hi1 : (q : Int) < (m : Int) := by omega
      have HS := Lib.hid hxq
      have HBAD : Hid (¬ (nameL (bys na) = true ∧ textL (bys va) = true ∧ (0 < q → bO (l[q - 1]).1 na = true)) → fieldsP l = false) := fun hb => by
        unfold fieldsP
        rw [decide_eq_false (fun hall => hb (by have := hall q hlt1; rw [← HS.out] at this; exact this)), Bool.false_and]
      have HGOOD : Hid (nameL (bys na) = true → textL (bys va) = true → (0 < q → bO (l[q - 1]).1 na = true) → ∀ j (_ : j < q + 1) (h : j < l.length), nameL (bys l[j].1) = true ∧ textL (bys l[j].2) = true ∧ (0 < j → bO (l[j - 1]).1 (l[j]).1 = true)) := fun h1 h2 h4 j hj h => by
          rcases Nat.lt_or_ge j q with h3 | h3
          · exact HC.out j h3 h
          · obtain rfl : j = q := by omega
            rw [← HS.out]; exact ⟨h1, h2, h4⟩
      have hprev : Hid (0 < q → ∃ p, p < l.length ∧ (q : Int) - 1 = (p : Int) ∧ p < m ∧ ∃ t, wr.cell? ⟨b, off + p * 2, none⟩ = some (.string t) ∧ (l[q - 1]'(by omega)).1 = t) := fun h0 => by
        refine ⟨q - 1, by omega, by omega, by omega, (l[q - 1]'(by omega)).1, ?_, rfl⟩
        have x2 := hcs (q - 1) (by omega) 0 (by omega)
        simp only [fdC, List.getElem_cons_zero, Nat.add_zero] at x2
        exact x2
      have y0 := latersU x0
      have y1 := latersU x1
      clear hcs hxq x0 x1
      have hna : na.size ≤ 140737488355328 := by omega
      cases hn : nameL (bys na) with
      | false =>
        have HF := Lib.hid (HBAD.out (by rw [hn]; rintro ⟨h, _⟩; cases h))
        have hv : ∀ u : ExtOf wr, Calls Tryd.prog 77 #[.string na] u.1 fun e w' => e = .returned (.bool false) ∧ Ext u.1 w' := fun u => by
          have := refName_any na (w := u.1) hna; rw [hn] at this; exact this
        have HV := Lib.hid hv
        clear hv hn
        go_wp2
        refine wp_region_ext_lit (by kernel_rfl) (by kernel_rfl) ?_
        try dsimp only [List.append]
        repeat (go_big_quiet_step ((go_at_call 77; with_reducible exact Calls.quiet_ext (HV.out _))))
        refine wpQuiet_nil ?_
        rintro w5 ⟨⟨_, h5⟩, rfl⟩
        try dsimp only
        go_wp2
        go_ret
        exact ⟨by rw [HF.out]; first | done | rfl, hE.trans h5⟩
      | true =>
        have HN := Lib.hid hn
        have hv : ∀ u : ExtOf wr, Calls Tryd.prog 77 #[.string na] u.1 fun e w' => e = .returned (.bool true) ∧ Ext u.1 w' := fun u => by
          have := refName_any na (w := u.1) hna; rw [hn] at this; exact this
        have HV := Lib.hid hv
        clear hv hn
        cases ht : textL (bys va) with
        | false =>
          have HF := Lib.hid (HBAD.out (by rw [ht]; rintro ⟨_, h, _⟩; cases h))
          have hv : ∀ u : ExtOf wr, Calls Tryd.prog 57 #[.string va] u.1 fun e w' => e = .returned (.bool false) ∧ Ext u.1 w' := fun u => by
            have := refText_any va (w := u.1); rw [ht] at this; exact this
          have HV2 := Lib.hid hv
          clear hv ht
          go_wp2
          refine wp_region_ext_lit (by kernel_rfl) (by kernel_rfl) ?_
          try dsimp only [List.append]
          repeat (go_big_quiet_step (first | (go_at_call 77; with_reducible exact Calls.quiet_ext (HV.out _)) | (go_at_call 57; with_reducible exact Calls.quiet_ext (HV2.out _))))
          refine wpQuiet_nil ?_
          rintro w5 ⟨⟨_, h5⟩, rfl⟩
          try dsimp only
          go_wp2
          go_ret
          exact ⟨by rw [HF.out]; first | done | rfl, hE.trans h5⟩
        | true =>
          have HTX := Lib.hid ht
          have hv : ∀ u : ExtOf wr, Calls Tryd.prog 57 #[.string va] u.1 fun e w' => e = .returned (.bool true) ∧ Ext u.1 w' := fun u => by
            have := refText_any va (w := u.1); rw [ht] at this; exact this
          have HV2 := Lib.hid hv
          clear hv ht
          by_cases h0 : q = 0
          · have h0i : decide ((0 : Int) < (q : Int)) = false := decide_eq_false (by omega)
            have h0n : decide (0 < q) = false := decide_eq_false (by omega)
            have H0 : Hid (¬ 0 < q) := by show ¬ _; omega
            clear h0
            go_wp2
            refine wp_region_ext_lit (by kernel_rfl) (by kernel_rfl) ?_
            try dsimp only [List.append]
            repeat (go_big_quiet_step (first | (go_at_call 77; with_reducible exact Calls.quiet_ext (HV.out _)) | (go_at_call 57; with_reducible exact Calls.quiet_ext (HV2.out _))))
            refine wpQuiet_nil ?_
            rintro w5 ⟨⟨_, h5⟩, rfl⟩
            try dsimp only
            go_wp2
            go_roundw
            case rel => exact ⟨q + 1, by omega, by go_num, hE.trans h5, HGOOD.out HN.out HTX.out (fun h => absurd h H0.out)⟩
            case measure => simp [intOf]; omega
          · have h0i : (0 : Int) < (q : Int) := by omega
            have h0n : 0 < q := by omega
            obtain ⟨p, hpl, hpi, hpm, t, x2, hpt⟩ := hprev.out (by omega)
            have hpmi : (p : Int) < (m : Int) := by omega
            have y2 := latersU x2
            have HP := Lib.hid hpt
            clear x2 hpt hprev
            have hln := le_not na t
            cases hb : Op.bytesLess t.toList na.toList with
            | true =>
              rw [show bO t na = true from hb] at hln
              have HB : Hid (0 < q → bO (l[q - 1]).1 na = true) := fun _ => by rw [HP.out]; exact hb
              go_wp2
              refine wp_region_ext_lit (by kernel_rfl) (by kernel_rfl) ?_
              try dsimp only [List.append]
              repeat (go_big_quiet_step (first | (go_at_call 77; with_reducible exact Calls.quiet_ext (HV.out _)) | (go_at_call 57; with_reducible exact Calls.quiet_ext (HV2.out _))))
              refine wpQuiet_nil ?_
              rintro w5 ⟨⟨_, h5⟩, rfl⟩
              try dsimp only
              go_wp2
              go_roundw
              case rel => exact ⟨q + 1, by omega, by go_num, hE.trans h5, HGOOD.out HN.out HTX.out HB.out⟩
              case measure => simp [intOf]; omega
            | false =>
              rw [show bO t na = false from hb] at hln
              have HF := Lib.hid (HBAD.out (fun hh => by have := hh.2.2 (by omega); rw [HP.out] at this; rw [show bO t na = false from hb] at this; cases this))
              go_wp2
              refine wp_region_ext_lit (by kernel_rfl) (by kernel_rfl) ?_
              try dsimp only [List.append]
              repeat (go_big_quiet_step (first | (go_at_call 77; with_reducible exact Calls.quiet_ext (HV.out _)) | (go_at_call 57; with_reducible exact Calls.quiet_ext (HV2.out _))))
              refine wpQuiet_nil ?_
              rintro w5 ⟨⟨_, h5⟩, rfl⟩
              try dsimp only
              go_wp2
              go_ret
              exact ⟨by rw [HF.out]; first | done | rfl, hE.trans h5⟩
    · have hi1 : ¬ (q : Int) < (m : Int) := by omega
      have HN : Hid (FdOk l) := fun j hj => HC.out j (by have := HL.out; omega) hj
      by_cases h20 : m ≤ 20
      · have i1 : (m : Int) ≤ 20 := by omega
        have HF : Hid (fieldsP l = true) := by show _ = _; unfold fieldsP; rw [decide_eq_true HN.out, decide_eq_true (by have := HL.out; omega)]; rfl
        go_wp2
        go_ret
        exact ⟨by rw [HF.out]; first | done | rfl, hE⟩
      · have i1 : ¬ (m : Int) ≤ 20 := by omega
        have HF : Hid (fieldsP l = false) := by show _ = _; unfold fieldsP; rw [decide_eq_false (show ¬ l.length ≤ 20 by have := HL.out; omega), Bool.and_false]
        go_wp2
        go_ret
        exact ⟨by rw [HF.out]; first | done | rfl, hE⟩

set_option maxHeartbeats 6400000 in
theorem rentry_any {x : Ent} (hx : EntW w x) :
    Calls Tryd.prog 35 #[entV x] w fun e w' => e = .returned (.bool (validE x.p)) ∧ Ext w w' := by
  obtain ⟨⟨id, src, tgt, com, fl, st, fd⟩, hc, hf, hd⟩ := x
  obtain ⟨kc, kf, kd, gid, gsrc, gtgt, gst1, gst2⟩ := hx
  unfold entV
  dsimp only at *
  have hb := Blk.new w 35 #[.string id, .string src, .string tgt, .slice hc.A hc.m hc.c, .slice hf.A hf.m hf.c, .int .i64 st, .slice hd.A hd.m hd.c]
  have hW0 : Ext w (w.alloc (Obj.cells #[.string id, .string src, .string tgt, .slice hc.A hc.m hc.c, .slice hf.A hf.m hf.c, .int .i64 st, .slice hd.A hd.m hd.c] 35)) := (Ext.refl w).alloc _
  have X0 := laters (show _ = some (.string id) from hb.cell 0)
  have X1 := laters (show _ = some (.string src) from hb.cell 1)
  have X2 := laters (show _ = some (.string tgt) from hb.cell 2)
  have X3 := laters (show _ = some (.slice hc.A hc.m hc.c) from hb.cell 3)
  have X4 := laters (show _ = some (.slice hf.A hf.m hf.c) from hb.cell 4)
  have X5 := laters (show _ = some (.int .i64 st) from hb.cell 5)
  have X6 := laters (show _ = some (.slice hd.A hd.m hd.c) from hb.cell 6)
  clear hb
  by_cases c1 : id = ByteArray.empty
  · subst c1
    have HF : Hid (validE ⟨ByteArray.empty, src, tgt, com, fl, st, fd⟩ = false) := by show validE _ = false; unfold validE; rfl
    go_enter Tryd.func35, Tryd.ntmps35
    go_wp2
    go_ret
    exact ⟨by rw [HF.out]; first | done | rfl, hW0⟩
  have e1 : id.toList.isEmpty = false := by rw [isEmpty_size]; exact decide_eq_false (fun h => c1 ((empty_size _).1 h))
  have z1 : decide (id.size = 0) = false := decide_eq_false (fun h => c1 ((empty_size _).1 h))
  have Z1 := Lib.hid z1
  clear z1 c1
  by_cases c2 : 200 < id.size
  · have c2i : ¬ (id.size : Int) ≤ 200 := by omega
    have HF : Hid (validE ⟨id, src, tgt, com, fl, st, fd⟩ = false) := by show validE _ = false; unfold validE; dsimp only; rw [decide_eq_false (show ¬ id.size ≤ 200 by omega)]; simp
    go_enter Tryd.func35, Tryd.ntmps35
    go_wp2
    go_ret
    exact ⟨by rw [HF.out]; first | done | rfl, hW0⟩
  have c2i : (id.size : Int) ≤ 200 := by omega
  have Z2 := Lib.hid (decide_eq_true (show id.size ≤ 200 by omega))
  clear c2
  go_enter Tryd.func35, Tryd.ntmps35
  go_wp2_with (first
    | (go_at_call 57; refine Hid.out ?_))
  refine Hid.mk_ ((refText_any id).mono ?_)
  rintro e w1 ⟨rfl, hE1⟩
  have hE01 := hW0.trans hE1
  cases ct : textL (bys id) with
  | false =>
    have HF : Hid (validE ⟨id, src, tgt, com, fl, st, fd⟩ = false) := by show validE _ = false; unfold validE; dsimp only; rw [ct]; simp
    clear ct
    go_wp2
    go_ret
    exact ⟨by rw [HF.out]; first | done | rfl, hE01⟩
  | true =>
  have Y1 := Lib.hid ct
  clear ct
  go_wp2_with (first
    | (go_at_call 57; refine Hid.out ?_))
  refine Hid.mk_ ((refText_any src).mono ?_)
  rintro e w2 ⟨rfl, hE2⟩
  have hE12 := hE1.trans hE2
  have hE02 := hE01.trans hE2
  cases ct : textL (bys src) with
  | false =>
    have HF : Hid (validE ⟨id, src, tgt, com, fl, st, fd⟩ = false) := by show validE _ = false; unfold validE; dsimp only; rw [ct]; simp
    clear ct
    go_wp2
    go_ret
    exact ⟨by rw [HF.out]; first | done | rfl, hE02⟩
  | true =>
  have Y2 := Lib.hid ct
  clear ct
  go_wp2_with (first
    | (go_at_call 57; refine Hid.out ?_))
  refine Hid.mk_ ((refText_any tgt).mono ?_)
  rintro e w3 ⟨rfl, hE3⟩
  have hE13 := hE12.trans hE3
  have hE03 := hE02.trans hE3
  cases ct : textL (bys tgt) with
  | false =>
    have HF : Hid (validE ⟨id, src, tgt, com, fl, st, fd⟩ = false) := by show validE _ = false; unfold validE; dsimp only; rw [ct]; simp
    clear ct
    go_wp2
    go_ret
    exact ⟨by rw [HF.out]; first | done | rfl, hE03⟩
  | true =>
  have Y3 := Lib.hid ct
  clear ct
  go_wp2_with (first
    | (go_at_call 55; refine Hid.out ?_))
  refine Hid.mk_ ((rtexts_any (kc.ext hE03)).mono ?_)
  rintro e w4 ⟨rfl, hE4⟩
  have hE14 := hE13.trans hE4
  have hE04 := hE03.trans hE4
  cases ct : textsP com with
  | false =>
    have HF : Hid (validE ⟨id, src, tgt, com, fl, st, fd⟩ = false) := by show validE _ = false; unfold validE; dsimp only; rw [ct]; simp
    clear ct
    go_wp2
    go_ret
    exact ⟨by rw [HF.out]; first | done | rfl, hE04⟩
  | true =>
  have Y4 := Lib.hid ct
  clear ct
  go_wp2_with (first
    | (go_at_call 58; refine Hid.out ?_))
  refine Hid.mk_ ((rflags_any (kf.ext hE04)).mono ?_)
  rintro e w5 ⟨rfl, hE5⟩
  have hE15 := hE14.trans hE5
  have hE05 := hE04.trans hE5
  cases ct : flagsP fl with
  | false =>
    have HF : Hid (validE ⟨id, src, tgt, com, fl, st, fd⟩ = false) := by show validE _ = false; unfold validE; dsimp only; rw [ct]; simp
    clear ct
    go_wp2
    go_ret
    exact ⟨by rw [HF.out]; first | done | rfl, hE05⟩
  | true =>
  have Y5 := Lib.hid ct
  clear ct
  by_cases c4 : 0 ≤ st
  case neg =>
    have HF : Hid (validE ⟨id, src, tgt, com, fl, st, fd⟩ = false) := by show validE _ = false; unfold validE; dsimp only; rw [decide_eq_false (show ¬ (0 ≤ st ∧ st ≤ 4) by omega)]; simp
    go_wp2
    go_ret
    exact ⟨by rw [HF.out]; first | done | rfl, hE05⟩
  by_cases c5 : st ≤ 4
  case neg =>
    have HF : Hid (validE ⟨id, src, tgt, com, fl, st, fd⟩ = false) := by show validE _ = false; unfold validE; dsimp only; rw [decide_eq_false (show ¬ (0 ≤ st ∧ st ≤ 4) by omega)]; simp
    go_wp2
    go_ret
    exact ⟨by rw [HF.out]; first | done | rfl, hE05⟩
  have Z4 := Lib.hid (decide_eq_true (show 0 ≤ st ∧ st ≤ 4 by omega))
  have HF : Hid (validE ⟨id, src, tgt, com, fl, st, fd⟩ = fieldsP fd) := by
    show validE _ = _
    unfold validE
    dsimp only
    rw [Z1.out, Z2.out, Y1.out, Z4.out, Y2.out, Y3.out, Y4.out, Y5.out]
    rfl
  go_wp2_with (first
    | (go_at_call 56; refine Hid.out ?_))
  refine Hid.mk_ ((rfields_any (kd.ext hE05)).mono ?_)
  rintro e w6 ⟨rfl, hE6⟩
  go_wp2
  go_ret
  exact ⟨by rw [HF.out]; first | done | rfl | simp, hE05.trans hE6⟩

def catVS (x : Cat) : Array Value := #[.string x.tag, .slice x.c.A x.c.m x.c.c, .slice x.d.A x.d.m x.d.c, .slice x.e.A x.e.m x.e.c]
set_option maxHeartbeats 3200000 in
theorem rhead_any {x : Cat} (hx : CatW w x) :
    Calls Tryd.prog 34 #[catV x] w fun e w' => e = .returned (.bool (headP x.p)) ∧ Ext w w' := by
  obtain ⟨tag, com, fd, es, hc, hd, ⟨eA, em, ec⟩⟩ := x
  obtain ⟨gtag, kc, kd, ke⟩ := hx
  unfold catV
  dsimp only at *
  have hb := Blk.new w 26 #[.string tag, .slice hc.A hc.m hc.c, .slice hd.A hd.m hd.c, .slice eA em ec]
  have hW0 : Ext w (w.alloc (Obj.cells #[.string tag, .slice hc.A hc.m hc.c, .slice hd.A hd.m hd.c, .slice eA em ec] 26)) := (Ext.refl w).alloc _
  have X0 := laters (show _ = some (.string tag) from hb.cell 0)
  have X1 := laters (show _ = some (.slice hc.A hc.m hc.c) from hb.cell 1)
  have X2 := laters (show _ = some (.slice hd.A hd.m hd.c) from hb.cell 2)
  clear hb
  unfold GoodStr at gtag
  have gt2 : tag.size ≤ 140737488355328 := by omega
  have HV : Hid (∀ b : Bool, (tagL (bys tag) && textsP com && fieldsP fd) = b → headP (Cat.p ⟨tag, com, fd, es, hc, hd, ⟨eA, em, ec⟩⟩) = b) := fun b hb => hb
  go_enter Tryd.func34, Tryd.ntmps34
  go_wp2_with (first
    | (go_at_call 54; refine Hid.out ?_))
  refine Hid.mk_ ((refTag_any tag gt2).mono ?_)
  rintro e w1 ⟨rfl, hE1⟩
  have hE01 := hW0.trans hE1
  cases ct : tagL (bys tag) with
  | false =>
    have HF := Lib.hid (HV.out false (by rw [ct]; simp))
    clear ct
    go_wp2
    go_ret
    exact ⟨by rw [HF.out]; first | done | rfl, hE01⟩
  | true =>
  have Z1 := Lib.hid ct
  clear ct
  go_wp2_with (first
    | (go_at_call 55; refine Hid.out ?_))
  refine Hid.mk_ ((rtexts_any (kc.ext hE01)).mono ?_)
  rintro e w2 ⟨rfl, hE2⟩
  have hE12 := hE1.trans hE2
  have hE02 := hE01.trans hE2
  cases ct : textsP com with
  | false =>
    have HF := Lib.hid (HV.out false (by rw [ct]; simp))
    clear ct
    go_wp2
    go_ret
    exact ⟨by rw [HF.out]; first | done | rfl, hE02⟩
  | true =>
  have HF := Lib.hid (HV.out (fieldsP fd) (by rw [Z1.out, ct]; simp))
  clear ct
  go_wp2_with (first
    | (go_at_call 56; refine Hid.out ?_))
  refine Hid.mk_ ((rfields_any (kd.ext hE02)).mono ?_)
  rintro e w3 ⟨rfl, hE3⟩
  go_wp2
  go_ret
  exact ⟨by rw [HF.out]; first | done | rfl | simp, hE02.trans hE3⟩
end

end Go.Proofs.YtcdpmgdocgddcaaDoor

/- The reference's check of a catalog. -/
namespace Go.Proofs.YtcdpmgdocgddcaaDoor
open Go.RowKit
set_option maxRecDepth 100000
attribute [local go_sem] ext_refl_t ext_alloc_t ext_drew_t ext_drewN_t ext_alloc2_t ext_alloc3_t ext_alloc4_t ext_alloc5_t ext_alloc6_t ext_alloc7_t ext_alloc8_t ext_alloc1d_t ext_alloc2d_t ext_alloc3d_t ext_alloc4d_t
theorem find_first (l : List Ep) (id : ByteArray) : ∀ q (h : q < l.length), l[q].id = id → ∃ k : Nat, k ≤ q ∧ FindZ l id k := by
  intro q
  induction q using Nat.strongRecOn with
  | _ q ih =>
    intro h hid
    by_cases hex : ∃ j, ∃ hj : j < q, (l[j]'(by omega)).id = id
    · obtain ⟨j, hj, e⟩ := hex
      obtain ⟨k, hk, hz⟩ := ih j hj (by omega) e
      exact ⟨k, by omega, hz⟩
    · exact ⟨q, Nat.le_refl _, .inr ⟨q, rfl, h, hid, fun j hj e => hex ⟨j, hj, e⟩⟩⟩
section
variable {w : World}
theorem refFind_at {x : Cat} (hx : CatW w x) (id : ByteArray) {k : Nat} (hz : FindZ x.p.es id k) :
    Calls Tryd.prog 17 #[catV x, .string id] w fun e w' => e = .returned (.tuple #[.int .i64 k, .bool true]) ∧ Ext w w' :=
  (refFind_any hx id).mono fun e w' ⟨⟨z, h, he⟩, hE⟩ => by
    rw [h.uniq hz] at he
    refine ⟨he.trans ?_, hE⟩
    unfold FindV
    rw [if_pos (by omega), decide_eq_true (by omega)]
set_option maxHeartbeats 6400000 in
theorem rvalid_any {x : Cat} (hx : CatW w x) :
    Calls Tryd.prog 13 #[catV x] w fun e w' => e = .returned (.bool (validC x.p)) ∧ Ext w w' := by
  have HX := Lib.hid hx
  obtain ⟨tag, com, fd, es, hc, hd, ⟨eA, em, ec⟩⟩ := x
  obtain ⟨gtag, kc, kd, ke⟩ := hx
  have HCV : Hid (catV ⟨tag, com, fd, es, hc, hd, ⟨eA, em, ec⟩⟩ = .agg #[.string tag, .slice hc.A hc.m hc.c, .slice hd.A hd.m hd.c, .slice eA em ec]) := rfl
  rw [HCV.out]
  dsimp only at *
  obtain ⟨W0, hW0⟩ : ∃ W0, W0 = w.alloc (Obj.cells #[.string tag, .slice hc.A hc.m hc.c, .slice hd.A hd.m hd.c, .slice eA em ec] 26) := ⟨_, rfl⟩
  have hb : Blk W0 w.heap.size 26 #[.string tag, .slice hc.A hc.m hc.c, .slice hd.A hd.m hd.c, .slice eA em ec] := by rw [hW0]; exact Blk.new w _ _
  have hE0 : Ext w W0 := by rw [hW0]; exact (Ext.refl w).alloc _
  have HL := Lib.hid ke.sl.len
  dsimp only at HL
  have HV : Hid (∀ b : Bool, (headP (Cat.p ⟨tag, com, fd, es, hc, hd, ⟨eA, em, ec⟩⟩) && decide (es.length ≤ 1000) && decide (EsOk (es.map Ent.p))) = b → validC (Cat.p ⟨tag, com, fd, es, hc, hd, ⟨eA, em, ec⟩⟩) = b) := fun b hb => by
    rw [← hb]
    show validC _ = _
    unfold validC Cat.p
    dsimp only
    rw [List.length_map]
  have hhd := rhead_any (HX.out.ext hE0)
  rw [HCV.out] at hhd
  go_enter Tryd.func13, Tryd.ntmps13
  go_wp2_with (first
    | (go_at_call 34; refine Hid.out ?_))
  rw [← hW0]
  obtain ⟨g, hg⟩ : ∃ g, g = w.heap.size := ⟨_, rfl⟩
  rw [← hg] at hb ⊢
  refine Hid.mk_ (hhd.mono ?_)
  rintro e w1 ⟨rfl, hE1⟩
  have X0 := laters (show _ = some (.string tag) from hb.cell 0)
  have X1 := laters (show _ = some (.slice hc.A hc.m hc.c) from hb.cell 1)
  have X2 := laters (show _ = some (.slice hd.A hd.m hd.c) from hb.cell 2)
  have X3 := laters (show _ = some (.slice eA em ec) from hb.cell 3)
  have HB := Lib.hid hb
  clear hb hW0 hhd hg
  have hE01 := hE0.trans hE1
  cases ct : headP (Cat.p ⟨tag, com, fd, es, hc, hd, ⟨eA, em, ec⟩⟩) with
  | false =>
    have HF := Lib.hid (HV.out false (by rw [ct]; simp))
    clear ct
    go_wp2
    go_ret
    exact ⟨by rw [HF.out]; first | done | rfl, hE01⟩
  | true =>
  have Z1 := Lib.hid ct
  clear ct
  by_cases c4 : 1000 < em
  · have c4i : (1000 : Int) < (em : Int) := by omega
    have HF := Lib.hid (HV.out false (by rw [decide_eq_false (show ¬ es.length ≤ 1000 by have := HL.out; omega)]; simp))
    go_wp2
    go_ret
    exact ⟨by rw [HF.out]; first | done | rfl, hE01⟩
  have c4i : ¬ (1000 : Int) < (em : Int) := by omega
  have HV2 : Hid (∀ b : Bool, decide (EsOk (es.map Ent.p)) = b → validC (Cat.p ⟨tag, com, fd, es, hc, hd, ⟨eA, em, ec⟩⟩) = b) := fun b hb => HV.out b (by
    rw [Z1.out, decide_eq_true (show es.length ≤ 1000 by have := HL.out; omega), hb]; rfl)
  have XX := And.intro (laters (show _ = some (.string tag) from HB.out.cell 0)) (And.intro (laters (show _ = some (.slice hc.A hc.m hc.c) from HB.out.cell 1)) (And.intro (laters (show _ = some (.slice hd.A hd.m hd.c) from HB.out.cell 2)) (laters (show _ = some (.slice eA em ec) from HB.out.cell 3))))
  have XH := Lib.hid XX
  clear XX
  go_wp2
  clear X0 X1 X2 X3
  go_loopw [3, 4, 5] (fun i _ _ wr => ∃ q : Nat, q ≤ em ∧ i = .int .i64 q ∧ Ext w wr ∧ Ext W0 wr ∧ Hid (∀ i (_ : i < q) (h : i < es.length), validE es[i].p = true ∧ ∀ j (_ : j < i), (es[j]'(by omega)).p.id ≠ es[i].p.id)) (fun i _ _ _ => em - (intOf i).toNat)
  case atStart => exact ⟨0, Nat.zero_le _, rfl, hE01, hE1, fun j hj _ => absurd hj (by omega)⟩
  case round =>
    obtain ⟨q, hq, rfl, hE, hE0w, HC⟩ := hrel
    have X3w : wr.cell? ⟨g, 3, none⟩ = some (.slice eA em ec) := XH.out.2.2.2 _ hE0w
    by_cases hlt : q < em
    · have hi1 : (q : Int) < (em : Int) := by omega
      obtain ⟨b, off, e0, hbl, hcs⟩ := (ke.sl.ext hE).at_ hlt (by omega)
      dsimp only at e0
      subst e0
      have hlt1 : q < es.length := by rw [← HL.out]; exact hlt
      obtain ⟨y, hyq⟩ : ∃ y, y = es[q] := ⟨_, rfl⟩
      have hy := ke.good _ (List.getElem_mem hlt1)
      rw [← hyq] at hy
      have y0 := hcs q hlt1 0 (by omega)
      have y1 := hcs q hlt1 1 (by omega)
      have y2 := hcs q hlt1 2 (by omega)
      have y3 := hcs q hlt1 3 (by omega)
      have y4 := hcs q hlt1 4 (by omega)
      have y5 := hcs q hlt1 5 (by omega)
      have y6 := hcs q hlt1 6 (by omega)
      simp only [← hyq, entC, List.getElem_cons_zero, List.getElem_cons_succ, Nat.add_zero, ← Nat.add_assoc] at y0 y1 y2 y3 y4 y5 y6
      have HY := Lib.hid hyq
      have HBAD : Hid (¬ (validE y.p = true ∧ ∀ j (_ : j < q), (es[j]'(by omega)).p.id ≠ y.p.id) → decide (EsOk (es.map Ent.p)) = false) := fun hb => by
        apply decide_eq_false
        intro hall
        have h1 := hall q (by rw [List.length_map]; exact hlt1)
        simp only [List.getElem_map] at h1
        rw [← HY.out] at h1
        exact hb ⟨h1.1, fun j hj => h1.2 j hj⟩
      obtain ⟨k, hkq, hkz⟩ := find_first (es.map Ent.p) y.p.id q (by rw [List.length_map]; exact hlt1) (by rw [List.getElem_map, ← hyq])
      have hfd : ∀ u : ExtOf wr, Calls Tryd.prog 17 #[.agg #[.string tag, .slice hc.A hc.m hc.c, .slice hd.A hd.m hd.c, .slice (some ⟨b, off, none⟩) em ec], .string y.p.id] u.1 fun e w' => e = .returned (.tuple #[.int .i64 k, .bool true]) ∧ Ext u.1 w' := fun u => by
        have h := refFind_at (HX.out.ext (hE.trans u.ext)) y.p.id hkz
        rw [HCV.out] at h
        exact h
      have HFD := Lib.hid hfd
      have hkz' := hkz
      have HKZ := Lib.hid hkz
      have HCS := Lib.hid hcs
      have Y0 := latersU y0
      have x0 := latersU (XH.out.1 _ hE0w)
      have x1 := latersU (XH.out.2.1 _ hE0w)
      have x2 := latersU (XH.out.2.2.1 _ hE0w)
      have x3 := latersU (XH.out.2.2.2 _ hE0w)
      clear hcs hyq hfd hkz hkz'
      go_wp2
      refine wp_region_ext_lit (by kernel_rfl) (by kernel_rfl) ?_
      try dsimp only [List.append]
      repeat (go_big_quiet_step ((go_at_call 17; with_reducible exact Calls.quiet_ext (HFD.out _))))
      refine wpQuiet_nil ?_
      rintro w5 ⟨⟨_, h5⟩, rfl⟩
      try dsimp only
      clear x0 x1 x2 x3 Y0
      have hE5 := hE.trans h5
      have X35 : w5.cell? ⟨g, 3, none⟩ = some (.slice (some ⟨b, off, none⟩) em ec) := XH.out.2.2.2 _ (hE0w.trans h5)
      by_cases hkq2 : k = q
      · subst hkq2
        have hne : ((k : Int) != (k : Int)) = false := by simp
        have z0 := later h5 y0
        have z1 := later h5 y1
        have z2 := later h5 y2
        have z3 := later h5 y3
        have z4 := later h5 y4
        have z5 := later h5 y5
        have z6 := later h5 y6
        clear y0 y1 y2 y3 y4 y5 y6
        have HNO : Hid (∀ j (_ : j < k), (es[j]'(by omega)).p.id ≠ y.p.id) := by
          rcases HKZ.out with ⟨h, _⟩ | ⟨k', h, _, _, h2⟩
          · omega
          · obtain rfl : k = k' := by omega
            intro j hj
            have h3 := h2 j hj
            rw [List.getElem_map] at h3
            exact h3
        have hve := rentry_any (hy.ext hE5)
        unfold entV at hve
        go_wp2_with (first
          | (go_at_call 35; refine Hid.out ?_))
        refine Hid.mk_ ((hve).mono ?_)
        rintro e w6 ⟨rfl, hE6⟩
        cases hv : validE y.p with
        | false =>
          have HF := Lib.hid (HV2.out false (HBAD.out (by rw [hv]; rintro ⟨h, _⟩; cases h)))
          clear hv
          go_wp2
          go_ret
          exact ⟨by rw [HF.out]; first | done | rfl, hE5.trans hE6⟩
        | true =>
          have HN : Hid (∀ i (_ : i < k + 1) (h : i < es.length), validE es[i].p = true ∧ ∀ j (_ : j < i), (es[j]'(by omega)).p.id ≠ es[i].p.id) := fun i hi h => by
            rcases Nat.lt_or_ge i k with h3 | h3
            · exact HC.out i h3 h
            · obtain rfl : i = k := by omega
              rw [← HY.out]; exact ⟨hv, HNO.out⟩
          clear hv
          go_wp2
          go_roundw
          case rel => exact ⟨k + 1, by omega, by go_num, hE5.trans hE6, (hE0w.trans h5).trans hE6, HN⟩
          case measure => simp [intOf]; omega
      · have hne : ((k : Int) != (q : Int)) = true := by simp only [bne_iff_ne, ne_eq]; omega
        have HF := Lib.hid (HV2.out false (HBAD.out (fun hh => by
          rcases HKZ.out with ⟨h, _⟩ | ⟨k', h, hk1, hk2, _⟩
          · omega
          · obtain rfl : k = k' := by omega
            have h3 := hh.2 k (by omega)
            rw [List.getElem_map] at hk2
            exact h3 hk2)))
        go_wp2
        go_ret
        exact ⟨by rw [HF.out]; first | done | rfl, hE5⟩
    · have hi1 : ¬ (q : Int) < (em : Int) := by omega
      have HF := Lib.hid (HV2.out true (decide_eq_true (fun i hi => by
        rw [List.length_map] at hi
        have h1 := HC.out i (by have := HL.out; omega) hi
        simp only [List.getElem_map]
        exact ⟨h1.1, fun j hj => h1.2 j hj⟩)))
      go_wp2
      go_ret
      exact ⟨by rw [HF.out]; first | done | rfl, hE⟩
end

end Go.Proofs.YtcdpmgdocgddcaaDoor
