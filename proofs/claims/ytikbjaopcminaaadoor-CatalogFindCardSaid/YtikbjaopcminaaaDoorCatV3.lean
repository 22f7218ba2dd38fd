/- The program's check of fields. -/
import Derived.Test.YtikbjaopcminaaaDoorCatV
import Derived.Test.YtikbjaopcminaaaDoorTag
import Derived.Test.YtikbjaopcminaaaDoorExtS
import Derived.Test.YtikbjaopcminaaaDoorQExt
namespace Go.Proofs.YtikbjaopcminaaaDoor
open Go.RowKit
set_option maxRecDepth 100000

section
variable {w : World}
set_option maxHeartbeats 3200000 in
theorem fields_any {h : SlH} {l : List Fd} (hs : FdsW w h l) (hT : Tabs w) :
    Calls Tryd.prog 58 #[.slice h.A h.m h.c] w fun e w' => e = .returned (.bool (fieldsP l)) ∧ Ext w w' := by
  obtain ⟨A, m, c⟩ := h
  have HL := Lib.hid hs.sl.len
  have hle := hs.sl.le
  have HG := Lib.hid hs.good
  dsimp only at HL hle ⊢
  go_enter Tryd.func58, Tryd.ntmps58
  go_wp2
  go_loopw [3, 4, 7] (fun _ _ i wr => ∃ q : Nat, q ≤ m ∧ i = .int .i64 q ∧ Ext w wr ∧ Hid (∀ j (_ : j < q) (h : j < l.length), nameL (bys l[j].1) = true ∧ textL (bys l[j].2) = true ∧ (0 < j → bO (l[j - 1]).1 (l[j]).1 = true))) (fun _ _ i _ => m - (intOf i).toNat)
  case atStart => exact ⟨0, Nat.zero_le _, rfl, Ext.refl _, fun j hj _ => absurd hj (by omega)⟩
  case round =>
    obtain ⟨q, hq, rfl, hE, HC⟩ := hrel
    by_cases hlt : q < m
    · obtain ⟨b, off, e0, hbl, hcs⟩ := (hs.sl.ext hE).at_ hlt (by omega)
      dsimp only at e0
      subst e0
      have hlt1 : q < l.length := by rw [← HL.out]; exact hlt
      obtain ⟨x, hxq⟩ : ∃ x, x = l[q] := ⟨_, rfl⟩
      have hgs := HG.out _ (List.getElem_mem hlt1)
      rw [← hxq] at hgs
      obtain ⟨na, va⟩ := x
      obtain ⟨hgs, _⟩ := hgs
      unfold GoodStr at hgs
      dsimp only at hgs
      have x0 := hcs q hlt1 0 (by omega)
      have x1 := hcs q hlt1 1 (by omega)
      simp only [← hxq, fdC, List.getElem_cons_zero, List.getElem_cons_succ, Nat.add_zero, ← Nat.add_assoc] at x0 x1
      have hi1 : (q : Int) < (m : Int) := by omega
      have HS := Lib.hid hxq
      have HBAD : Hid (¬ (nameL (bys na) = true ∧ textL (bys va) = true ∧ (0 < q → bO (l[q - 1]).1 na = true)) → fieldsP l = false) := fun hb => by
        unfold fieldsP
        rw [decide_eq_false (fun hall => hb (by have := hall q hlt1; rw [← HS.out] at this; exact this)), Bool.false_and]
      have HGOOD : Hid (nameL (bys na) = true → textL (bys va) = true → (0 < q → bO (l[q - 1]).1 na = true) → ∀ j (_ : j < q + 1) (h : j < l.length), nameL (bys l[j].1) = true ∧ textL (bys l[j].2) = true ∧ (0 < j → bO (l[j - 1]).1 (l[j]).1 = true)) := fun h1 h2 h4 j hj h => by
          rcases Nat.lt_or_ge j q with h3 | h3
          · exact HC.out j h3 h
          · obtain rfl : j = q := by omega
            rw [← HS.out]; exact ⟨h1, h2, h4⟩
      have hb1 := Blk.new wr 72 #[.string na, .string va]
      have HEW : Hid (Ext w (wr.alloc (Obj.cells #[.string na, .string va] 72))) := hE.alloc _
      have hprev : Hid (0 < q → ∃ p, p < l.length ∧ (q : Int) - 1 = (p : Int) ∧ p < m ∧ ∃ t, (wr.alloc (Obj.cells #[.string na, .string va] 72)).cell? ⟨b, off + p * 2, none⟩ = some (.string t) ∧ (l[q - 1]'(by omega)).1 = t) := fun h0 => by
        refine ⟨q - 1, by omega, by omega, by omega, (l[q - 1]'(by omega)).1, ?_, rfl⟩
        have x2 := hcs (q - 1) (by omega) 0 (by omega)
        simp only [fdC, List.getElem_cons_zero, Nat.add_zero] at x2
        exact later ((Ext.refl wr).alloc _) x2
      clear hcs hxq
      go_wp2
      obtain ⟨W, hW⟩ : ∃ W, W = wr.alloc (Obj.cells #[.string na, .string va] 72) := ⟨_, rfl⟩
      rw [← hW] at hb1 HEW hprev ⊢
      obtain ⟨g, hg⟩ : ∃ g, g = wr.heap.size := ⟨_, rfl⟩
      rw [← hg] at hb1 ⊢
      have hTW := hT.ext HEW.out
      have y0 := latersU (hb1.cell 0)
      have y1 := latersU (hb1.cell 1)
      clear x0 x1 hW hg hb1
      have hna : na.size ≤ 9223372036854775807 := by omega
      cases hn : nameL (bys na) with
      | false =>
        have HF := Lib.hid (HBAD.out (by rw [hn]; rintro ⟨h, _⟩; cases h))
        have hv : ∀ u : ExtOf W, Calls Tryd.prog 13 #[.string na] u.1 fun e w' => e = .returned (.bool false) ∧ Ext u.1 w' := fun u => by
          have := validName_any na (w := u.1) hna; rw [hn] at this; exact this
        have HV := Lib.hid hv
        clear hv hn
        refine wp_region_ext_lit (by kernel_rfl) (by kernel_rfl) ?_
        try dsimp only [List.append]
        repeat (go_big_quiet_step ((go_at_call 13; exact Calls.quiet_ext (HV.out _))))
        refine wpQuiet_nil ?_
        rintro w5 ⟨⟨_, h5⟩, rfl⟩
        try dsimp only
        go_wp2
        go_ret
        exact ⟨by rw [HF.out]; first | done | rfl, HEW.out.trans h5⟩
      | true =>
        have HN := Lib.hid hn
        have hv : ∀ u : ExtOf W, Calls Tryd.prog 13 #[.string na] u.1 fun e w' => e = .returned (.bool true) ∧ Ext u.1 w' := fun u => by
          have := validName_any na (w := u.1) hna; rw [hn] at this; exact this
        have HV := Lib.hid hv
        clear hv hn
        cases ht : textL (bys va) with
        | false =>
          have HF := Lib.hid (HBAD.out (by rw [ht]; rintro ⟨_, h, _⟩; cases h))
          have hv : ∀ u : ExtOf W, Calls Tryd.prog 17 #[.string va] u.1 fun e w' => e = .returned (.bool false) ∧ Ext u.1 w' := fun u => by
            have := validText_any va (w := u.1) (hTW.ext u.ext); rw [ht] at this; exact this
          have HV2 := Lib.hid hv
          clear hv ht
          refine wp_region_ext_lit (by kernel_rfl) (by kernel_rfl) ?_
          try dsimp only [List.append]
          repeat (go_big_quiet_step (first | (go_at_call 13; exact Calls.quiet_ext (HV.out _)) | (go_at_call 17; exact Calls.quiet_ext (HV2.out _))))
          refine wpQuiet_nil ?_
          rintro w5 ⟨⟨_, h5⟩, rfl⟩
          try dsimp only
          go_wp2
          go_ret
          exact ⟨by rw [HF.out]; first | done | rfl, HEW.out.trans h5⟩
        | true =>
          have HTX := Lib.hid ht
          have hv : ∀ u : ExtOf W, Calls Tryd.prog 17 #[.string va] u.1 fun e w' => e = .returned (.bool true) ∧ Ext u.1 w' := fun u => by
            have := validText_any va (w := u.1) (hTW.ext u.ext); rw [ht] at this; exact this
          have HV2 := Lib.hid hv
          clear hv ht
          by_cases h0 : q = 0
          · have h0i : decide ((0 : Int) < (q : Int)) = false := decide_eq_false (by omega)
            have h0n : decide (0 < q) = false := decide_eq_false (by omega)
            have H0 : Hid (¬ 0 < q) := by show ¬ _; omega
            clear h0
            refine wp_region_ext_lit (by kernel_rfl) (by kernel_rfl) ?_
            try dsimp only [List.append]
            repeat (go_big_quiet_step (first | (go_at_call 13; exact Calls.quiet_ext (HV.out _)) | (go_at_call 17; exact Calls.quiet_ext (HV2.out _))))
            refine wpQuiet_nil ?_
            rintro w5 ⟨⟨_, h5⟩, rfl⟩
            try dsimp only
            go_wp2
            go_roundw
            case rel => exact ⟨q + 1, by omega, by go_num, HEW.out.trans h5, HGOOD.out HN.out HTX.out (fun h => absurd h H0.out)⟩
            case measure => simp [intOf]; omega
          · have h0i : (0 : Int) < (q : Int) := by omega
            have h0n : 0 < q := by omega
            obtain ⟨p, hpl, hpi, hpm, t, x2, hpt⟩ := hprev.out (by omega)
            have hpmi : (p : Int) < (m : Int) := by omega
            have y2 := latersU x2
            have HP := Lib.hid hpt
            clear x2 hpt hprev
            cases hb : Op.bytesLess t.toList na.toList with
            | true =>
              have HB : Hid (0 < q → bO (l[q - 1]).1 na = true) := fun _ => by rw [HP.out]; exact hb
              refine wp_region_ext_lit (by kernel_rfl) (by kernel_rfl) ?_
              try dsimp only [List.append]
              repeat (go_big_quiet_step (first | (go_at_call 13; exact Calls.quiet_ext (HV.out _)) | (go_at_call 17; exact Calls.quiet_ext (HV2.out _))))
              refine wpQuiet_nil ?_
              rintro w5 ⟨⟨_, h5⟩, rfl⟩
              try dsimp only
              go_wp2
              go_roundw
              case rel => exact ⟨q + 1, by omega, by go_num, HEW.out.trans h5, HGOOD.out HN.out HTX.out HB.out⟩
              case measure => simp [intOf]; omega
            | false =>
              have HF := Lib.hid (HBAD.out (fun hh => by have := hh.2.2 (by omega); rw [HP.out] at this; rw [show bO t na = false from hb] at this; cases this))
              refine wp_region_ext_lit (by kernel_rfl) (by kernel_rfl) ?_
              try dsimp only [List.append]
              repeat (go_big_quiet_step (first | (go_at_call 13; exact Calls.quiet_ext (HV.out _)) | (go_at_call 17; exact Calls.quiet_ext (HV2.out _))))
              refine wpQuiet_nil ?_
              rintro w5 ⟨⟨_, h5⟩, rfl⟩
              try dsimp only
              go_wp2
              go_ret
              exact ⟨by rw [HF.out]; first | done | rfl, HEW.out.trans h5⟩
    · have hi1 : ¬ (q : Int) < (m : Int) := by omega
      have HN : Hid (FdOk l) := fun j hj => HC.out j (by have := HL.out; omega) hj
      by_cases h20 : m ≤ 20
      · have i1 : (m : Int) ≤ 20 := by omega
        have HF : Hid (fieldsP l = true) := by show _ = _; unfold fieldsP; rw [decide_eq_true HN.out, decide_eq_true (by have := HL.out; omega)]; rfl
        go_wp2
        go_ret
        exact ⟨by rw [HF.out]; first | done | rfl, hE⟩
      · have i1 : ¬ (m : Int) ≤ 20 := by omega
        have HF : Hid (fieldsP l = false) := by show _ = _; unfold fieldsP; rw [decide_eq_false (show ¬ l.length ≤ 20 by have := HL.out; omega), Bool.and_false]
        go_wp2
        go_ret
        exact ⟨by rw [HF.out]; first | done | rfl, hE⟩
end

end Go.Proofs.YtikbjaopcminaaaDoor
