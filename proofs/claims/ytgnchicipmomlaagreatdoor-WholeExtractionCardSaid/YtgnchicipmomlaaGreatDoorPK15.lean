/- The program's checks of texts, flags, fields, entries. -/
import Derived.Test.YtgnchicipmomlaaGreatDoorPK13
import Derived.Test.YtgnchicipmomlaaGreatDoorPK14
import Derived.Test.YtgnchicipmomlaaGreatDoorPK01
import Derived.Maps.Own
import Derived.Maps.OwnSet
import Derived.Maps.Views
namespace Go.Proofs.YtgnchicipmomlaaGreatDoor
open Go.RowKit
set_option maxRecDepth 100000

/-- The call returned an int of which P holds. -/
def RetZ (P : Int → Prop) (e : Ending) : Prop := ∃ z, e = .returned (.int .i64 z) ∧ P z
section
variable {w : World}
set_option maxHeartbeats 400000 in
theorem notText_any (s : ByteArray) (hT : Tabs w) :
    Calls Tryz.prog 64 #[.string s] w fun e w' => e = .returned (.bool (!textL (bys s))) ∧ Ext w w' := by
  go_enter Tryz.func64, Tryz.ntmps64
  go_wp2_with (first
    | (go_at_call 65; refine Hid.out ?_))
  refine Hid.mk_ ((validText_any s hT).mono ?_)
  rintro e w1 ⟨rfl, hE1⟩
  go_wp2
  go_ret
  exact ⟨rfl, hE1⟩

set_option maxHeartbeats 1600000 in
theorem idxText_any {h : SlH} {l : List ByteArray} (hs : StrsW w h l) (hT : Tabs w) :
    Calls Tryz.prog 96 #[.slice h.A h.m h.c, .func (.func 64) #[] #[]] w fun e w' => RetZ (fun z => (0 ≤ z ↔ ¬ TxOk l)) e ∧ Ext w w' := by
  obtain ⟨A, m, c⟩ := h
  have HL := Lib.hid hs.sl.len
  have hle := hs.sl.le
  dsimp only at HL hle ⊢
  go_enter Tryz.func96, Tryz.ntmps96
  go_wp2
  go_loopw [5, 8] (fun _ i wr => ∃ q : Nat, q ≤ m ∧ i = .int .i64 q ∧ Ext w wr ∧ Hid (∀ j (_ : j < q) (h : j < l.length), textL (bys l[j]) = true)) (fun _ i _ => m - (intOf i).toNat)
  case atStart => exact ⟨0, Nat.zero_le _, rfl, Ext.refl _, fun j hj _ => absurd hj (by omega)⟩
  case round =>
    obtain ⟨q, hq, rfl, hE, HC⟩ := hrel
    by_cases hlt : q < m
    · obtain ⟨b, off, e0, hbl, hcs⟩ := (hs.sl.ext hE).at_ hlt (by omega)
      dsimp only at e0
      subst e0
      have hlt1 : q < l.length := by rw [← HL.out]; exact hlt
      obtain ⟨s, hsq⟩ : ∃ s, s = l[q] := ⟨_, rfl⟩
      have x0 := hcs q hlt1 0 (by omega)
      simp only [← hsq, strF, List.getElem_cons_zero, Nat.mul_one, Nat.add_zero] at x0
      have hi1 : (q : Int) < (m : Int) := by omega
      have HS := Lib.hid hsq
      clear hcs hsq
      go_wp2_with (first
        | (go_at_call 64; refine Hid.out ?_))
      refine Hid.mk_ ((notText_any s (hT.ext hE)).mono ?_)
      rintro e w2 ⟨rfl, hE2⟩
      cases ht : textL (bys s) with
      | true =>
        have HN : Hid (∀ j (_ : j < q + 1) (h : j < l.length), textL (bys l[j]) = true) := fun j hj h => by
          rcases Nat.lt_or_ge j q with h2 | h2
          · exact HC.out j h2 h
          · obtain rfl : j = q := by omega
            rw [← HS.out]; exact ht
        clear ht
        go_wp2
        go_roundw
        case rel => exact ⟨q + 1, by omega, by go_num, hE.trans hE2, HN⟩
        case measure => simp [intOf]; omega
      | false =>
        have HN : Hid (¬ TxOk l) := fun hall => by
          have := hall q hlt1
          rw [← HS.out, ht] at this
          cases this
        clear ht
        go_wp2
        go_ret
        exact ⟨⟨_, rfl, ⟨fun _ => HN.out, fun _ => by omega⟩⟩, hE.trans hE2⟩
    · have hi1 : ¬ (q : Int) < (m : Int) := by omega
      have HN : Hid (TxOk l) := fun j hj => HC.out j (by have := HL.out; omega) hj
      go_wp2
      go_ret
      exact ⟨⟨_, rfl, ⟨fun h => absurd h (by omega), fun h => absurd HN.out h⟩⟩, hE⟩

set_option maxHeartbeats 400000 in
theorem hasBad_any {h : SlH} {l : List ByteArray} (hs : StrsW w h l) (hT : Tabs w) :
    Calls Tryz.prog 63 #[.slice h.A h.m h.c, .func (.func 64) #[] #[]] w fun e w' => e = .returned (.bool (!decide (TxOk l))) ∧ Ext w w' := by
  go_enter Tryz.func63, Tryz.ntmps63
  go_wp2_with (first
    | (go_at_call 96; refine Hid.out ?_))
  refine Hid.mk_ ((idxText_any hs hT).mono ?_)
  rintro e w2 ⟨⟨z, rfl, hz⟩, hE2⟩
  by_cases h0 : 0 ≤ z
  · have HF := Lib.hid (decide_eq_false (hz.1 h0))
    have hd : decide ((0 : Int) ≤ z) = true := decide_eq_true h0
    clear hz
    go_wp2
    go_ret
    exact ⟨by rw [HF.out]; first | done | rfl, hE2⟩
  · have HF := Lib.hid (decide_eq_true (show TxOk l by
      rcases Decidable.em (TxOk l) with h | h
      · exact h
      · exact absurd (hz.2 h) h0))
    have hd : decide ((0 : Int) ≤ z) = false := decide_eq_false h0
    clear hz h0
    go_wp2
    go_ret
    exact ⟨by rw [HF.out]; first | done | rfl, hE2⟩

set_option maxHeartbeats 400000 in
theorem texts_any {h : SlH} {l : List ByteArray} (hs : StrsW w h l) (hT : Tabs w) :
    Calls Tryz.prog 36 #[.slice h.A h.m h.c] w fun e w' => e = .returned (.bool (textsP l)) ∧ Ext w w' := by
  have hl := hs.sl.len
  by_cases h20 : h.m ≤ 20
  · have i1 : (h.m : Int) ≤ 20 := by omega
    have HF : Hid (textsP l = decide (TxOk l)) := by show _ = _; unfold textsP; rw [decide_eq_true (by omega), Bool.true_and]
    clear hl
    go_enter Tryz.func36, Tryz.ntmps36
    go_wp2_with (first
      | (go_at_call 63; refine Hid.out ?_))
    refine Hid.mk_ ((hasBad_any hs hT).mono ?_)
    rintro e w2 ⟨rfl, hE2⟩
    go_wp2
    go_ret
    exact ⟨by rw [HF.out]; simp, hE2⟩
  · have i1 : ¬ (h.m : Int) ≤ 20 := by omega
    have HF : Hid (textsP l = false) := by show _ = _; unfold textsP; rw [decide_eq_false (by omega), Bool.false_and]
    clear hl
    go_enter Tryz.func36, Tryz.ntmps36
    go_wp2
    go_ret
    exact ⟨by rw [HF.out]; first | done | rfl, Ext.refl _⟩

end

end Go.Proofs.YtgnchicipmomlaaGreatDoor

/- The program's check of flags. -/
namespace Go.Proofs.YtgnchicipmomlaaGreatDoor
open Go.RowKit
set_option maxRecDepth 100000

section
variable {w : World}
set_option maxHeartbeats 3200000 in
theorem flags_any {h : SlH} {l : List ByteArray} (hs : StrsW w h l) :
    Calls Tryz.prog 67 #[.slice h.A h.m h.c] w fun e w' => e = .returned (.bool (flagsP l)) ∧ Ext w w' := by
  obtain ⟨A, m, c⟩ := h
  have HL := Lib.hid hs.sl.len
  have hle := hs.sl.le
  have HG := Lib.hid hs.good
  dsimp only at HL hle ⊢
  go_enter Tryz.func67, Tryz.ntmps67
  go_wp2
  go_loopw [3, 4, 7] (fun _ _ i wr => ∃ q : Nat, q ≤ m ∧ i = .int .i64 q ∧ Ext w wr ∧ Hid (∀ j (_ : j < q) (h : j < l.length), nameL (bys l[j]) = true ∧ (0 < j → bO (l[j - 1]) l[j] = true))) (fun _ _ i _ => m - (intOf i).toNat)
  case atStart => exact ⟨0, Nat.zero_le _, rfl, Ext.refl _, fun j hj _ => absurd hj (by omega)⟩
  case round =>
    obtain ⟨q, hq, rfl, hE, HC⟩ := hrel
    by_cases hlt : q < m
    · obtain ⟨b, off, e0, hbl, hcs⟩ := (hs.sl.ext hE).at_ hlt (by omega)
      dsimp only at e0
      subst e0
      have hlt1 : q < l.length := by rw [← HL.out]; exact hlt
      obtain ⟨s, hsq⟩ : ∃ s, s = l[q] := ⟨_, rfl⟩
      have hgs := HG.out _ (List.getElem_mem hlt1)
      rw [← hsq] at hgs
      unfold GoodStr at hgs
      have hsz : s.size ≤ 9223372036854775807 := by omega
      have x0 := hcs q hlt1 0 (by omega)
      simp only [← hsq, strF, List.getElem_cons_zero, Nat.mul_one, Nat.add_zero] at x0
      have hi1 : (q : Int) < (m : Int) := by omega
      have HS := Lib.hid hsq
      have HBAD : Hid (¬ (nameL (bys s) = true ∧ (0 < q → bO (l[q - 1]) s = true)) → flagsP l = false) := fun hb => by
        unfold flagsP
        rw [decide_eq_false (fun hall => hb (by have := hall q hlt1; rw [← HS.out] at this; exact this)), Bool.false_and]
      have HGOOD : Hid (nameL (bys s) = true → (0 < q → bO (l[q - 1]) s = true) → ∀ j (_ : j < q + 1) (h : j < l.length), nameL (bys l[j]) = true ∧ (0 < j → bO (l[j - 1]) l[j] = true)) := fun h1 h2 j hj h => by
          rcases Nat.lt_or_ge j q with h3 | h3
          · exact HC.out j h3 h
          · obtain rfl : j = q := by omega
            rw [← HS.out]; exact ⟨h1, h2⟩
      have HCS := Lib.hid hcs
      clear hcs hsq
      go_wp2_with (first
        | (go_at_call 66; refine Hid.out ?_))
      refine Hid.mk_ ((validName_any s hsz).mono ?_)
      rintro e w2 ⟨rfl, hE2⟩
      have hE02 := hE.trans hE2
      cases hn : nameL (bys s) with
      | false =>
        have HF := Lib.hid (HBAD.out (by rw [hn]; rintro ⟨h, _⟩; cases h))
        clear hn
        go_wp2
        go_ret
        exact ⟨by rw [HF.out]; first | done | rfl, hE02⟩
      | true =>
        have HN := Lib.hid hn
        clear hn
        by_cases h0 : q = 0
        · have h0i : ¬ (0 : Int) < (q : Int) := by omega
          have H0 : Hid (¬ 0 < q) := by show ¬ _; omega
          clear h0
          go_wp2
          go_roundw
          case rel => exact ⟨q + 1, by omega, by go_num, hE02, HGOOD.out HN.out (fun h => absurd h H0.out)⟩
          case measure => simp [intOf]; omega
        · have h0i : (0 : Int) < (q : Int) := by omega
          obtain ⟨p, hp⟩ : ∃ p, p = q - 1 := ⟨_, rfl⟩
          have hpi : (q : Int) - 1 = (p : Int) := by omega
          have hpl : p < l.length := by omega
          have hpm : (p : Int) < (m : Int) := by omega
          obtain ⟨t, htq⟩ : ∃ t, t = l[p] := ⟨_, rfl⟩
          have x1 := HCS.out p hpl 0 (by omega)
          simp only [← htq, strF, List.getElem_cons_zero, Nat.mul_one, Nat.add_zero] at x1
          have x2 := later hE2 x1
          have HP : Hid (∀ h, l[q - 1]'h = t) := fun h => by rw [htq]; simp only [hp]
          clear htq hp x1
          cases hb : Op.bytesLess t.toList s.toList with
          | true =>
            have HB : Hid (0 < q → bO (l[q - 1]) s = true) := fun _ => by exact (congrArg (fun z => bO z s) (HP.out _)).trans hb
            go_wp2
            go_roundw
            case rel => exact ⟨q + 1, by omega, by go_num, hE02, HGOOD.out HN.out HB.out⟩
            case measure => simp [intOf]; omega
          | false =>
            have HF := Lib.hid (HBAD.out (fun hh => by have h9 := hh.2 (by omega); rw [HP.out (by omega)] at h9; rw [show bO t s = false from hb] at h9; cases h9))
            go_wp2
            go_ret
            exact ⟨by rw [HF.out]; first | done | rfl, hE02⟩
    · have hi1 : ¬ (q : Int) < (m : Int) := by omega
      have HN : Hid (FlOk l) := fun j hj => HC.out j (by have := HL.out; omega) hj
      by_cases h20 : m ≤ 20
      · have i1 : (m : Int) ≤ 20 := by omega
        have HF : Hid (flagsP l = true) := by show _ = _; unfold flagsP; rw [decide_eq_true HN.out, decide_eq_true (by have := HL.out; omega)]; rfl
        go_wp2
        go_ret
        exact ⟨by rw [HF.out]; first | done | rfl, hE⟩
      · have i1 : ¬ (m : Int) ≤ 20 := by omega
        have HF : Hid (flagsP l = false) := by show _ = _; unfold flagsP; rw [decide_eq_false (show ¬ l.length ≤ 20 by have := HL.out; omega), Bool.and_false]
        go_wp2
        go_ret
        exact ⟨by rw [HF.out]; first | done | rfl, hE⟩
end

end Go.Proofs.YtgnchicipmomlaaGreatDoor

/- The program's check of fields. -/
namespace Go.Proofs.YtgnchicipmomlaaGreatDoor
open Go.RowKit
set_option maxRecDepth 100000

section
variable {w : World}
set_option maxHeartbeats 3200000 in
theorem fields_any {h : SlH} {l : List Fd} (hs : FdsW w h l) (hT : Tabs w) :
    Calls Tryz.prog 37 #[.slice h.A h.m h.c] w fun e w' => e = .returned (.bool (fieldsP l)) ∧ Ext w w' := by
  obtain ⟨A, m, c⟩ := h
  have HL := Lib.hid hs.sl.len
  have hle := hs.sl.le
  have HG := Lib.hid hs.good
  dsimp only at HL hle ⊢
  go_enter Tryz.func37, Tryz.ntmps37
  go_wp2
  go_loopw [3, 4, 7] (fun _ _ i wr => ∃ q : Nat, q ≤ m ∧ i = .int .i64 q ∧ Ext w wr ∧ Hid (∀ j (_ : j < q) (h : j < l.length), nameL (bys l[j].1) = true ∧ textL (bys l[j].2) = true ∧ (0 < j → bO (l[j - 1]).1 (l[j]).1 = true))) (fun _ _ i _ => m - (intOf i).toNat)
  case atStart => exact ⟨0, Nat.zero_le _, rfl, Ext.refl _, fun j hj _ => absurd hj (by omega)⟩
  case round =>
    obtain ⟨q, hq, rfl, hE, HC⟩ := hrel
    by_cases hlt : q < m
    · obtain ⟨b, off, e0, hbl, hcs⟩ := (hs.sl.ext hE).at_ hlt (by omega)
      dsimp only at e0
      subst e0
      have hlt1 : q < l.length := by rw [← HL.out]; exact hlt
      obtain ⟨x, hxq⟩ : ∃ x, x = l[q] := ⟨_, rfl⟩
      have hgs := HG.out _ (List.getElem_mem hlt1)
      rw [← hxq] at hgs
      obtain ⟨na, va⟩ := x
      obtain ⟨hgs, _⟩ := hgs
      unfold GoodStr at hgs
      dsimp only at hgs
      have x0 := hcs q hlt1 0 (by omega)
      have x1 := hcs q hlt1 1 (by omega)
      simp only [← hxq, fdC, List.getElem_cons_zero, List.getElem_cons_succ, Nat.add_zero, ← Nat.add_assoc] at x0 x1
      have hi1 : (q : Int) < (m : Int) := by omega
      have HS := Lib.hid hxq
      have HBAD : Hid (¬ (nameL (bys na) = true ∧ textL (bys va) = true ∧ (0 < q → bO (l[q - 1]).1 na = true)) → fieldsP l = false) := fun hb => by
        unfold fieldsP
        rw [decide_eq_false (fun hall => hb (by have := hall q hlt1; rw [← HS.out] at this; exact this)), Bool.false_and]
      have HGOOD : Hid (nameL (bys na) = true → textL (bys va) = true → (0 < q → bO (l[q - 1]).1 na = true) → ∀ j (_ : j < q + 1) (h : j < l.length), nameL (bys l[j].1) = true ∧ textL (bys l[j].2) = true ∧ (0 < j → bO (l[j - 1]).1 (l[j]).1 = true)) := fun h1 h2 h4 j hj h => by
          rcases Nat.lt_or_ge j q with h3 | h3
          · exact HC.out j h3 h
          · obtain rfl : j = q := by omega
            rw [← HS.out]; exact ⟨h1, h2, h4⟩
      have hb1 := Blk.new wr 56 #[.string na, .string va]
      have HEW : Hid (Ext w (wr.alloc (Obj.cells #[.string na, .string va] 56))) := hE.alloc _
      have hprev : Hid (0 < q → ∃ p, p < l.length ∧ (q : Int) - 1 = (p : Int) ∧ p < m ∧ ∃ t, (wr.alloc (Obj.cells #[.string na, .string va] 56)).cell? ⟨b, off + p * 2, none⟩ = some (.string t) ∧ (l[q - 1]'(by omega)).1 = t) := fun h0 => by
        refine ⟨q - 1, by omega, by omega, by omega, (l[q - 1]'(by omega)).1, ?_, rfl⟩
        have x2 := hcs (q - 1) (by omega) 0 (by omega)
        simp only [fdC, List.getElem_cons_zero, Nat.add_zero] at x2
        exact later ((Ext.refl wr).alloc _) x2
      clear hcs hxq
      go_wp2
      obtain ⟨W, hW⟩ : ∃ W, W = wr.alloc (Obj.cells #[.string na, .string va] 56) := ⟨_, rfl⟩
      rw [← hW] at hb1 HEW hprev ⊢
      obtain ⟨g, hg⟩ : ∃ g, g = wr.heap.size := ⟨_, rfl⟩
      rw [← hg] at hb1 ⊢
      have hTW := hT.ext HEW.out
      have y0 := latersU (hb1.cell 0)
      have y1 := latersU (hb1.cell 1)
      clear x0 x1 hW hg hb1
      have hna : na.size ≤ 9223372036854775807 := by omega
      cases hn : nameL (bys na) with
      | false =>
        have HF := Lib.hid (HBAD.out (by rw [hn]; rintro ⟨h, _⟩; cases h))
        have hv : ∀ u : ExtOf W, Calls Tryz.prog 66 #[.string na] u.1 fun e w' => e = .returned (.bool false) ∧ Ext u.1 w' := fun u => by
          have := validName_any na (w := u.1) hna; rw [hn] at this; exact this
        have HV := Lib.hid hv
        clear hv hn
        refine wp_region_ext_lit (by kernel_rfl) (by kernel_rfl) ?_
        try dsimp only [List.append]
        repeat (go_big_quiet_step ((go_at_call 66; exact Calls.quiet_ext (HV.out _))))
        refine wpQuiet_nil ?_
        rintro w5 ⟨⟨_, h5⟩, rfl⟩
        try dsimp only
        go_wp2
        go_ret
        exact ⟨by rw [HF.out]; first | done | rfl, HEW.out.trans h5⟩
      | true =>
        have HN := Lib.hid hn
        have hv : ∀ u : ExtOf W, Calls Tryz.prog 66 #[.string na] u.1 fun e w' => e = .returned (.bool true) ∧ Ext u.1 w' := fun u => by
          have := validName_any na (w := u.1) hna; rw [hn] at this; exact this
        have HV := Lib.hid hv
        clear hv hn
        cases ht : textL (bys va) with
        | false =>
          have HF := Lib.hid (HBAD.out (by rw [ht]; rintro ⟨_, h, _⟩; cases h))
          have hv : ∀ u : ExtOf W, Calls Tryz.prog 65 #[.string va] u.1 fun e w' => e = .returned (.bool false) ∧ Ext u.1 w' := fun u => by
            have := validText_any va (w := u.1) (hTW.ext u.ext); rw [ht] at this; exact this
          have HV2 := Lib.hid hv
          clear hv ht
          refine wp_region_ext_lit (by kernel_rfl) (by kernel_rfl) ?_
          try dsimp only [List.append]
          repeat (go_big_quiet_step (first | (go_at_call 66; exact Calls.quiet_ext (HV.out _)) | (go_at_call 65; exact Calls.quiet_ext (HV2.out _))))
          refine wpQuiet_nil ?_
          rintro w5 ⟨⟨_, h5⟩, rfl⟩
          try dsimp only
          go_wp2
          go_ret
          exact ⟨by rw [HF.out]; first | done | rfl, HEW.out.trans h5⟩
        | true =>
          have HTX := Lib.hid ht
          have hv : ∀ u : ExtOf W, Calls Tryz.prog 65 #[.string va] u.1 fun e w' => e = .returned (.bool true) ∧ Ext u.1 w' := fun u => by
            have := validText_any va (w := u.1) (hTW.ext u.ext); rw [ht] at this; exact this
          have HV2 := Lib.hid hv
          clear hv ht
          by_cases h0 : q = 0
          · have h0i : decide ((0 : Int) < (q : Int)) = false := decide_eq_false (by omega)
            have h0n : decide (0 < q) = false := decide_eq_false (by omega)
            have H0 : Hid (¬ 0 < q) := by show ¬ _; omega
            clear h0
            refine wp_region_ext_lit (by kernel_rfl) (by kernel_rfl) ?_
            try dsimp only [List.append]
            repeat (go_big_quiet_step (first | (go_at_call 66; exact Calls.quiet_ext (HV.out _)) | (go_at_call 65; exact Calls.quiet_ext (HV2.out _))))
            refine wpQuiet_nil ?_
            rintro w5 ⟨⟨_, h5⟩, rfl⟩
            try dsimp only
            go_wp2
            go_roundw
            case rel => exact ⟨q + 1, by omega, by go_num, HEW.out.trans h5, HGOOD.out HN.out HTX.out (fun h => absurd h H0.out)⟩
            case measure => simp [intOf]; omega
          · have h0i : (0 : Int) < (q : Int) := by omega
            have h0n : 0 < q := by omega
            obtain ⟨p, hpl, hpi, hpm, t, x2, hpt⟩ := hprev.out (by omega)
            have hpmi : (p : Int) < (m : Int) := by omega
            have y2 := latersU x2
            have HP := Lib.hid hpt
            clear x2 hpt hprev
            cases hb : Op.bytesLess t.toList na.toList with
            | true =>
              have HB : Hid (0 < q → bO (l[q - 1]).1 na = true) := fun _ => by rw [HP.out]; exact hb
              refine wp_region_ext_lit (by kernel_rfl) (by kernel_rfl) ?_
              try dsimp only [List.append]
              repeat (go_big_quiet_step (first | (go_at_call 66; exact Calls.quiet_ext (HV.out _)) | (go_at_call 65; exact Calls.quiet_ext (HV2.out _))))
              refine wpQuiet_nil ?_
              rintro w5 ⟨⟨_, h5⟩, rfl⟩
              try dsimp only
              go_wp2
              go_roundw
              case rel => exact ⟨q + 1, by omega, by go_num, HEW.out.trans h5, HGOOD.out HN.out HTX.out HB.out⟩
              case measure => simp [intOf]; omega
            | false =>
              have HF := Lib.hid (HBAD.out (fun hh => by have := hh.2.2 (by omega); rw [HP.out] at this; rw [show bO t na = false from hb] at this; cases this))
              refine wp_region_ext_lit (by kernel_rfl) (by kernel_rfl) ?_
              try dsimp only [List.append]
              repeat (go_big_quiet_step (first | (go_at_call 66; exact Calls.quiet_ext (HV.out _)) | (go_at_call 65; exact Calls.quiet_ext (HV2.out _))))
              refine wpQuiet_nil ?_
              rintro w5 ⟨⟨_, h5⟩, rfl⟩
              try dsimp only
              go_wp2
              go_ret
              exact ⟨by rw [HF.out]; first | done | rfl, HEW.out.trans h5⟩
    · have hi1 : ¬ (q : Int) < (m : Int) := by omega
      have HN : Hid (FdOk l) := fun j hj => HC.out j (by have := HL.out; omega) hj
      by_cases h20 : m ≤ 20
      · have i1 : (m : Int) ≤ 20 := by omega
        have HF : Hid (fieldsP l = true) := by show _ = _; unfold fieldsP; rw [decide_eq_true HN.out, decide_eq_true (by have := HL.out; omega)]; rfl
        go_wp2
        go_ret
        exact ⟨by rw [HF.out]; first | done | rfl, hE⟩
      · have i1 : ¬ (m : Int) ≤ 20 := by omega
        have HF : Hid (fieldsP l = false) := by show _ = _; unfold fieldsP; rw [decide_eq_false (show ¬ l.length ≤ 20 by have := HL.out; omega), Bool.and_false]
        go_wp2
        go_ret
        exact ⟨by rw [HF.out]; first | done | rfl, hE⟩
end

end Go.Proofs.YtgnchicipmomlaaGreatDoor

/- The program's check of an entry. -/
namespace Go.Proofs.YtgnchicipmomlaaGreatDoor
open Go.RowKit
set_option maxRecDepth 100000

theorem empty_size (s : ByteArray) : s.size = 0 ↔ s = ByteArray.empty := by
  constructor
  · intro h
    apply bys_inj
    have h1 : (bys s).length = 0 := by rw [bys_len]; exact h
    rw [List.eq_nil_of_length_eq_zero h1]
    rfl
  · rintro rfl
    rfl
theorem isEmpty_size (s : ByteArray) : s.toList.isEmpty = decide (s.size = 0) := by
  rw [ByteArray.toList_eq, Bool.eq_iff_iff, decide_eq_true_eq, List.isEmpty_iff, ← List.length_eq_zero_iff]
  exact Iff.of_eq (congrArg (· = 0) (bys_len s))
def entV (x : Ent) : Value := .agg #[.string x.p.id, .string x.p.src, .string x.p.tgt, .slice x.c.A x.c.m x.c.c, .slice x.f.A x.f.m x.f.c, .int .i64 x.p.st, .slice x.d.A x.d.m x.d.c]
attribute [local go_sem] ext_refl_t ext_alloc_t ext_drew_t ext_drewN_t ext_alloc2_t ext_alloc3_t ext_alloc4_t ext_alloc5_t ext_alloc6_t ext_alloc7_t ext_alloc8_t ext_alloc1d_t ext_alloc2d_t ext_alloc3d_t ext_alloc4d_t
section
variable {w : World}
set_option maxHeartbeats 6400000 in
theorem validEntry_any {x : Ent} (hx : EntW w x) (hT : Tabs w) :
    Calls Tryz.prog 38 #[entV x] w fun e w' => e = .returned (.bool (validE x.p)) ∧ Ext w w' := by
  obtain ⟨⟨id, src, tgt, com, fl, st, fd⟩, hc, hf, hd⟩ := x
  obtain ⟨kc, kf, kd, gid, gsrc, gtgt, gst1, gst2⟩ := hx
  unfold entV
  dsimp only at *
  have hb := Blk.new w 39 #[.string id, .string src, .string tgt, .slice hc.A hc.m hc.c, .slice hf.A hf.m hf.c, .int .i64 st, .slice hd.A hd.m hd.c]
  have hW0 : Ext w (w.alloc (Obj.cells #[.string id, .string src, .string tgt, .slice hc.A hc.m hc.c, .slice hf.A hf.m hf.c, .int .i64 st, .slice hd.A hd.m hd.c] 39)) := (Ext.refl w).alloc _
  have X0 := laters (show _ = some (.string id) from hb.cell 0)
  have X1 := laters (show _ = some (.string src) from hb.cell 1)
  have X2 := laters (show _ = some (.string tgt) from hb.cell 2)
  have X3 := laters (show _ = some (.slice hc.A hc.m hc.c) from hb.cell 3)
  have X4 := laters (show _ = some (.slice hf.A hf.m hf.c) from hb.cell 4)
  have X5 := laters (show _ = some (.int .i64 st) from hb.cell 5)
  have X6 := laters (show _ = some (.slice hd.A hd.m hd.c) from hb.cell 6)
  clear hb
  by_cases c1 : id = ByteArray.empty
  · subst c1
    have HF : Hid (validE ⟨ByteArray.empty, src, tgt, com, fl, st, fd⟩ = false) := by show validE _ = false; unfold validE; rfl
    go_enter Tryz.func38, Tryz.ntmps38
    go_wp2
    go_ret
    exact ⟨by rw [HF.out]; first | done | rfl, hW0⟩
  have e1 : id.toList.isEmpty = false := by rw [isEmpty_size]; exact decide_eq_false (fun h => c1 ((empty_size _).1 h))
  have z1 : decide (id.size = 0) = false := decide_eq_false (fun h => c1 ((empty_size _).1 h))
  have Z1 := Lib.hid z1
  clear z1
  by_cases c2 : 200 < id.size
  · have c2i : (200 : Int) < (id.size : Int) := by omega
    have HF : Hid (validE ⟨id, src, tgt, com, fl, st, fd⟩ = false) := by show validE _ = false; unfold validE; dsimp only; rw [decide_eq_false (show ¬ id.size ≤ 200 by omega)]; simp
    go_enter Tryz.func38, Tryz.ntmps38
    go_wp2
    go_ret
    exact ⟨by rw [HF.out]; first | done | rfl, hW0⟩
  have c2i : ¬ (200 : Int) < (id.size : Int) := by omega
  have Z2 := Lib.hid (decide_eq_true (show id.size ≤ 200 by omega))
  go_enter Tryz.func38, Tryz.ntmps38
  go_wp2_with (first
    | (go_at_call 65; refine Hid.out ?_))
  refine Hid.mk_ ((validText_any id (hT.ext hW0)).mono ?_)
  rintro e w1 ⟨rfl, hE1⟩
  have hE01 := hW0.trans hE1
  cases ct : textL (bys id) with
  | false =>
    have HF : Hid (validE ⟨id, src, tgt, com, fl, st, fd⟩ = false) := by show validE _ = false; unfold validE; dsimp only; rw [ct]; simp
    clear ct
    go_wp2
    go_ret
    exact ⟨by rw [HF.out]; first | done | rfl, hE01⟩
  | true =>
  have Z3 := Lib.hid ct
  clear ct
  by_cases c4 : st < 0
  · have HF : Hid (validE ⟨id, src, tgt, com, fl, st, fd⟩ = false) := by show validE _ = false; unfold validE; dsimp only; rw [decide_eq_false (show ¬ (0 ≤ st ∧ st ≤ 4) by omega)]; simp
    go_wp2
    go_ret
    exact ⟨by rw [HF.out]; first | done | rfl, hE01⟩
  by_cases c5 : 4 < st
  · have HF : Hid (validE ⟨id, src, tgt, com, fl, st, fd⟩ = false) := by show validE _ = false; unfold validE; dsimp only; rw [decide_eq_false (show ¬ (0 ≤ st ∧ st ≤ 4) by omega)]; simp
    go_wp2
    go_ret
    exact ⟨by rw [HF.out]; first | done | rfl, hE01⟩
  have Z4 := Lib.hid (decide_eq_true (show 0 ≤ st ∧ st ≤ 4 by omega))
  go_wp2_with (first
    | (go_at_call 65; refine Hid.out ?_))
  refine Hid.mk_ ((validText_any src (hT.ext hE01)).mono ?_)
  rintro e w2 ⟨rfl, hE2⟩
  have hE12 := hE1.trans hE2
  have hE02 := hE01.trans hE2
  cases ct : textL (bys src) with
  | false =>
    have HF : Hid (validE ⟨id, src, tgt, com, fl, st, fd⟩ = false) := by show validE _ = false; unfold validE; dsimp only; rw [ct]; simp
    clear ct
    go_wp2
    go_ret
    exact ⟨by rw [HF.out]; first | done | rfl, hE02⟩
  | true =>
  have Z5 := Lib.hid ct
  clear ct
  go_wp2_with (first
    | (go_at_call 65; refine Hid.out ?_))
  refine Hid.mk_ ((validText_any tgt (hT.ext hE02)).mono ?_)
  rintro e w3 ⟨rfl, hE3⟩
  have hE13 := hE12.trans hE3
  have hE03 := hE02.trans hE3
  cases ct : textL (bys tgt) with
  | false =>
    have HF : Hid (validE ⟨id, src, tgt, com, fl, st, fd⟩ = false) := by show validE _ = false; unfold validE; dsimp only; rw [ct]; simp
    clear ct
    go_wp2
    go_ret
    exact ⟨by rw [HF.out]; first | done | rfl, hE03⟩
  | true =>
  have Z6 := Lib.hid ct
  clear ct
  go_wp2_with (first
    | (go_at_call 36; refine Hid.out ?_))
  refine Hid.mk_ ((texts_any (kc.ext hE03) (hT.ext hE03)).mono ?_)
  rintro e w4 ⟨rfl, hE4⟩
  have hE14 := hE13.trans hE4
  have hE04 := hE03.trans hE4
  cases ct : textsP com with
  | false =>
    have HF : Hid (validE ⟨id, src, tgt, com, fl, st, fd⟩ = false) := by show validE _ = false; unfold validE; dsimp only; rw [ct]; simp
    clear ct
    go_wp2
    go_ret
    exact ⟨by rw [HF.out]; first | done | rfl, hE04⟩
  | true =>
  have Z7 := Lib.hid ct
  clear ct
  go_wp2_with (first
    | (go_at_call 67; refine Hid.out ?_))
  refine Hid.mk_ ((flags_any (kf.ext hE04)).mono ?_)
  rintro e w5 ⟨rfl, hE5⟩
  have hE15 := hE14.trans hE5
  have hE05 := hE04.trans hE5
  cases ct : flagsP fl with
  | false =>
    have HF : Hid (validE ⟨id, src, tgt, com, fl, st, fd⟩ = false) := by show validE _ = false; unfold validE; dsimp only; rw [ct]; simp
    clear ct
    go_wp2
    go_ret
    exact ⟨by rw [HF.out]; first | done | rfl, hE05⟩
  | true =>
  have Z8 := Lib.hid ct
  clear ct
  have HF : Hid (validE ⟨id, src, tgt, com, fl, st, fd⟩ = fieldsP fd) := by
    show validE _ = _
    unfold validE
    dsimp only
    rw [Z1.out, Z2.out, Z3.out, Z4.out, Z5.out, Z6.out, Z7.out, Z8.out]
    rfl
  go_wp2_with (first
    | (go_at_call 37; refine Hid.out ?_))
  refine Hid.mk_ ((fields_any (kd.ext hE05) (hT.ext hE05)).mono ?_)
  rintro e w6 ⟨rfl, hE6⟩
  go_wp2
  go_ret
  exact ⟨by rw [HF.out]; first | done | rfl, (hE05.trans hE6)⟩
end

end Go.Proofs.YtgnchicipmomlaaGreatDoor

/- The program's check of a catalog. -/
namespace Go.Proofs.YtgnchicipmomlaaGreatDoor
open Go.RowKit Go.Maps
set_option maxRecDepth 100000
attribute [local go_sem] ext_refl_t ext_alloc_t ext_drew_t ext_drewN_t ext_alloc2_t ext_alloc3_t ext_alloc4_t ext_alloc5_t ext_alloc6_t ext_alloc7_t ext_alloc8_t ext_alloc1d_t ext_alloc2d_t ext_alloc3d_t ext_alloc4d_t

theorem keyedS : Keyed Tryz.prog 9 := string_keyed Tryz.underlying9
theorem keyS (s : ByteArray) (h : s.size ≤ maxLen) : keyOf Tryz.prog 9 (.string s) = some (.string s.data.toList) := by
  simp [keyOf, Tryz.underlying9, mapKey, h]
theorem zero_b (w : World) : (zeroValue 4).run Tryz.prog w = .ok (.bool false) w := by kernel_rfl
open Classical in
/-- Block bm is a set of at most n strings, S, as a map to true. -/
def SM (w : World) (bm n : Nat) (S : List ByteArray) : Prop :=
  ∃ D : DataW Unit, w.ownsMap Tryz.prog 9 (plainElem Tryz.prog 4) bm n D ∧ ∀ s : ByteArray, s.size ≤ maxLen → D.atKey (.string s.data.toList) (.lit (.bool false)) = .lit (.bool (decide (s ∈ S)))
section
variable {w w' : World} {bm n : Nat} {S : List ByteArray}
theorem SM.lt (h : SM w bm n S) : bm < w.heap.size := by obtain ⟨D, ho, _⟩ := h; exact ho.lt
theorem SM.kept {r : Option Nat} (h : SM w bm n S) (hg : w.grownBy w' r) (hr : some bm ≠ r) : SM w' bm n S := by
  obtain ⟨D, ho, hv⟩ := h
  exact ⟨D, ho.kept hg hr, hv⟩
theorem SM.ext (h : SM w bm n S) (hE : Ext w w') : SM w' bm n S := h.kept (hE.grownBy none) (by simp)
open Classical in
theorem SM.made (w : World) : SM (w.alloc (.map #[] 0)) w.heap.size 0 [] :=
  ⟨.map [], World.ownsMap_made _ _ _ _, fun _ _ => by rw [decide_eq_false (by simp)]; rfl⟩
open Classical in
theorem SM.look (h : SM w bm n S) (s : ByteArray) (hs : s.size ≤ maxLen) : (Instr.lookup 50 (.map (some bm)) (.string s) false).run Tryz.prog w = .ok (.bool (decide (s ∈ S))) w := by
  obtain ⟨D, ho, hv⟩ := h
  obtain ⟨v, ps, hrun, hR⟩ := ho.lookup keyedS Tryz.underlying50 (zero_b w) (plainElem_bool Tryz.underlying4 false) (keyS s hs)
  rw [hv s hs] at hR
  have e : v = .bool (decide (s ∈ S)) := by
    unfold plainElem at hR
    rw [Tryz.underlying4] at hR
    cases v <;> simp at hR
    rw [hR.1]
  rw [← e]
  exact hrun
open Classical in
theorem SM.store (h : SM w bm n S) (hn : n < maxLen) (s : ByteArray) (hs : s.size ≤ maxLen) :
    ∃ w', (Instr.mapUpdate 50 (.map (some bm)) (.string s) (.bool true)).run Tryz.prog w = .ok () w' ∧ SM w' bm (n + 1) (S ++ [s]) ∧ w.grownBy w' (some bm) := by
  obtain ⟨D, ho, hv⟩ := h
  obtain ⟨w', hrun, ho', hg⟩ := ho.update keyedS Tryz.underlying50 hn (keyS s hs) (plainElem_bool Tryz.underlying4 true)
  refine ⟨w', hrun, ⟨_, ho', fun t ht => ?_⟩, hg⟩
  by_cases hk : t = s
  · subst hk
    rw [atKey_put_same ho.isMap (keyedS.key (keyS t hs))]
    rw [decide_eq_true (show t ∈ S ++ [t] by simp)]
  · have hne : (Lit.string t.data.toList) ≠ Lit.string s.data.toList := fun e => by
      injection e with e
      exact hk (bys_inj e)
    rw [atKey_put_other hne, hv t ht]
    by_cases hm : t ∈ S
    · rw [decide_eq_true hm, decide_eq_true (show t ∈ S ++ [s] by simp [hm])]
    · rw [decide_eq_false hm, decide_eq_false (show ¬ t ∈ S ++ [s] by simp [hm, hk])]
end

/-- A catalog as a value. -/
def catV (x : Cat) : Value := .agg #[.string x.tag, .slice x.c.A x.c.m x.c.c, .slice x.d.A x.d.m x.d.c, .slice x.e.A x.e.m x.e.c]
section
variable {w : World}
open Classical in
set_option maxHeartbeats 6400000 in
theorem valid_any' {x : Cat} (hx : CatW w x) (hT : Tabs w) :
    Calls Tryz.prog 17 #[catV x] w fun e w' => e = .returned (.bool (validC x.p)) ∧ Ext w w' := by
  obtain ⟨tag, com, fd, es, hc, hd, ⟨eA, em, ec⟩⟩ := x
  obtain ⟨gtag, kc, kd, ke⟩ := hx
  unfold catV
  dsimp only at *
  have hb := Blk.new w 32 #[.string tag, .slice hc.A hc.m hc.c, .slice hd.A hd.m hd.c, .slice eA em ec]
  have hW0 : Ext w (w.alloc (Obj.cells #[.string tag, .slice hc.A hc.m hc.c, .slice hd.A hd.m hd.c, .slice eA em ec] 32)) := (Ext.refl w).alloc _
  have X0 := laters (show _ = some (.string tag) from hb.cell 0)
  have X1 := laters (show _ = some (.slice hc.A hc.m hc.c) from hb.cell 1)
  have X2 := laters (show _ = some (.slice hd.A hd.m hd.c) from hb.cell 2)
  have X3 := laters (show _ = some (.slice eA em ec) from hb.cell 3)
  clear hb
  unfold GoodStr at gtag
  have gt2 : tag.size ≤ 140737488355328 := by omega
  have HL := Lib.hid ke.sl.len
  dsimp only at HL
  have HV : Hid (∀ b : Bool, (tagL (bys tag) && textsP com && fieldsP fd && decide (es.length ≤ 1000) && decide (EsOk (es.map Ent.p))) = b → validC (Cat.p ⟨tag, com, fd, es, hc, hd, ⟨eA, em, ec⟩⟩) = b) := fun b hb => by
    rw [← hb]
    show validC _ = _
    unfold validC headP Cat.p
    dsimp only
    rw [List.length_map]
  go_enter Tryz.func17, Tryz.ntmps17
  go_wp2_with (first
    | (go_at_call 35; refine Hid.out ?_))
  refine Hid.mk_ ((validTag_any tag gt2).mono ?_)
  rintro e w1 ⟨rfl, hE1⟩
  have hE01 := hW0.trans hE1
  cases ct : tagL (bys tag) with
  | false =>
    have HF := Lib.hid (HV.out false (by rw [ct]; simp))
    clear ct
    go_wp2
    go_ret
    exact ⟨by rw [HF.out]; first | done | rfl, hE01⟩
  | true =>
  have Z1 := Lib.hid ct
  clear ct
  go_wp2_with (first
    | (go_at_call 36; refine Hid.out ?_))
  refine Hid.mk_ ((texts_any (kc.ext hE01) (hT.ext hE01)).mono ?_)
  rintro e w2 ⟨rfl, hE2⟩
  have hE12 := hE1.trans hE2
  have hE02 := hE01.trans hE2
  cases ct : textsP com with
  | false =>
    have HF := Lib.hid (HV.out false (by rw [ct]; simp))
    clear ct
    go_wp2
    go_ret
    exact ⟨by rw [HF.out]; first | done | rfl, hE02⟩
  | true =>
  have Z2 := Lib.hid ct
  clear ct
  go_wp2_with (first
    | (go_at_call 37; refine Hid.out ?_))
  refine Hid.mk_ ((fields_any (kd.ext hE02) (hT.ext hE02)).mono ?_)
  rintro e w3 ⟨rfl, hE3⟩
  have hE13 := hE12.trans hE3
  have hE03 := hE02.trans hE3
  cases ct : fieldsP fd with
  | false =>
    have HF := Lib.hid (HV.out false (by rw [ct]; simp))
    clear ct
    go_wp2
    go_ret
    exact ⟨by rw [HF.out]; first | done | rfl, hE03⟩
  | true =>
  have Z3 := Lib.hid ct
  clear ct
  by_cases c4 : 1000 < em
  · have c4i : (1000 : Int) < (em : Int) := by omega
    have HF := Lib.hid (HV.out false (by rw [decide_eq_false (show ¬ es.length ≤ 1000 by have := HL.out; omega)]; simp))
    go_wp2
    go_ret
    exact ⟨by rw [HF.out]; first | done | rfl, hE03⟩
  have c4i : ¬ (1000 : Int) < (em : Int) := by omega
  have HV2 : Hid (∀ b : Bool, decide (EsOk (es.map Ent.p)) = b → validC (Cat.p ⟨tag, com, fd, es, hc, hd, ⟨eA, em, ec⟩⟩) = b) := fun b hb => HV.out b (by
    rw [Z1.out, Z2.out, Z3.out, decide_eq_true (show es.length ≤ 1000 by have := HL.out; omega), hb]; rfl)
  have hmm := @run_makeMap Tryz.prog
  have hm0 := SM.made w3
  have hEm : Ext w3 (w3.alloc (.map #[] 0)) := (Ext.refl _).alloc _
  have hE13' := hE13.trans hEm
  have hE03' := hE03.trans hEm
  go_wp2
  obtain ⟨W4, hW4⟩ : ∃ W4, W4 = w3.alloc (.map #[] 0) := ⟨_, rfl⟩
  rw [← hW4] at hm0 hE03' ⊢
  obtain ⟨bm, hbm⟩ : ∃ bm, bm = w3.heap.size := ⟨_, rfl⟩
  rw [← hbm] at hm0 ⊢
  have hbmw : w.heap.size ≤ bm := by rw [hbm]; exact hE03.size_le
  clear hmm hW4 hbm hEm hE13' X0 X1 X2 X3 hE13 hE12 hE1 hE2 hE3 hE01 hE02
  go_loopw [5, 32] (fun _ i wr => ∃ q : Nat, q ≤ em ∧ i = .int .i64 q ∧ Ext w wr ∧ SM wr bm q ((es.take q).map fun y => y.p.id) ∧ Hid (∀ i (_ : i < q) (h : i < es.length), validE es[i].p = true ∧ ∀ j (_ : j < i), (es[j]'(by omega)).p.id ≠ es[i].p.id)) (fun _ i _ => em - (intOf i).toNat)
  case atStart => exact ⟨0, Nat.zero_le _, rfl, hE03', by simpa using hm0, fun j hj _ => absurd hj (by omega)⟩
  case round =>
    obtain ⟨q, hq, rfl, hE, hS, HC⟩ := hrel
    by_cases hlt : q < em
    · have hi1 : (q : Int) < (em : Int) := by omega
      obtain ⟨b, off, e0, hbl, hcs⟩ := (ke.sl.ext hE).at_ hlt (by omega)
      dsimp only at e0
      subst e0
      have hlt1 : q < es.length := by rw [← HL.out]; exact hlt
      obtain ⟨y, hyq⟩ : ∃ y, y = es[q] := ⟨_, rfl⟩
      have hy := ke.good _ (List.getElem_mem hlt1)
      rw [← hyq] at hy
      have hyE := hy.ext hE
      have gid := hy.id
      have y0 := hcs q hlt1 0 (by omega)
      have y1 := hcs q hlt1 1 (by omega)
      have y2 := hcs q hlt1 2 (by omega)
      have y3 := hcs q hlt1 3 (by omega)
      have y4 := hcs q hlt1 4 (by omega)
      have y5 := hcs q hlt1 5 (by omega)
      have y6 := hcs q hlt1 6 (by omega)
      simp only [← hyq, entC, List.getElem_cons_zero, List.getElem_cons_succ, Nat.add_zero, ← Nat.add_assoc] at y0 y1 y2 y3 y4 y5 y6
      have HY := Lib.hid hyq
      have HBAD : Hid (¬ (validE y.p = true ∧ ∀ j (_ : j < q), (es[j]'(by omega)).p.id ≠ y.p.id) → decide (EsOk (es.map Ent.p)) = false) := fun hb => by
        apply decide_eq_false
        intro hall
        have h1 := hall q (by rw [List.length_map]; exact hlt1)
        simp only [List.getElem_map] at h1
        rw [← HY.out] at h1
        exact hb ⟨h1.1, fun j hj => h1.2 j hj⟩
      clear hcs hyq
      obtain ⟨⟨id, src, tgt, com', fl, st, fd'⟩, hc', hf', hd'⟩ := y
      dsimp only at y0 y1 y2 y3 y4 y5 y6 gid
      unfold GoodStr at gid
      have gidm : id.size ≤ maxLen := by unfold maxLen; omega
      have hEx : Ext wr (wr.alloc (Obj.cells #[.string id, .string src, .string tgt, .slice hc'.A hc'.m hc'.c, .slice hf'.A hf'.m hf'.c, .int .i64 st, .slice hd'.A hd'.m hd'.c] 39)) := (Ext.refl _).alloc _
      have hSx := hS.ext hEx
      have l1 := hSx.look id gidm
      have hbx := Blk.new wr 39 #[.string id, .string src, .string tgt, .slice hc'.A hc'.m hc'.c, .slice hf'.A hf'.m hf'.c, .int .i64 st, .slice hd'.A hd'.m hd'.c]
      have hmem : (id ∈ (es.take q).map fun y => y.p.id) ↔ ∃ j, ∃ hj : j < q, (es[j]'(by omega)).p.id = id := by
        constructor
        · intro h
          obtain ⟨z, hz, rfl⟩ := List.mem_map.1 h
          obtain ⟨j, hj, rfl⟩ := List.mem_iff_getElem.1 hz
          rw [List.length_take] at hj
          exact ⟨j, by omega, by rw [List.getElem_take]⟩
        · rintro ⟨j, hj, e⟩
          exact List.mem_map.2 ⟨es[j]'(by omega), List.mem_iff_getElem.2 ⟨j, by rw [List.length_take]; omega, by rw [List.getElem_take]⟩, e⟩
      by_cases hin : id ∈ (es.take q).map fun y => y.p.id
      · rw [decide_eq_true hin] at l1
        have HF := Lib.hid (HV2.out false (HBAD.out (fun hh => by
          obtain ⟨j, hj, e⟩ := hmem.1 hin
          exact hh.2 j hj e)))
        clear hin hmem hbx
        go_wp2
        go_ret
        exact ⟨by rw [HF.out]; first | done | rfl, hE.trans hEx⟩
      · rw [decide_eq_false hin] at l1
        have HNIN : Hid (∀ j (hj : j < q), (es[j]'(by omega)).p.id ≠ id) := fun j hj e => hin (hmem.2 ⟨j, hj, e⟩)
        clear hin hmem
        go_wp2_with (first
          | (go_at_call 38; refine Hid.out ?_))
        refine Hid.mk_ ((validEntry_any (x := ⟨⟨id, src, tgt, com', fl, st, fd'⟩, hc', hf', hd'⟩) (hyE.ext hEx) ((hT.ext hE).ext hEx)).mono ?_)
        rintro e w5 ⟨rfl, hE5⟩
        have hE15 := hEx.trans hE5
        have hE05 := hE.trans hE15
        dsimp only
        cases cv : validE ⟨id, src, tgt, com', fl, st, fd'⟩ with
        | false =>
          have HF := Lib.hid (HV2.out false (HBAD.out (fun hh => by rw [cv] at hh; cases hh.1)))
          clear cv hbx
          go_wp2
          go_ret
          exact ⟨by rw [HF.out]; first | done | rfl, hE05⟩
        | true =>
          have HCV := Lib.hid cv
          clear cv
          have hb5 := hbx.below hE5 hbx.lt
          have z0 : w5.cell? ⟨wr.heap.size, 0, none⟩ = some (.string id) := hb5.cell 0
          obtain ⟨w6, hupd, hS6, hg6⟩ := (hS.ext hE15).store (show q < maxLen by unfold maxLen; omega) id gidm
          have hE06 : Ext w w6 := hE05.grown hg6 (fun k hk => by injection hk with hk; omega)
          have HS6 : Hid (SM w6 bm (q + 1) ((es.take (q + 1)).map fun y => y.p.id)) := by
            show SM _ _ _ _
            rw [List.take_succ_eq_append_getElem hlt1, List.map_append, ← HY.out]
            exact hS6
          have HC6 : Hid (∀ i (_ : i < q + 1) (h : i < es.length), validE es[i].p = true ∧ ∀ j (_ : j < i), (es[j]'(by omega)).p.id ≠ es[i].p.id) := fun i hi h => by
            rcases Nat.lt_or_ge i q with h3 | h3
            · exact HC.out i h3 h
            · obtain rfl : i = q := by omega
              rw [← HY.out]
              exact ⟨HCV.out, fun j hj => HNIN.out j hj⟩
          clear hbx hb5 hS6 hg6
          go_wp2
          go_roundw
          case rel => exact ⟨q + 1, by omega, by go_num, hE06, HS6.out, HC6⟩
          case measure => simp [intOf]; omega
    · have hi1 : ¬ (q : Int) < (em : Int) := by omega
      have HF := Lib.hid (HV2.out true (decide_eq_true (fun i hi => by
        rw [List.length_map] at hi
        have h1 := HC.out i (by have := HL.out; omega) hi
        simp only [List.getElem_map]
        exact ⟨h1.1, fun j hj => h1.2 j hj⟩)))
      go_wp2
      go_ret
      exact ⟨by rw [HF.out]; first | done | rfl, hE⟩
end

end Go.Proofs.YtgnchicipmomlaaGreatDoor
