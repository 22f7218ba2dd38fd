/- The program's check of flags. -/
import Derived.Test.YtikbjaopcminaaaDoorCatV
import Derived.Test.YtikbjaopcminaaaDoorTag
import Derived.Test.YtikbjaopcminaaaDoorExtS
import Derived.Test.YtikbjaopcminaaaDoorQExt
namespace Go.Proofs.YtikbjaopcminaaaDoor
open Go.RowKit
set_option maxRecDepth 100000

section
variable {w : World}
set_option maxHeartbeats 3200000 in
theorem flags_any {h : SlH} {l : List ByteArray} (hs : StrsW w h l) :
    Calls Tryd.prog 60 #[.slice h.A h.m h.c] w fun e w' => e = .returned (.bool (flagsP l)) ∧ Ext w w' := by
  obtain ⟨A, m, c⟩ := h
  have HL := Lib.hid hs.sl.len
  have hle := hs.sl.le
  have HG := Lib.hid hs.good
  dsimp only at HL hle ⊢
  go_enter Tryd.func60, Tryd.ntmps60
  go_wp2
  go_loopw [3, 4, 7] (fun _ _ i wr => ∃ q : Nat, q ≤ m ∧ i = .int .i64 q ∧ Ext w wr ∧ Hid (∀ j (_ : j < q) (h : j < l.length), nameL (bys l[j]) = true ∧ (0 < j → bO (l[j - 1]) l[j] = true))) (fun _ _ i _ => m - (intOf i).toNat)
  case atStart => exact ⟨0, Nat.zero_le _, rfl, Ext.refl _, fun j hj _ => absurd hj (by omega)⟩
  case round =>
    obtain ⟨q, hq, rfl, hE, HC⟩ := hrel
    by_cases hlt : q < m
    · obtain ⟨b, off, e0, hbl, hcs⟩ := (hs.sl.ext hE).at_ hlt (by omega)
      dsimp only at e0
      subst e0
      have hlt1 : q < l.length := by rw [← HL.out]; exact hlt
      obtain ⟨s, hsq⟩ : ∃ s, s = l[q] := ⟨_, rfl⟩
      have hgs := HG.out _ (List.getElem_mem hlt1)
      rw [← hsq] at hgs
      unfold GoodStr at hgs
      have hsz : s.size ≤ 9223372036854775807 := by omega
      have x0 := hcs q hlt1 0 (by omega)
      simp only [← hsq, strF, List.getElem_cons_zero, Nat.mul_one, Nat.add_zero] at x0
      have hi1 : (q : Int) < (m : Int) := by omega
      have HS := Lib.hid hsq
      have HBAD : Hid (¬ (nameL (bys s) = true ∧ (0 < q → bO (l[q - 1]) s = true)) → flagsP l = false) := fun hb => by
        unfold flagsP
        rw [decide_eq_false (fun hall => hb (by have := hall q hlt1; rw [← HS.out] at this; exact this)), Bool.false_and]
      have HGOOD : Hid (nameL (bys s) = true → (0 < q → bO (l[q - 1]) s = true) → ∀ j (_ : j < q + 1) (h : j < l.length), nameL (bys l[j]) = true ∧ (0 < j → bO (l[j - 1]) l[j] = true)) := fun h1 h2 j hj h => by
          rcases Nat.lt_or_ge j q with h3 | h3
          · exact HC.out j h3 h
          · obtain rfl : j = q := by omega
            rw [← HS.out]; exact ⟨h1, h2⟩
      have HCS := Lib.hid hcs
      clear hcs hsq
      go_wp2_with (first
        | (go_at_call 13; refine Hid.out ?_))
      refine Hid.mk_ ((validName_any s hsz).mono ?_)
      rintro e w2 ⟨rfl, hE2⟩
      have hE02 := hE.trans hE2
      cases hn : nameL (bys s) with
      | false =>
        have HF := Lib.hid (HBAD.out (by rw [hn]; rintro ⟨h, _⟩; cases h))
        clear hn
        go_wp2
        go_ret
        exact ⟨by rw [HF.out]; first | done | rfl, hE02⟩
      | true =>
        have HN := Lib.hid hn
        clear hn
        by_cases h0 : q = 0
        · have h0i : ¬ (0 : Int) < (q : Int) := by omega
          have H0 : Hid (¬ 0 < q) := by show ¬ _; omega
          clear h0
          go_wp2
          go_roundw
          case rel => exact ⟨q + 1, by omega, by go_num, hE02, HGOOD.out HN.out (fun h => absurd h H0.out)⟩
          case measure => simp [intOf]; omega
        · have h0i : (0 : Int) < (q : Int) := by omega
          obtain ⟨p, hp⟩ : ∃ p, p = q - 1 := ⟨_, rfl⟩
          have hpi : (q : Int) - 1 = (p : Int) := by omega
          have hpl : p < l.length := by omega
          have hpm : (p : Int) < (m : Int) := by omega
          obtain ⟨t, htq⟩ : ∃ t, t = l[p] := ⟨_, rfl⟩
          have x1 := HCS.out p hpl 0 (by omega)
          simp only [← htq, strF, List.getElem_cons_zero, Nat.mul_one, Nat.add_zero] at x1
          have x2 := later hE2 x1
          have HP : Hid (∀ h, l[q - 1]'h = t) := fun h => by rw [htq]; simp only [hp]
          clear htq hp x1
          cases hb : Op.bytesLess t.toList s.toList with
          | true =>
            have HB : Hid (0 < q → bO (l[q - 1]) s = true) := fun _ => by exact (congrArg (fun z => bO z s) (HP.out _)).trans hb
            go_wp2
            go_roundw
            case rel => exact ⟨q + 1, by omega, by go_num, hE02, HGOOD.out HN.out HB.out⟩
            case measure => simp [intOf]; omega
          | false =>
            have HF := Lib.hid (HBAD.out (fun hh => by have h9 := hh.2 (by omega); rw [HP.out (by omega)] at h9; rw [show bO t s = false from hb] at h9; cases h9))
            go_wp2
            go_ret
            exact ⟨by rw [HF.out]; first | done | rfl, hE02⟩
    · have hi1 : ¬ (q : Int) < (m : Int) := by omega
      have HN : Hid (FlOk l) := fun j hj => HC.out j (by have := HL.out; omega) hj
      by_cases h20 : m ≤ 20
      · have i1 : (m : Int) ≤ 20 := by omega
        have HF : Hid (flagsP l = true) := by show _ = _; unfold flagsP; rw [decide_eq_true HN.out, decide_eq_true (by have := HL.out; omega)]; rfl
        go_wp2
        go_ret
        exact ⟨by rw [HF.out]; first | done | rfl, hE⟩
      · have i1 : ¬ (m : Int) ≤ 20 := by omega
        have HF : Hid (flagsP l = false) := by show _ = _; unfold flagsP; rw [decide_eq_false (show ¬ l.length ≤ 20 by have := HL.out; omega), Bool.and_false]
        go_wp2
        go_ret
        exact ⟨by rw [HF.out]; first | done | rfl, hE⟩
end

end Go.Proofs.YtikbjaopcminaaaDoor
