/- SameStrings. -/
import Derived.Test.YtikbjaopcminaaaDoorStrs
import Derived.Test.YtikbjaopcminaaaDoorSame
namespace Go.Proofs.YtikbjaopcminaaaDoor
open Go.RowKit

theorem toList_inj {s t : ByteArray} (h : s.toList = t.toList) : s = t := by
  rw [ByteArray.toList_eq, ByteArray.toList_eq] at h
  exact bys_inj h
set_option maxHeartbeats 400000 in
theorem same5 {A B : Option Addr} {n n' : Nat} (c d : Nat) {l m : List ByteArray} {w : World} (ha : SlS w A n l) (hb : SlS w B n' m) :
    Calls Tryd.prog 39 #[.slice A n c, .slice B n' d] w fun e w' => e = .returned (.bool (decide (l = m))) ∧ Ext w w' := by
  have HL1 := Lib.hid ha.len
  have HL2 := Lib.hid hb.len
  have hle := ha.le
  have hle' := hb.le
  by_cases hlen : n = n'
  · subst hlen
    go_enter Tryd.func39, Tryd.ntmps39
    go_wp2
    go_loopw [5] (fun i wr => ∃ k : Nat, k ≤ n ∧ i = .int .i64 k ∧ l.take k = m.take k ∧ Ext w wr) (fun i _ => n - (intOf i).toNat)
    case atStart => exact ⟨0, Nat.zero_le _, rfl, rfl, Ext.refl _⟩
    case round =>
      obtain ⟨k, hk, rfl, hp, hE⟩ := hrel
      have HP := Lib.hid hp; clear hp
      by_cases hlt : k < n
      · obtain ⟨b, off, rfl, _, hc⟩ := (ha.ext hE).at_ hlt
        obtain ⟨b', off', rfl, _, hc'⟩ := (hb.ext hE).at_ hlt
        have hlt1 : k < l.length := by rw [← HL1.out]; exact hlt
        have hlt2 : k < m.length := by rw [← HL2.out]; exact hlt
        obtain ⟨s, hs⟩ : ∃ s, s = l[k] := ⟨_, rfl⟩
        obtain ⟨t, ht⟩ : ∃ t, t = m[k] := ⟨_, rfl⟩
        have h1 := hc k hlt1
        have h2 := hc' k hlt2
        rw [← hs] at h1
        rw [← ht] at h2
        have hi1 : (k : Int) < (n : Int) := by omega
        have HS := Lib.hid hs
        have HT := Lib.hid ht
        clear hc hc' hs ht
        by_cases heq : s = t
        · have hbq : (s.toList == t.toList) = true := by simp [heq]
          have Heq := Lib.hid heq; clear heq
          go_wp2
          go_quiet (fail)
          go_wp2
          go_roundw
          case rel => exact ⟨k + 1, by omega, by go_num, by rw [take_snoc' _ _ hlt1, take_snoc' _ _ hlt2, HP.out, ← HS.out, ← HT.out, Heq.out], Ext.drewN hE _⟩
          case measure => simp [intOf]; omega
        · have hbq : (s.toList == t.toList) = false := by
            rw [beq_eq_false_iff_ne]
            exact fun hh => heq (toList_inj hh)
          have hfin : decide (l = m) = false := by
            simp only [decide_eq_false_iff_not]
            rintro rfl
            exact heq (HS.out.trans HT.out.symm)
          have Hf := Lib.hid hfin; clear hfin heq
          go_wp2
          go_quiet (fail)
          go_wp2
          go_ret
          exact ⟨by rw [Hf.out]; rfl, Ext.drewN hE _⟩
      · have hfin : decide (l = m) = true := by
          simp only [decide_eq_true_eq]
          have := HP.out
          rwa [List.take_of_length_le (by rw [← HL1.out]; omega), List.take_of_length_le (by rw [← HL2.out]; omega)] at this
        have Hf := Lib.hid hfin; clear hfin
        go_wp2
        go_ret
        exact ⟨by rw [Hf.out]; rfl, hE⟩
  · have hne : ((n : Int) != (n' : Int)) = true := by simp only [bne_iff_ne, ne_eq]; omega
    have hfin : decide (l = m) = false := by
      simp only [decide_eq_false_iff_not]
      rintro rfl
      exact hlen (HL1.out.trans HL2.out.symm)
    have Hf := Lib.hid hfin; clear hfin
    go_enter Tryd.func39, Tryd.ntmps39
    go_wp2
    go_ret
    exact ⟨by rw [Hf.out]; rfl, Ext.refl _⟩

end Go.Proofs.YtikbjaopcminaaaDoor
