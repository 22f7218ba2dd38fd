/- Hexadecimal texts, read. Plainly. -/
import Derived.Test.YtghndnacmpckbaaGreatDoorRefText
namespace Go.Proofs.YtghndnacmpckbaaGreatDoor
open Go.RowKit
set_option maxRecDepth 100000

theorem lowH_snoc (v d : Nat) (hd : d < 16) : ∀ q, lowH (16 * v + d) (q + 1) = lowH v q ++ [hexD d]
  | 0 => by
    have h : (16 * v + d) / 16 ^ 0 % 16 = d := by rw [Nat.pow_zero, Nat.div_one]; omega
    show [hexD ((16 * v + d) / 16 ^ 0 % 16)] = [hexD d]
    rw [h]
  | q + 1 => by
    rw [lowH, lowH_snoc v d hd q, lowH]
    have h : (16 * v + d) / 16 ^ (q + 1) = v / 16 ^ q := by
      rw [Nat.pow_succ, Nat.mul_comm (16 ^ q) 16, ← Nat.div_div_eq_div_mul]
      rw [show (16 * v + d) / 16 = v by omega]
    rw [h, List.cons_append]
/-- The value of a digit. -/
def dig16 (c : Nat) : Option Nat := if 48 ≤ c ∧ c ≤ 57 then some (c - 48) else if 97 ≤ c ∧ c ≤ 102 then some (c - 87) else none
theorem dig16_hexD {d : Nat} (h : d < 16) : dig16 (hexD d).toNat = some d := by
  unfold hexD dig16
  split
  · rw [UInt8.toNat_ofNat', Nat.mod_eq_of_lt (by omega), if_pos (by omega), show 48 + d - 48 = d by omega]
  · rw [UInt8.toNat_ofNat', Nat.mod_eq_of_lt (by omega), if_neg (by omega), if_pos (by omega), show 87 + d - 87 = d by omega]
theorem hexD_dig16 {c : UInt8} {d : Nat} (h : dig16 c.toNat = some d) : d < 16 ∧ hexD d = c := by
  unfold dig16 at h
  split at h
  · rename_i hc
    injection h with h
    refine ⟨by omega, ?_⟩
    unfold hexD
    rw [if_pos (by omega), ← h, show 48 + (c.toNat - 48) = c.toNat by omega, UInt8.ofNat_toNat]
  · split at h
    · rename_i _ hc
      injection h with h
      refine ⟨by omega, ?_⟩
      unfold hexD
      rw [if_neg (by omega), ← h, show 87 + (c.toNat - 87) = c.toNat by omega, UInt8.ofNat_toNat]
    · cases h
theorem lowH_get (n : Nat) : ∀ (k q : Nat) (h : q < (lowH n k).length), (lowH n k)[q] = hexD (n / 16 ^ (k - 1 - q) % 16)
  | 0, q, h => by simp [lowH] at h
  | k + 1, 0, _ => by simp [lowH]
  | k + 1, q + 1, h => by
    have h1 : (lowH n (k + 1))[q + 1] = (lowH n k)[q]'(by simpa [lowH] using h) := by simp [lowH]
    rw [h1, lowH_get n k q, show k + 1 - 1 - (q + 1) = k - 1 - q by omega]
theorem lowH_inj : ∀ (k n n' : Nat), n < 16 ^ k → n' < 16 ^ k → lowH n k = lowH n' k → n = n'
  | 0, n, n', h1, h2, _ => by simp at h1 h2; omega
  | k + 1, n, n', h1, h2, h => by
    rw [show n = 16 * (n / 16) + n % 16 by omega, show n' = 16 * (n' / 16) + n' % 16 by omega, lowH_snoc _ _ (by omega), lowH_snoc _ _ (by omega)] at h
    obtain ⟨h3, h4⟩ := List.append_inj' h rfl
    rw [Nat.pow_succ] at h1 h2
    have h5 := lowH_inj k _ _ (by omega) (by omega) h3
    injection h4 with h4 _
    have h6 := dig16_hexD (d := n % 16) (by omega)
    rw [h4, dig16_hexD (by omega)] at h6
    injection h6 with h6
    omega
theorem hexT_inj {n n' : Nat} (h1 : n < 18446744073709551616) (h2 : n' < 18446744073709551616) (h : hexT n = hexT n') : n = n' := by
  have h3 := congrArg bys h
  rw [show bys (hexT n) = lowH n 16 by unfold hexT bys str; simp, show bys (hexT n') = lowH n' 16 by unfold hexT bys str; simp] at h3
  exact lowH_inj 16 n n' (by simpa using h1) (by simpa using h2) h3
/-- What is read of a text: its number, or the error. -/
def ParseOk (s : ByteArray) (r : Nat × Nat) : Prop := (∃ n, n < 18446744073709551616 ∧ s = hexT n ∧ r = (n, 0)) ∨ ((∀ n, n < 18446744073709551616 → s ≠ hexT n) ∧ r = (0, 3))
theorem hexT_bys (n : Nat) : bys (hexT n) = lowH n 16 := by unfold hexT bys str; simp
theorem hexT_size (n : Nat) : (hexT n).size = 16 := by unfold hexT; rw [str_size, lowH_len]
/-- Up to q the text is the digits of v. -/
def RefAt (s : ByteArray) (q v : Nat) : Prop := q ≤ 16 → v < 16 ^ q ∧ lowH v q = (bys s).take q
theorem RefAt.start (s : ByteArray) : RefAt s 0 0 := fun _ => ⟨by simp, rfl⟩
theorem RefAt.step {s : ByteArray} {q v d : Nat} (h : RefAt s q v) (hq : q < (bys s).length) (hd : dig16 ((bys s)[q]).toNat = some d) (v' : Nat) (hv : q < 16 → v' = 16 * v + d) : RefAt s (q + 1) v' := by
  intro hq2
  obtain ⟨h1, h2⟩ := h (by omega)
  obtain ⟨hd1, hd2⟩ := hexD_dig16 hd
  rw [hv (by omega), lowH_snoc v d hd1, h2, hd2, Nat.pow_succ]
  refine ⟨by omega, ?_⟩
  rw [List.take_add_one, List.getElem?_eq_getElem hq]
  rfl
theorem RefAt.done {s : ByteArray} {v : Nat} (h : RefAt s 16 v) (hs : s.size = 16) : ParseOk s (v, 0) := by
  obtain ⟨h1, h2⟩ := h (Nat.le_refl _)
  have hl : (bys s).length = 16 := hs
  rw [List.take_of_length_le (by omega)] at h2
  refine .inl ⟨v, by simpa using h1, ?_, rfl⟩
  unfold hexT
  rw [h2, str_bys]
theorem parse_size {s : ByteArray} (hs : s.size ≠ 16) : ParseOk s (0, 3) := .inr ⟨fun n _ e => hs (by rw [e, hexT_size]), rfl⟩
theorem parse_bad {s : ByteArray} {q : Nat} (hq : q < (bys s).length) (hd : dig16 ((bys s)[q]).toNat = none) : ParseOk s (0, 3) := by
  refine .inr ⟨fun n _ e => ?_, rfl⟩
  subst e
  simp only [hexT_bys, lowH_get] at hd
  rw [dig16_hexD (by omega)] at hd
  cases hd
theorem ParseOk.unique {s : ByteArray} {r r' : Nat × Nat} (h : ParseOk s r) (h' : ParseOk s r') : r = r' := by
  rcases h with ⟨n, hn, e, rfl⟩ | ⟨hne, rfl⟩ <;> rcases h' with ⟨n', hn', e', rfl⟩ | ⟨hne', rfl⟩
  · have := hexT_inj hn hn' (e.symm.trans e')
    rw [this]
  · exact absurd e (hne' n hn)
  · exact absurd e' (hne n' hn')
  · rfl
end Go.Proofs.YtghndnacmpckbaaGreatDoor
