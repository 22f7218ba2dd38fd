/- Code points and their encodings, plain: a string is the encoding of its elements just where it is valid. -/
import Derived.Lib.ValidLaws
namespace Go.Proofs.YtikbjaopcminaaaDoor
open Go.Lib
set_option maxRecDepth 100000

/-- The encoding of a code point. -/
def oneL (n : Nat) : List UInt8 :=
  if n < 128 then [UInt8.ofNat n]
  else if n < 2048 then [UInt8.ofNat (192 + n / 64), UInt8.ofNat (128 + n % 64)]
  else if n < 65536 then [UInt8.ofNat (224 + n / 4096), UInt8.ofNat (128 + n / 64 % 64), UInt8.ofNat (128 + n % 64)]
  else [UInt8.ofNat (240 + n / 262144), UInt8.ofNat (128 + n / 4096 % 64), UInt8.ofNat (128 + n / 64 % 64), UInt8.ofNat (128 + n % 64)]
/-- A code point. -/
def PointN (n : Nat) : Prop := n ≤ 1114111 ∧ (n < 55296 ∨ 57343 < n)
instance (n : Nat) : Decidable (PointN n) := by unfold PointN; infer_instance
def encOne (n : Nat) : List UInt8 := if PointN n then oneL n else oneL 65533
def encL : List Nat → List UInt8
  | [] => []
  | n :: t => encOne n ++ encL t
def decG : Nat → List UInt8 → List Nat
  | 0, _ => []
  | f + 1, l => if l = [] then [] else (decodeL l).1 :: decG f (l.drop (decodeL l).2)
/-- The elements of a string. -/
def decL (l : List UInt8) : List Nat := decG l.length l

theorem decG_fuel : ∀ (n m : Nat) (l : List UInt8), l.length ≤ n → l.length ≤ m → decG n l = decG m l
  | 0, 0, _, _, _ => rfl
  | 0, m + 1, l, hn, _ => by
    have : l = [] := List.eq_nil_of_length_eq_zero (by omega)
    subst this
    simp [decG]
  | n + 1, 0, l, _, hm => by
    have : l = [] := List.eq_nil_of_length_eq_zero (by omega)
    subst this
    simp [decG]
  | n + 1, m + 1, l, hn, hm => by
    unfold decG
    by_cases hne : l = []
    · simp [hne]
    · have hw := decodeL_width l
      have hl : 0 < l.length := List.length_pos_iff.2 hne
      rw [if_neg hne, if_neg hne, decG_fuel n m (l.drop (decodeL l).2) (by rw [List.length_drop]; omega) (by rw [List.length_drop]; omega)]
theorem decL_nil : decL [] = [] := rfl
theorem decL_step (l : List UInt8) (hne : l ≠ []) : decL l = (decodeL l).1 :: decL (l.drop (decodeL l).2) := by
  have hl : 0 < l.length := List.length_pos_iff.2 hne
  have hw := decodeL_width l
  obtain ⟨n, hn⟩ : ∃ n, l.length = n + 1 := ⟨l.length - 1, by omega⟩
  unfold decL
  rw [hn]
  show (if l = [] then [] else _) = _
  rw [if_neg hne, decG_fuel n (l.drop (decodeL l).2).length _ (by rw [List.length_drop]; omega) (Nat.le_refl _)]
theorem encL_append (a b : List Nat) : encL (a ++ b) = encL a ++ encL b := by
  induction a with
  | nil => rfl
  | cons x t ih => rw [List.cons_append, encL, encL, ih, List.append_assoc]

theorem u8_ext {a : UInt8} {n : Nat} (h : n = a.toNat) : UInt8.ofNat n = a := by
  subst h
  exact UInt8.ofNat_toNat
theorem ofNat_ext {n m : Nat} (h : n = m) : UInt8.ofNat n = UInt8.ofNat m := by rw [h]

/-- What stands at a place of a list. -/
theorem getD_at (l : List UInt8) (k : Nat) (h : k < l.length) : l.getD k 0 = l[k] := by simp [List.getD, h]

set_option maxHeartbeats 4000000 in
/-- An element that is no replacement of a byte: it is a code point, and its encoding stands at the head. -/
theorem decodeL_one (l : List UInt8) (hne : l ≠ []) (h : ¬ decodeL l = (65533, 1)) : PointN (decodeL l).1 ∧ oneL (decodeL l).1 = l.take (decodeL l).2 := by
  rw [decodeL_N] at h ⊢
  match l, hne with
  | a :: t, _ =>
    simp only [List.getD_cons_zero, List.getD_cons_succ] at h ⊢
    obtain ⟨b0, hb0⟩ : ∃ b, b = a.toNat := ⟨_, rfl⟩
    have h0 := a.toNat_lt
    rw [← hb0] at h ⊢
    unfold decodeN at h ⊢
    by_cases c0 : b0 < 128
    · rw [if_pos c0]
      refine ⟨⟨by show b0 ≤ _; omega, by left; show b0 < _; omega⟩, ?_⟩
      unfold oneL
      rw [if_pos c0]
      simp only [List.take_succ_cons, List.take_zero]
      rw [u8_ext hb0]
    rw [if_neg c0] at h ⊢
    split at h
    · rename_i c1
      rw [if_pos c1]
      split at h
      · rename_i c2
        rw [if_pos c2]
        match t, c1 with
        | b :: t, c1 =>
          simp only [List.getD_cons_zero, List.length_cons] at c1 c2 ⊢
          have hb := b.toNat_lt
          refine ⟨⟨by show _ ≤ _; omega, by left; show _ < _; omega⟩, ?_⟩
          unfold oneL
          rw [if_neg (by omega), if_pos (by omega)]
          simp only [List.take_succ_cons, List.take_zero]
          rw [u8_ext (a := a) (by omega), u8_ext (a := b) (by omega)]
        | [], c1 => exact absurd c1.2.1 (by simp)
      · exact absurd rfl h
    rename_i c1
    rw [if_neg c1]
    split at h
    · rename_i c2
      rw [if_pos c2]
      split at h
      · rename_i c3
        rw [if_pos c3]
        match t, c2 with
        | b :: c :: t, c2 =>
          simp only [List.getD_cons_zero, List.getD_cons_succ, List.length_cons] at c2 c3 ⊢
          have hb := b.toNat_lt
          have hc := c.toNat_lt
          refine ⟨⟨by show _ ≤ _; omega, by show _ < _ ∨ _ < _; omega⟩, ?_⟩
          unfold oneL
          rw [if_neg (by omega), if_neg (by omega), if_pos (by omega)]
          simp only [List.take_succ_cons, List.take_zero]
          rw [u8_ext (a := a) (by omega), u8_ext (a := b) (by omega), u8_ext (a := c) (by omega)]
        | [_], c2 => exact absurd c2.2.2.1 (by simp)
        | [], c2 => exact absurd c2.2.1.1 (by simp)
      · exact absurd rfl h
    rename_i c2
    rw [if_neg c2]
    split at h
    · rename_i c3
      rw [if_pos c3]
      obtain ⟨m, hm⟩ : ∃ m, m = b0 % 8 * 262144 + (t.getD 0 0).toNat % 64 * 4096 + (t.getD 1 0).toNat % 64 * 64 + (t.getD 2 0).toNat % 64 := ⟨_, rfl⟩
      rw [← hm] at h ⊢
      split at h
      · rename_i c4
        rw [if_pos c4]
        rcases t with _ | ⟨b, _ | ⟨c, _ | ⟨d, t⟩⟩⟩
        · exact absurd c3.2.1.1 (by simp)
        · exact absurd c3.2.2.1.1 (by simp)
        · exact absurd c3.2.2.2.1 (by simp)
        · simp only [List.getD_cons_zero, List.getD_cons_succ, List.length_cons] at c3 c4 hm ⊢
          have hb := b.toNat_lt
          have hc := c.toNat_lt
          have hd := d.toNat_lt
          refine ⟨⟨by show _ ≤ _; omega, by show _ < _ ∨ _ < _; omega⟩, ?_⟩
          unfold oneL
          rw [if_neg (by omega), if_neg (by omega), if_neg (by omega)]
          simp only [List.take_succ_cons, List.take_zero]
          rw [u8_ext (a := a) (by omega), u8_ext (a := b) (by omega), u8_ext (a := c) (by omega), u8_ext (a := d) (by omega)]
      · exact absurd rfl h
    · exact absurd rfl h

theorem one_rep : oneL 65533 = [239, 191, 189] := by decide
theorem point_rep : PointN 65533 := by decide
theorem enc_rep : encOne 65533 = [239, 191, 189] := by decide
theorem decode_rep (t : List UInt8) : decodeL (239 :: 191 :: 189 :: t) = (65533, 3) := by
  rw [decodeL_N]
  simp only [List.getD_cons_zero, List.getD_cons_succ, List.length_cons]
  show decodeN _ 239 191 189 _ = _
  unfold decodeN
  rw [if_neg (by omega), if_neg (by omega), if_pos ⟨by omega, ⟨by omega, by omega⟩, by omega, by omega⟩, if_pos (by omega)]
/-- A string is the encoding of its elements just where it is valid. -/
theorem enc_dec : ∀ (n : Nat) (l : List UInt8), l.length ≤ n → (encL (decL l) = l ↔ validD l = true)
  | 0, l, h => by
    have : l = [] := List.eq_nil_of_length_eq_zero (by omega)
    subst this
    exact ⟨fun _ => rfl, fun _ => rfl⟩
  | n + 1, l, h => by
    by_cases hne : l = []
    · subst hne
      exact ⟨fun _ => rfl, fun _ => rfl⟩
    have hl : 0 < l.length := List.length_pos_iff.2 hne
    have hw := decodeL_width l
    rw [decL_step l hne, validD_step l hne, encL]
    by_cases hb : decodeL l = (65533, 1)
    · rw [hb, if_pos ⟨rfl, rfl⟩]
      refine ⟨fun he => ?_, fun he => by cases he⟩
      exfalso
      rw [enc_rep] at he
      have h2 := decode_rep (encL (decL (l.drop 1)))
      have h3 : decodeL l = (65533, 3) := by
        conv => lhs; rw [← he]
        exact h2
      rw [hb] at h3
      exact absurd (congrArg Prod.snd h3) (by decide)
    · obtain ⟨hp, ho⟩ := decodeL_one l hne hb
      rw [if_neg (fun hh => hb (Prod.ext hh.1 hh.2))]
      rw [← enc_dec n (l.drop (decodeL l).2) (by rw [List.length_drop]; omega)]
      unfold encOne
      rw [if_pos hp, ho]
      constructor
      · intro he
        have h2 : l.take (decodeL l).2 ++ encL (decL (l.drop (decodeL l).2)) = l.take (decodeL l).2 ++ l.drop (decodeL l).2 := by rw [he, List.take_append_drop]
        exact List.append_cancel_left h2
      · intro he
        rw [he, List.take_append_drop]
theorem validD_enc (l : List UInt8) : validD l = decide (encL (decL l) = l) := by
  have h := enc_dec l.length l (Nat.le_refl _)
  cases hv : validD l
  · rw [hv] at h
    symm
    apply decide_eq_false
    intro he
    have := h.1 he
    cases this
  · rw [hv] at h
    exact (decide_eq_true (h.2 rfl)).symm

theorem dec_le (l : List UInt8) (hne : l ≠ []) : (decodeL l).2 ≤ l.length := by
  have hl : 0 < l.length := List.length_pos_iff.2 hne
  rw [decodeL_N]
  unfold decodeN
  repeat' split
  all_goals (show _ ≤ _; omega)
/-! ### what Next does -/
/-- The number that the bytes 1 .. i - 1 make behind n. -/
def accN (l : List UInt8) (n : Nat) : Nat → Nat
  | 0 => n
  | 1 => n
  | i + 2 => 64 * accN l n (i + 1) + ((l.getD (i + 1) 0).toNat - 128)
/-- The lead byte b begins an encoding of size bytes, and gives n. -/
def LeadN (b n size : Nat) : Prop := (192 ≤ b ∧ b < 224 ∧ n = b - 192 ∧ size = 2) ∨ (224 ≤ b ∧ b < 240 ∧ n = b - 224 ∧ size = 3) ∨ (240 ≤ b ∧ b < 248 ∧ n = b - 240 ∧ size = 4)
theorem dec_lead_bad (l : List UInt8) (hb : (128 ≤ (l.getD 0 0).toNat ∧ (l.getD 0 0).toNat < 192) ∨ 248 ≤ (l.getD 0 0).toNat) : decodeL l = (65533, 1) := by
  rw [decodeL_N]
  exact decodeN_bad _ _ _ _ _ (by have := (l.getD 0 0).toNat_lt; omega)
theorem dec_small (l : List UInt8) (hb : (l.getD 0 0).toNat < 128) : decodeL l = ((l.getD 0 0).toNat, 1) := by
  rw [decodeL_N]
  unfold decodeN
  rw [if_pos hb]
theorem dec_short (l : List UInt8) {n size : Nat} (h : LeadN (l.getD 0 0).toNat n size) (hs : l.length < size) : decodeL l = (65533, 1) := by
  rw [decodeL_N]
  unfold decodeN LeadN at *
  repeat' split
  all_goals first | rfl | (exfalso; omega)
set_option maxHeartbeats 1000000 in
theorem dec_cont (l : List UInt8) {n size i : Nat} (h : LeadN (l.getD 0 0).toNat n size) (hi : 1 ≤ i) (his : i < size) (hb : (l.getD i 0).toNat < 128 ∨ 191 < (l.getD i 0).toNat) : decodeL l = (65533, 1) := by
  rw [decodeL_N]
  have hi3 : i = 1 ∨ i = 2 ∨ i = 3 := by unfold LeadN at h; omega
  have b1 := (l.getD 1 0).toNat_lt
  have b2 := (l.getD 2 0).toNat_lt
  have b3 := (l.getD 3 0).toNat_lt
  unfold decodeN LeadN at *
  rcases hi3 with rfl | rfl | rfl
  all_goals
    repeat' split
    all_goals first | rfl | (exfalso; omega)
set_option maxHeartbeats 4000000 in
theorem dec_end (l : List UInt8) {n size : Nat} (h : LeadN (l.getD 0 0).toNat n size) (hs : size ≤ l.length) (hc : ∀ j, 1 ≤ j → j < size → 128 ≤ (l.getD j 0).toNat ∧ (l.getD j 0).toNat ≤ 191) :
    decodeL l = if PointN (accN l n size) ∧ oneL (accN l n size) = l.take size then (accN l n size, size) else (65533, 1) := by
  rw [decodeL_N]
  match l with
  | [] => exfalso; simp at hs; unfold LeadN at h; omega
  | a :: t =>
  simp only [List.getD_cons_zero, List.getD_cons_succ] at h hc ⊢
  have h0 := a.toNat_lt
  unfold LeadN at h
  rcases h with ⟨h1, h2, rfl, rfl⟩ | ⟨h1, h2, rfl, rfl⟩ | ⟨h1, h2, rfl, rfl⟩
  · match t with
    | [] => simp at hs
    | b :: t =>
      have c1 := hc 1 (by omega) (by omega)
      simp only [List.getD_cons_zero, List.getD_cons_succ, accN, List.length_cons, List.take_succ_cons, List.take_zero] at c1 ⊢
      unfold decodeN
      rw [if_neg (by omega), if_pos ⟨by omega, by omega, by omega⟩]
      by_cases h3 : 128 ≤ a.toNat % 32 * 64 + b.toNat % 64
      · rw [if_pos h3, if_pos ⟨⟨by omega, by omega⟩, by
          unfold oneL
          rw [if_neg (by omega), if_pos (by omega), u8_ext (a := a) (by omega), u8_ext (a := b) (by omega)]⟩]
        apply Prod.ext <;> simp only <;> omega
      · rw [if_neg h3, if_neg]
        rintro ⟨_, h4⟩
        unfold oneL at h4
        rw [if_pos (by omega)] at h4
        exact absurd (congrArg List.length h4) (by simp)
  · match t with
    | [] => simp at hs
    | [b] => simp at hs
    | b :: c :: t =>
      have c1 := hc 1 (by omega) (by omega)
      have c2 := hc 2 (by omega) (by omega)
      simp only [List.getD_cons_zero, List.getD_cons_succ, accN, List.length_cons, List.take_succ_cons, List.take_zero] at c1 c2 ⊢
      unfold decodeN
      rw [if_neg (by omega), if_neg (by omega), if_pos ⟨by omega, ⟨by omega, by omega⟩, by omega, by omega⟩]
      obtain ⟨m, hm⟩ : ∃ m, m = a.toNat % 16 * 4096 + b.toNat % 64 * 64 + c.toNat % 64 := ⟨_, rfl⟩
      have e1 : 64 * (64 * (a.toNat - 224) + (b.toNat - 128)) + (c.toNat - 128) = m := by omega
      rw [e1, ← hm]
      by_cases h3 : m ≥ 2048 ∧ (m < 55296 ∨ (57344 ≤ m ∧ m ≤ 1114111))
      · rw [if_pos h3, if_pos ⟨⟨by omega, by omega⟩, by
          unfold oneL
          rw [if_neg (by omega), if_neg (by omega), if_pos (by omega), u8_ext (a := a) (by omega), u8_ext (a := b) (by omega), u8_ext (a := c) (by omega)]⟩]
      · rw [if_neg h3, if_neg]
        rintro ⟨h5, h4⟩
        unfold PointN at h5
        have h6 : m < 2048 := by omega
        unfold oneL at h4
        by_cases h7 : m < 128
        · rw [if_pos h7] at h4; exact absurd (congrArg List.length h4) (by simp)
        · rw [if_neg h7, if_pos h6] at h4; exact absurd (congrArg List.length h4) (by simp)
  · match t with
    | [] => simp at hs
    | [b] => simp at hs
    | [b, c] => simp at hs
    | b :: c :: d :: t =>
      have c1 := hc 1 (by omega) (by omega)
      have c2 := hc 2 (by omega) (by omega)
      have c3 := hc 3 (by omega) (by omega)
      simp only [List.getD_cons_zero, List.getD_cons_succ, accN, List.length_cons, List.take_succ_cons, List.take_zero] at c1 c2 c3 ⊢
      unfold decodeN
      rw [if_neg (by omega), if_neg (by omega), if_neg (by omega), if_pos ⟨by omega, ⟨by omega, by omega⟩, ⟨by omega, by omega⟩, by omega, by omega⟩]
      obtain ⟨m, hm⟩ : ∃ m, m = a.toNat % 8 * 262144 + b.toNat % 64 * 4096 + c.toNat % 64 * 64 + d.toNat % 64 := ⟨_, rfl⟩
      have e1 : 64 * (64 * (64 * (a.toNat - 240) + (b.toNat - 128)) + (c.toNat - 128)) + (d.toNat - 128) = m := by omega
      rw [e1, ← hm]
      by_cases h3 : m ≥ 65536 ∧ (m < 55296 ∨ (57344 ≤ m ∧ m ≤ 1114111))
      · rw [if_pos h3, if_pos ⟨⟨by omega, by omega⟩, by
          unfold oneL
          rw [if_neg (by omega), if_neg (by omega), if_neg (by omega), u8_ext (a := a) (by omega), u8_ext (a := b) (by omega), u8_ext (a := c) (by omega), u8_ext (a := d) (by omega)]⟩]
      · rw [if_neg h3, if_neg]
        rintro ⟨h5, h4⟩
        unfold PointN at h5
        have h6 : m < 65536 := by omega
        unfold oneL at h4
        by_cases h7 : m < 128
        · rw [if_pos h7] at h4; exact absurd (congrArg List.length h4) (by simp)
        · by_cases h8 : m < 2048
          · rw [if_neg h7, if_pos h8] at h4; exact absurd (congrArg List.length h4) (by simp)
          · rw [if_neg h7, if_neg h8, if_pos h6] at h4; exact absurd (congrArg List.length h4) (by simp)
end Go.Proofs.YtikbjaopcminaaaDoor
