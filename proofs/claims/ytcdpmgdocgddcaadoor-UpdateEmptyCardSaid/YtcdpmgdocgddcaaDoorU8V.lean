/- Code points and their encodings, plain: a string is the encoding of its elements just where it is valid. -/
import Derived.Lib.ValidLaws
import Derived.Test.YtcdpmgdocgddcaaDoorBytes
import Derived.Deep.RegionLaw
import Derived.Test.YtcdpmgdocgddcaaDoorSlc
namespace Go.Proofs.YtcdpmgdocgddcaaDoor
open Go.Lib
set_option maxRecDepth 100000

/-- The encoding of a code point. -/
def u8OneL (n : Nat) : List UInt8 :=
  if n < 128 then [UInt8.ofNat n]
  else if n < 2048 then [UInt8.ofNat (192 + n / 64), UInt8.ofNat (128 + n % 64)]
  else if n < 65536 then [UInt8.ofNat (224 + n / 4096), UInt8.ofNat (128 + n / 64 % 64), UInt8.ofNat (128 + n % 64)]
  else [UInt8.ofNat (240 + n / 262144), UInt8.ofNat (128 + n / 4096 % 64), UInt8.ofNat (128 + n / 64 % 64), UInt8.ofNat (128 + n % 64)]
/-- A code point. -/
def PointN (n : Nat) : Prop := n ≤ 1114111 ∧ (n < 55296 ∨ 57343 < n)
instance (n : Nat) : Decidable (PointN n) := by unfold PointN; infer_instance
def u8EncOne (n : Nat) : List UInt8 := if PointN n then u8OneL n else u8OneL 65533
def u8EncL : List Nat → List UInt8
  | [] => []
  | n :: t => u8EncOne n ++ u8EncL t
def decG : Nat → List UInt8 → List Nat
  | 0, _ => []
  | f + 1, l => if l = [] then [] else (decodeL l).1 :: decG f (l.drop (decodeL l).2)
/-- The elements of a string. -/
def u8DecL (l : List UInt8) : List Nat := decG l.length l

theorem decG_fuel : ∀ (n m : Nat) (l : List UInt8), l.length ≤ n → l.length ≤ m → decG n l = decG m l
  | 0, 0, _, _, _ => rfl
  | 0, m + 1, l, hn, _ => by
    have : l = [] := List.eq_nil_of_length_eq_zero (by omega)
    subst this
    simp [decG]
  | n + 1, 0, l, _, hm => by
    have : l = [] := List.eq_nil_of_length_eq_zero (by omega)
    subst this
    simp [decG]
  | n + 1, m + 1, l, hn, hm => by
    unfold decG
    by_cases hne : l = []
    · simp [hne]
    · have hw := decodeL_width l
      have hl : 0 < l.length := List.length_pos_iff.2 hne
      rw [if_neg hne, if_neg hne, decG_fuel n m (l.drop (decodeL l).2) (by rw [List.length_drop]; omega) (by rw [List.length_drop]; omega)]
theorem decL_nil : u8DecL [] = [] := rfl
theorem decL_step (l : List UInt8) (hne : l ≠ []) : u8DecL l = (decodeL l).1 :: u8DecL (l.drop (decodeL l).2) := by
  have hl : 0 < l.length := List.length_pos_iff.2 hne
  have hw := decodeL_width l
  obtain ⟨n, hn⟩ : ∃ n, l.length = n + 1 := ⟨l.length - 1, by omega⟩
  unfold u8DecL
  rw [hn]
  show (if l = [] then [] else _) = _
  rw [if_neg hne, decG_fuel n (l.drop (decodeL l).2).length _ (by rw [List.length_drop]; omega) (Nat.le_refl _)]
theorem encL_append (a b : List Nat) : u8EncL (a ++ b) = u8EncL a ++ u8EncL b := by
  induction a with
  | nil => rfl
  | cons x t ih => rw [List.cons_append, u8EncL, u8EncL, ih, List.append_assoc]

theorem u8_ext {a : UInt8} {n : Nat} (h : n = a.toNat) : UInt8.ofNat n = a := by
  subst h
  exact UInt8.ofNat_toNat
theorem ofNat_ext {n m : Nat} (h : n = m) : UInt8.ofNat n = UInt8.ofNat m := by rw [h]

/-- What stands at a place of a list. -/
theorem getD_at (l : List UInt8) (k : Nat) (h : k < l.length) : l.getD k 0 = l[k] := by simp [List.getD, h]

set_option maxHeartbeats 4000000 in
/-- An element that is no replacement of a byte: it is a code point, and its encoding stands at the head. -/
theorem decodeL_one (l : List UInt8) (hne : l ≠ []) (h : ¬ decodeL l = (65533, 1)) : PointN (decodeL l).1 ∧ u8OneL (decodeL l).1 = l.take (decodeL l).2 := by
  rw [decodeL_N] at h ⊢
  match l, hne with
  | a :: t, _ =>
    simp only [List.getD_cons_zero, List.getD_cons_succ] at h ⊢
    obtain ⟨b0, hb0⟩ : ∃ b, b = a.toNat := ⟨_, rfl⟩
    have h0 := a.toNat_lt
    rw [← hb0] at h ⊢
    unfold decodeN at h ⊢
    by_cases c0 : b0 < 128
    · rw [if_pos c0]
      refine ⟨⟨by show b0 ≤ _; omega, by left; show b0 < _; omega⟩, ?_⟩
      unfold u8OneL
      rw [if_pos c0]
      simp only [List.take_succ_cons, List.take_zero]
      rw [u8_ext hb0]
    rw [if_neg c0] at h ⊢
    split at h
    · rename_i c1
      rw [if_pos c1]
      split at h
      · rename_i c2
        rw [if_pos c2]
        match t, c1 with
        | b :: t, c1 =>
          simp only [List.getD_cons_zero, List.length_cons] at c1 c2 ⊢
          have hb := b.toNat_lt
          refine ⟨⟨by show _ ≤ _; omega, by left; show _ < _; omega⟩, ?_⟩
          unfold u8OneL
          rw [if_neg (by omega), if_pos (by omega)]
          simp only [List.take_succ_cons, List.take_zero]
          rw [u8_ext (a := a) (by omega), u8_ext (a := b) (by omega)]
        | [], c1 => exact absurd c1.2.1 (by simp)
      · exact absurd rfl h
    rename_i c1
    rw [if_neg c1]
    split at h
    · rename_i c2
      rw [if_pos c2]
      split at h
      · rename_i c3
        rw [if_pos c3]
        match t, c2 with
        | b :: c :: t, c2 =>
          simp only [List.getD_cons_zero, List.getD_cons_succ, List.length_cons] at c2 c3 ⊢
          have hb := b.toNat_lt
          have hc := c.toNat_lt
          refine ⟨⟨by show _ ≤ _; omega, by show _ < _ ∨ _ < _; omega⟩, ?_⟩
          unfold u8OneL
          rw [if_neg (by omega), if_neg (by omega), if_pos (by omega)]
          simp only [List.take_succ_cons, List.take_zero]
          rw [u8_ext (a := a) (by omega), u8_ext (a := b) (by omega), u8_ext (a := c) (by omega)]
        | [_], c2 => exact absurd c2.2.2.1 (by simp)
        | [], c2 => exact absurd c2.2.1.1 (by simp)
      · exact absurd rfl h
    rename_i c2
    rw [if_neg c2]
    split at h
    · rename_i c3
      rw [if_pos c3]
      obtain ⟨m, hm⟩ : ∃ m, m = b0 % 8 * 262144 + (t.getD 0 0).toNat % 64 * 4096 + (t.getD 1 0).toNat % 64 * 64 + (t.getD 2 0).toNat % 64 := ⟨_, rfl⟩
      rw [← hm] at h ⊢
      split at h
      · rename_i c4
        rw [if_pos c4]
        rcases t with _ | ⟨b, _ | ⟨c, _ | ⟨d, t⟩⟩⟩
        · exact absurd c3.2.1.1 (by simp)
        · exact absurd c3.2.2.1.1 (by simp)
        · exact absurd c3.2.2.2.1 (by simp)
        · simp only [List.getD_cons_zero, List.getD_cons_succ, List.length_cons] at c3 c4 hm ⊢
          have hb := b.toNat_lt
          have hc := c.toNat_lt
          have hd := d.toNat_lt
          refine ⟨⟨by show _ ≤ _; omega, by show _ < _ ∨ _ < _; omega⟩, ?_⟩
          unfold u8OneL
          rw [if_neg (by omega), if_neg (by omega), if_neg (by omega)]
          simp only [List.take_succ_cons, List.take_zero]
          rw [u8_ext (a := a) (by omega), u8_ext (a := b) (by omega), u8_ext (a := c) (by omega), u8_ext (a := d) (by omega)]
      · exact absurd rfl h
    · exact absurd rfl h

theorem one_rep : u8OneL 65533 = [239, 191, 189] := by decide
theorem point_rep : PointN 65533 := by decide
theorem enc_rep : u8EncOne 65533 = [239, 191, 189] := by decide
theorem decode_rep (t : List UInt8) : decodeL (239 :: 191 :: 189 :: t) = (65533, 3) := by
  rw [decodeL_N]
  simp only [List.getD_cons_zero, List.getD_cons_succ, List.length_cons]
  show decodeN _ 239 191 189 _ = _
  unfold decodeN
  rw [if_neg (by omega), if_neg (by omega), if_pos ⟨by omega, ⟨by omega, by omega⟩, by omega, by omega⟩, if_pos (by omega)]
/-- A string is the encoding of its elements just where it is valid. -/
theorem enc_dec : ∀ (n : Nat) (l : List UInt8), l.length ≤ n → (u8EncL (u8DecL l) = l ↔ validD l = true)
  | 0, l, h => by
    have : l = [] := List.eq_nil_of_length_eq_zero (by omega)
    subst this
    exact ⟨fun _ => rfl, fun _ => rfl⟩
  | n + 1, l, h => by
    by_cases hne : l = []
    · subst hne
      exact ⟨fun _ => rfl, fun _ => rfl⟩
    have hl : 0 < l.length := List.length_pos_iff.2 hne
    have hw := decodeL_width l
    rw [decL_step l hne, validD_step l hne, u8EncL]
    by_cases hb : decodeL l = (65533, 1)
    · rw [hb, if_pos ⟨rfl, rfl⟩]
      refine ⟨fun he => ?_, fun he => by cases he⟩
      exfalso
      rw [enc_rep] at he
      have h2 := decode_rep (u8EncL (u8DecL (l.drop 1)))
      have h3 : decodeL l = (65533, 3) := by
        conv => lhs; rw [← he]
        exact h2
      rw [hb] at h3
      exact absurd (congrArg Prod.snd h3) (by decide)
    · obtain ⟨hp, ho⟩ := decodeL_one l hne hb
      rw [if_neg (fun hh => hb (Prod.ext hh.1 hh.2))]
      rw [← enc_dec n (l.drop (decodeL l).2) (by rw [List.length_drop]; omega)]
      unfold u8EncOne
      rw [if_pos hp, ho]
      constructor
      · intro he
        have h2 : l.take (decodeL l).2 ++ u8EncL (u8DecL (l.drop (decodeL l).2)) = l.take (decodeL l).2 ++ l.drop (decodeL l).2 := by rw [he, List.take_append_drop]
        exact List.append_cancel_left h2
      · intro he
        rw [he, List.take_append_drop]
theorem validD_enc (l : List UInt8) : validD l = decide (u8EncL (u8DecL l) = l) := by
  have h := enc_dec l.length l (Nat.le_refl _)
  cases hv : validD l
  · rw [hv] at h
    symm
    apply decide_eq_false
    intro he
    have := h.1 he
    cases this
  · rw [hv] at h
    exact (decide_eq_true (h.2 rfl)).symm

theorem dec_le (l : List UInt8) (hne : l ≠ []) : (decodeL l).2 ≤ l.length := by
  have hl : 0 < l.length := List.length_pos_iff.2 hne
  rw [decodeL_N]
  unfold decodeN
  repeat' split
  all_goals (show _ ≤ _; omega)
/-! ### what Next does -/
/-- The number that the bytes 1 .. i - 1 make behind n. -/
def accN (l : List UInt8) (n : Nat) : Nat → Nat
  | 0 => n
  | 1 => n
  | i + 2 => 64 * accN l n (i + 1) + ((l.getD (i + 1) 0).toNat - 128)
/-- The lead byte b begins an encoding of size bytes, and gives n. -/
def LeadN (b n size : Nat) : Prop := (192 ≤ b ∧ b < 224 ∧ n = b - 192 ∧ size = 2) ∨ (224 ≤ b ∧ b < 240 ∧ n = b - 224 ∧ size = 3) ∨ (240 ≤ b ∧ b < 248 ∧ n = b - 240 ∧ size = 4)
theorem dec_lead_bad (l : List UInt8) (hb : (128 ≤ (l.getD 0 0).toNat ∧ (l.getD 0 0).toNat < 192) ∨ 248 ≤ (l.getD 0 0).toNat) : decodeL l = (65533, 1) := by
  rw [decodeL_N]
  exact decodeN_bad _ _ _ _ _ (by have := (l.getD 0 0).toNat_lt; omega)
theorem dec_small (l : List UInt8) (hb : (l.getD 0 0).toNat < 128) : decodeL l = ((l.getD 0 0).toNat, 1) := by
  rw [decodeL_N]
  unfold decodeN
  rw [if_pos hb]
theorem dec_short (l : List UInt8) {n size : Nat} (h : LeadN (l.getD 0 0).toNat n size) (hs : l.length < size) : decodeL l = (65533, 1) := by
  rw [decodeL_N]
  unfold decodeN LeadN at *
  repeat' split
  all_goals first | rfl | (exfalso; omega)
set_option maxHeartbeats 1000000 in
theorem dec_cont (l : List UInt8) {n size i : Nat} (h : LeadN (l.getD 0 0).toNat n size) (hi : 1 ≤ i) (his : i < size) (hb : (l.getD i 0).toNat < 128 ∨ 191 < (l.getD i 0).toNat) : decodeL l = (65533, 1) := by
  rw [decodeL_N]
  have hi3 : i = 1 ∨ i = 2 ∨ i = 3 := by unfold LeadN at h; omega
  have b1 := (l.getD 1 0).toNat_lt
  have b2 := (l.getD 2 0).toNat_lt
  have b3 := (l.getD 3 0).toNat_lt
  unfold decodeN LeadN at *
  rcases hi3 with rfl | rfl | rfl
  all_goals
    repeat' split
    all_goals first | rfl | (exfalso; omega)
set_option maxHeartbeats 4000000 in
theorem dec_end (l : List UInt8) {n size : Nat} (h : LeadN (l.getD 0 0).toNat n size) (hs : size ≤ l.length) (hc : ∀ j, 1 ≤ j → j < size → 128 ≤ (l.getD j 0).toNat ∧ (l.getD j 0).toNat ≤ 191) :
    decodeL l = if PointN (accN l n size) ∧ u8OneL (accN l n size) = l.take size then (accN l n size, size) else (65533, 1) := by
  rw [decodeL_N]
  match l with
  | [] => exfalso; simp at hs; unfold LeadN at h; omega
  | a :: t =>
  simp only [List.getD_cons_zero, List.getD_cons_succ] at h hc ⊢
  have h0 := a.toNat_lt
  unfold LeadN at h
  rcases h with ⟨h1, h2, rfl, rfl⟩ | ⟨h1, h2, rfl, rfl⟩ | ⟨h1, h2, rfl, rfl⟩
  · match t with
    | [] => simp at hs
    | b :: t =>
      have c1 := hc 1 (by omega) (by omega)
      simp only [List.getD_cons_zero, List.getD_cons_succ, accN, List.length_cons, List.take_succ_cons, List.take_zero] at c1 ⊢
      unfold decodeN
      rw [if_neg (by omega), if_pos ⟨by omega, by omega, by omega⟩]
      by_cases h3 : 128 ≤ a.toNat % 32 * 64 + b.toNat % 64
      · rw [if_pos h3, if_pos ⟨⟨by omega, by omega⟩, by
          unfold u8OneL
          rw [if_neg (by omega), if_pos (by omega), u8_ext (a := a) (by omega), u8_ext (a := b) (by omega)]⟩]
        apply Prod.ext <;> simp only <;> omega
      · rw [if_neg h3, if_neg]
        rintro ⟨_, h4⟩
        unfold u8OneL at h4
        rw [if_pos (by omega)] at h4
        exact absurd (congrArg List.length h4) (by simp)
  · match t with
    | [] => simp at hs
    | [b] => simp at hs
    | b :: c :: t =>
      have c1 := hc 1 (by omega) (by omega)
      have c2 := hc 2 (by omega) (by omega)
      simp only [List.getD_cons_zero, List.getD_cons_succ, accN, List.length_cons, List.take_succ_cons, List.take_zero] at c1 c2 ⊢
      unfold decodeN
      rw [if_neg (by omega), if_neg (by omega), if_pos ⟨by omega, ⟨by omega, by omega⟩, by omega, by omega⟩]
      obtain ⟨m, hm⟩ : ∃ m, m = a.toNat % 16 * 4096 + b.toNat % 64 * 64 + c.toNat % 64 := ⟨_, rfl⟩
      have e1 : 64 * (64 * (a.toNat - 224) + (b.toNat - 128)) + (c.toNat - 128) = m := by omega
      rw [e1, ← hm]
      by_cases h3 : m ≥ 2048 ∧ (m < 55296 ∨ (57344 ≤ m ∧ m ≤ 1114111))
      · rw [if_pos h3, if_pos ⟨⟨by omega, by omega⟩, by
          unfold u8OneL
          rw [if_neg (by omega), if_neg (by omega), if_pos (by omega), u8_ext (a := a) (by omega), u8_ext (a := b) (by omega), u8_ext (a := c) (by omega)]⟩]
      · rw [if_neg h3, if_neg]
        rintro ⟨h5, h4⟩
        unfold PointN at h5
        have h6 : m < 2048 := by omega
        unfold u8OneL at h4
        by_cases h7 : m < 128
        · rw [if_pos h7] at h4; exact absurd (congrArg List.length h4) (by simp)
        · rw [if_neg h7, if_pos h6] at h4; exact absurd (congrArg List.length h4) (by simp)
  · match t with
    | [] => simp at hs
    | [b] => simp at hs
    | [b, c] => simp at hs
    | b :: c :: d :: t =>
      have c1 := hc 1 (by omega) (by omega)
      have c2 := hc 2 (by omega) (by omega)
      have c3 := hc 3 (by omega) (by omega)
      simp only [List.getD_cons_zero, List.getD_cons_succ, accN, List.length_cons, List.take_succ_cons, List.take_zero] at c1 c2 c3 ⊢
      unfold decodeN
      rw [if_neg (by omega), if_neg (by omega), if_neg (by omega), if_pos ⟨by omega, ⟨by omega, by omega⟩, ⟨by omega, by omega⟩, by omega, by omega⟩]
      obtain ⟨m, hm⟩ : ∃ m, m = a.toNat % 8 * 262144 + b.toNat % 64 * 4096 + c.toNat % 64 * 64 + d.toNat % 64 := ⟨_, rfl⟩
      have e1 : 64 * (64 * (64 * (a.toNat - 240) + (b.toNat - 128)) + (c.toNat - 128)) + (d.toNat - 128) = m := by omega
      rw [e1, ← hm]
      by_cases h3 : m ≥ 65536 ∧ (m < 55296 ∨ (57344 ≤ m ∧ m ≤ 1114111))
      · rw [if_pos h3, if_pos ⟨⟨by omega, by omega⟩, by
          unfold u8OneL
          rw [if_neg (by omega), if_neg (by omega), if_neg (by omega), u8_ext (a := a) (by omega), u8_ext (a := b) (by omega), u8_ext (a := c) (by omega), u8_ext (a := d) (by omega)]⟩]
      · rw [if_neg h3, if_neg]
        rintro ⟨h5, h4⟩
        unfold PointN at h5
        have h6 : m < 65536 := by omega
        unfold u8OneL at h4
        by_cases h7 : m < 128
        · rw [if_pos h7] at h4; exact absurd (congrArg List.length h4) (by simp)
        · by_cases h8 : m < 2048
          · rw [if_neg h7, if_pos h8] at h4; exact absurd (congrArg List.length h4) (by simp)
          · rw [if_neg h7, if_neg h8, if_pos h6] at h4; exact absurd (congrArg List.length h4) (by simp)
end Go.Proofs.YtcdpmgdocgddcaaDoor

/- The reference's Point, One, Next. -/
namespace Go.Proofs.YtcdpmgdocgddcaaDoor
open Go.RowKit
set_option maxRecDepth 100000

theorem u8n (k : Nat) (h : k < 256) : ((UInt8.ofNat k).toNat : Int) = (k : Int) := by rw [UInt8.toNat_ofNat']; omega
theorem bys_sub (s : ByteArray) (i j : Nat) : bys (s.extract i j) = ((bys s).take j).drop i := by
  unfold bys
  simp [ByteArray.extract, ByteArray.copySlice, List.drop_take]
section
variable {w : World}
set_option maxHeartbeats 1600000 in
theorem u8Point_any (n : Nat) :
    Calls Tryd.prog 91 #[.int .i64 n] w fun e w' => e = .returned (.bool (decide (PointN n))) ∧ w' = w := by
  have h0 : (0 : Int) ≤ (n : Int) := by omega
  by_cases h1 : n ≤ 1114111
  · have i1 : (n : Int) ≤ 1114111 := by omega
    by_cases h2 : n < 55296
    · have i2 : (n : Int) < 55296 := by omega
      have HF := Lib.hid (decide_eq_true (show PointN n from ⟨h1, .inl h2⟩))
      go_enter Tryd.func91, Tryd.ntmps91
      go_wp2
      go_ret
      exact ⟨by rw [HF.out]; rfl, rfl⟩
    · have i2 : ¬ (n : Int) < 55296 := by omega
      by_cases h3 : 57343 < n
      · have i3 : (57343 : Int) < (n : Int) := by omega
        have HF := Lib.hid (decide_eq_true (show PointN n from ⟨h1, .inr h3⟩))
        go_enter Tryd.func91, Tryd.ntmps91
        go_wp2
        go_ret
        exact ⟨by rw [HF.out]; rfl, rfl⟩
      · have i3 : ¬ (57343 : Int) < (n : Int) := by omega
        have HF := Lib.hid (decide_eq_false (show ¬ PointN n from fun h => h.2.elim h2 h3))
        go_enter Tryd.func91, Tryd.ntmps91
        go_wp2
        go_ret
        exact ⟨by rw [HF.out]; rfl, rfl⟩
  · have i1 : ¬ (n : Int) ≤ 1114111 := by omega
    have HF := Lib.hid (decide_eq_false (show ¬ PointN n from fun h => h1 h.1))
    go_enter Tryd.func91, Tryd.ntmps91
    go_wp2
    go_ret
    exact ⟨by rw [HF.out]; rfl, rfl⟩

set_option maxHeartbeats 1600000 in
theorem u8One_any (n : Nat) (hn : n ≤ 1114111) :
    Calls Tryd.prog 92 #[.int .i64 n] w fun e w' => e = .returned (.string (str (u8OneL n))) ∧ Ext w w' := by
  by_cases c1 : n < 128
  · have i1 : (n : Int) < 128 := by omega
    have hx : u8OneL n = [UInt8.ofNat n] := by unfold u8OneL; rw [if_pos c1]
    have hcv : (convert 103 9 (.slice (some ⟨w.heap.size, 0, none⟩) 1 1)).run Tryd.prog (w.alloc (Obj.cells #[.int .u8 (n : Int)] 5)) = .ok (.string (str [UInt8.ofNat n])) (w.alloc (Obj.cells #[.int .u8 (n : Int)] 5)) := by
      exact conv_str (OsB.new_ w w.heap.size (Nat.le_refl _) [UInt8.ofNat n] (by simp) _ (by
        simp only [List.map_cons, List.map_nil, bv]
        repeat rw [u8n _ (by omega)]
        first | done | simp) 1 rfl).sl 1
    rw [hx]
    clear hx
    go_enter Tryd.func92, Tryd.ntmps92
    go_wp2
    go_ret
    exact ⟨rfl, (Ext.refl _).alloc _⟩
  by_cases c2 : n < 2048
  · have i1 : ¬ (n : Int) < 128 := by omega
    have i2 : (n : Int) < 2048 := by omega
    obtain ⟨a, ha⟩ : ∃ a : Nat, a = n / 64 := ⟨_, rfl⟩
    obtain ⟨b, hb⟩ : ∃ b : Nat, b = n % 64 := ⟨_, rfl⟩
    have hx : u8OneL n = [UInt8.ofNat (192 + a), UInt8.ofNat (128 + b)] := by unfold u8OneL; rw [if_neg c1, if_pos c2, ha, hb]
    have a1 : (n : Int).tdiv 64 = (a : Int) := by rw [ha]; exact (Int.ofNat_tdiv n 64).symm
    have b1 : (n : Int).tmod 64 = (b : Int) := by rw [hb]; exact (Int.ofNat_tmod n 64).symm
    have a9 : a < 32 := by omega
    have b9 : b < 64 := by omega
    clear ha hb
    have hcv : (convert 103 9 (.slice (some ⟨w.heap.size, 0, none⟩) 2 2)).run Tryd.prog (w.alloc (Obj.cells #[.int .u8 (192 + (a : Int)), .int .u8 (128 + (b : Int))] 5)) = .ok (.string (str [UInt8.ofNat (192 + a), UInt8.ofNat (128 + b)])) (w.alloc (Obj.cells #[.int .u8 (192 + (a : Int)), .int .u8 (128 + (b : Int))] 5)) := by
      exact conv_str (OsB.new_ w w.heap.size (Nat.le_refl _) [UInt8.ofNat (192 + a), UInt8.ofNat (128 + b)] (by simp) _ (by
        simp only [List.map_cons, List.map_nil, bv]
        repeat rw [u8n _ (by omega)]
        first | done | simp) 2 rfl).sl 2
    rw [hx]
    clear hx
    go_enter Tryd.func92, Tryd.ntmps92
    go_wp2
    go_ret
    exact ⟨rfl, (Ext.refl _).alloc _⟩
  by_cases c3 : n < 65536
  · have i1 : ¬ (n : Int) < 128 := by omega
    have i2 : ¬ (n : Int) < 2048 := by omega
    have i3 : (n : Int) < 65536 := by omega
    obtain ⟨a, ha⟩ : ∃ a : Nat, a = n / 4096 := ⟨_, rfl⟩
    obtain ⟨b, hb⟩ : ∃ b : Nat, b = n / 64 := ⟨_, rfl⟩
    obtain ⟨c, hc⟩ : ∃ c : Nat, c = b % 64 := ⟨_, rfl⟩
    obtain ⟨d, hd⟩ : ∃ d : Nat, d = n % 64 := ⟨_, rfl⟩
    have hx : u8OneL n = [UInt8.ofNat (224 + a), UInt8.ofNat (128 + c), UInt8.ofNat (128 + d)] := by unfold u8OneL; rw [if_neg c1, if_neg c2, if_pos c3, ha, hc, hb, hd]
    have a1 : (n : Int).tdiv 4096 = (a : Int) := by rw [ha]; exact (Int.ofNat_tdiv n 4096).symm
    have b1 : (n : Int).tdiv 64 = (b : Int) := by rw [hb]; exact (Int.ofNat_tdiv n 64).symm
    have c1 : (b : Int).tmod 64 = (c : Int) := by rw [hc]; exact (Int.ofNat_tmod b 64).symm
    have d1 : (n : Int).tmod 64 = (d : Int) := by rw [hd]; exact (Int.ofNat_tmod n 64).symm
    have a9 : a < 16 := by omega
    have b9 : b < 1024 := by omega
    have c9 : c < 64 := by omega
    have d9 : d < 64 := by omega
    clear ha hb hc hd
    have hcv : (convert 103 9 (.slice (some ⟨w.heap.size, 0, none⟩) 3 3)).run Tryd.prog (w.alloc (Obj.cells #[.int .u8 (224 + (a : Int)), .int .u8 (128 + (c : Int)), .int .u8 (128 + (d : Int))] 5)) = .ok (.string (str [UInt8.ofNat (224 + a), UInt8.ofNat (128 + c), UInt8.ofNat (128 + d)])) (w.alloc (Obj.cells #[.int .u8 (224 + (a : Int)), .int .u8 (128 + (c : Int)), .int .u8 (128 + (d : Int))] 5)) := by
      exact conv_str (OsB.new_ w w.heap.size (Nat.le_refl _) [UInt8.ofNat (224 + a), UInt8.ofNat (128 + c), UInt8.ofNat (128 + d)] (by simp) _ (by
        simp only [List.map_cons, List.map_nil, bv]
        repeat rw [u8n _ (by omega)]
        first | done | simp) 3 rfl).sl 3
    rw [hx]
    clear hx
    go_enter Tryd.func92, Tryd.ntmps92
    go_wp2
    go_ret
    exact ⟨rfl, (Ext.refl _).alloc _⟩
  · have i1 : ¬ (n : Int) < 128 := by omega
    have i2 : ¬ (n : Int) < 2048 := by omega
    have i3 : ¬ (n : Int) < 65536 := by omega
    obtain ⟨a, ha⟩ : ∃ a : Nat, a = n / 262144 := ⟨_, rfl⟩
    obtain ⟨b, hb⟩ : ∃ b : Nat, b = n / 4096 := ⟨_, rfl⟩
    obtain ⟨c, hc⟩ : ∃ c : Nat, c = b % 64 := ⟨_, rfl⟩
    obtain ⟨d, hd⟩ : ∃ d : Nat, d = n / 64 := ⟨_, rfl⟩
    obtain ⟨e, he⟩ : ∃ e : Nat, e = d % 64 := ⟨_, rfl⟩
    obtain ⟨f, hf⟩ : ∃ f : Nat, f = n % 64 := ⟨_, rfl⟩
    have hx : u8OneL n = [UInt8.ofNat (240 + a), UInt8.ofNat (128 + c), UInt8.ofNat (128 + e), UInt8.ofNat (128 + f)] := by unfold u8OneL; rw [if_neg c1, if_neg c2, if_neg c3, ha, hc, hb, he, hd, hf]
    have a1 : (n : Int).tdiv 262144 = (a : Int) := by rw [ha]; exact (Int.ofNat_tdiv n 262144).symm
    have b1 : (n : Int).tdiv 4096 = (b : Int) := by rw [hb]; exact (Int.ofNat_tdiv n 4096).symm
    have c1 : (b : Int).tmod 64 = (c : Int) := by rw [hc]; exact (Int.ofNat_tmod b 64).symm
    have d1 : (n : Int).tdiv 64 = (d : Int) := by rw [hd]; exact (Int.ofNat_tdiv n 64).symm
    have e1 : (d : Int).tmod 64 = (e : Int) := by rw [he]; exact (Int.ofNat_tmod d 64).symm
    have f1 : (n : Int).tmod 64 = (f : Int) := by rw [hf]; exact (Int.ofNat_tmod n 64).symm
    have a9 : a < 5 := by omega
    have b9 : b < 512 := by omega
    have c9 : c < 64 := by omega
    have d9 : d < 32768 := by omega
    have e9 : e < 64 := by omega
    have f9 : f < 64 := by omega
    clear ha hb hc hd he hf
    have hcv : (convert 103 9 (.slice (some ⟨w.heap.size, 0, none⟩) 4 4)).run Tryd.prog (w.alloc (Obj.cells #[.int .u8 (240 + (a : Int)), .int .u8 (128 + (c : Int)), .int .u8 (128 + (e : Int)), .int .u8 (128 + (f : Int))] 5)) = .ok (.string (str [UInt8.ofNat (240 + a), UInt8.ofNat (128 + c), UInt8.ofNat (128 + e), UInt8.ofNat (128 + f)])) (w.alloc (Obj.cells #[.int .u8 (240 + (a : Int)), .int .u8 (128 + (c : Int)), .int .u8 (128 + (e : Int)), .int .u8 (128 + (f : Int))] 5)) := by
      exact conv_str (OsB.new_ w w.heap.size (Nat.le_refl _) [UInt8.ofNat (240 + a), UInt8.ofNat (128 + c), UInt8.ofNat (128 + e), UInt8.ofNat (128 + f)] (by simp) _ (by
        simp only [List.map_cons, List.map_nil, bv]
        repeat rw [u8n _ (by omega)]
        first | done | simp) 4 rfl).sl 4
    rw [hx]
    clear hx
    go_enter Tryd.func92, Tryd.ntmps92
    go_wp2
    go_ret
    exact ⟨rfl, (Ext.refl _).alloc _⟩

theorem accN_lt (l : List UInt8) {b n size k : Nat} (h : LeadN b n size) (hk : k ≤ size) (hb : ∀ j, 1 ≤ j → j < k → 128 ≤ (l.getD j 0).toNat ∧ (l.getD j 0).toNat ≤ 191) : accN l n k < 2097152 := by
  have h4 : k = 0 ∨ k = 1 ∨ k = 2 ∨ k = 3 ∨ k = 4 := by unfold LeadN at h; omega
  unfold LeadN at h
  rcases h4 with rfl | rfl | rfl | rfl | rfl
  · simp only [accN]; omega
  · simp only [accN]; omega
  · have := hb 1 (by omega) (by omega)
    simp only [accN, Nat.zero_add]; omega
  · have := hb 1 (by omega) (by omega)
    have := hb 2 (by omega) (by omega)
    simp only [accN, Nat.zero_add, Nat.reduceAdd]; omega
  · have := hb 1 (by omega) (by omega)
    have := hb 2 (by omega) (by omega)
    have := hb 3 (by omega) (by omega)
    simp only [accN, Nat.zero_add, Nat.reduceAdd]; omega
theorem accN_step (l : List UInt8) (n k : Nat) (hk : 1 ≤ k) : accN l n (k + 1) = 64 * accN l n k + ((l.getD k 0).toNat - 128) := by
  match k, hk with
  | k + 1, _ => rfl
theorem at_getD (s : ByteArray) (k : Nat) (h : k < s.size) : (bys s).getD k 0 = s[k] := by
  have h2 : k < (bys s).length := by rw [bys_len]; exact h
  rw [getD_at _ _ h2]
  rfl
/-- What Next returns. -/
def nextV (l : List UInt8) : Value := .tuple #[.int .i64 ((Lib.decodeL l).1 : Int), .int .i64 ((Lib.decodeL l).2 : Int)]
theorem nextV_bad {l : List UInt8} (h : Lib.decodeL l = (65533, 1)) : Value.tuple #[.int .i64 65533, .int .i64 1] = nextV l := by
  unfold nextV; rw [h]; rfl

set_option maxHeartbeats 6400000 in
theorem next_any (s : ByteArray) (h0 : 0 < s.size) (hs : s.size ≤ 140737488355328) :
    Calls Tryd.prog 93 #[.string s] w fun e w' => e = .returned (nextV (bys s)) ∧ Ext w w' := by
  have h0i : (0 : Int) < (s.size : Int) := by omega
  obtain ⟨b, hb⟩ : ∃ b, (s[0]'h0).toNat = b := ⟨_, rfl⟩
  have hb256 : b < 256 := by rw [← hb]; exact UInt8.toNat_lt _
  by_cases c0 : b < 128
  · have i0 : (b : Int) < 128 := by omega
    have HB : Hid (nextV (bys s) = .tuple #[.int .i64 b, .int .i64 1]) := by
      show nextV (bys s) = _
      have h2 := dec_small (bys s) (by rw [at_getD s 0 h0, hb]; exact c0)
      unfold nextV
      rw [h2, at_getD s 0 h0, hb]
      rfl
    go_enter Tryd.func93, Tryd.ntmps93
    go_wp2
    go_ret2
    exact ⟨congrArg Ending.returned HB.out.symm, Ext.refl _⟩
  have i0 : ¬ (b : Int) < 128 := by omega
  by_cases c1 : b < 192
  · have i1 : (b : Int) < 192 := by omega
    have i2 : ¬ (224 : Int) ≤ (b : Int) := by omega
    have i3 : ¬ (240 : Int) ≤ (b : Int) := by omega
    have i4 : ¬ (192 : Int) ≤ (b : Int) := by omega
    have HB := Lib.hid (dec_lead_bad (bys s) (by rw [at_getD s 0 h0, hb]; omega))
    go_enter Tryd.func93, Tryd.ntmps93
    go_wp2
    go_ret2
    exact ⟨congrArg Ending.returned (nextV_bad HB.out), Ext.refl _⟩
  have i1 : (192 : Int) ≤ (b : Int) := by omega
  by_cases c2 : b < 224
  · have i2 : (b : Int) < 224 := by omega
    obtain ⟨n0, hn0⟩ : ∃ n0 : Nat, n0 = b - 192 := ⟨_, rfl⟩
    have he : (b : Int) - 192 = (n0 : Int) := by omega
    have HL := Lib.hid (show LeadN ((bys s).getD 0 0).toNat n0 2 by rw [at_getD s 0 h0, hb]; unfold LeadN; omega)
    have hn32 : n0 < 32 := by omega
    by_cases hss : s.size < 2
    · have hsi : (s.size : Int) < 2 := by omega
      have HB := Lib.hid (dec_short (bys s) HL.out (by rw [bys_len]; exact hss))
      clear hn0
      go_enter Tryd.func93, Tryd.ntmps93
      go_wp2
      go_ret2
      exact ⟨congrArg Ending.returned (nextV_bad HB.out), Ext.refl _⟩
    · have hsi : ¬ (s.size : Int) < 2 := by omega
      clear hn0
      go_enter Tryd.func93, Tryd.ntmps93
      go_wp2
      go_loopw [4, 6] (fun v i wr => ∃ k n : Nat, 1 ≤ k ∧ k ≤ 2 ∧ v = .int .i64 n ∧ i = .int .i64 k ∧ Ext w wr ∧ n < 2097152 ∧ Hid (n = accN (bys s) n0 k ∧ ∀ j, 1 ≤ j → j < k → 128 ≤ ((bys s).getD j 0).toNat ∧ ((bys s).getD j 0).toNat ≤ 191)) (fun _ i _ => 2 - (intOf i).toNat)
      case atStart => exact ⟨1, n0, Nat.le_refl _, by omega, rfl, rfl, Ext.refl _, by omega, Lib.hid ⟨rfl, fun j h1 h2 => absurd h1 (by omega)⟩⟩
      case round =>
        obtain ⟨k, n, h1k, hk, rfl, rfl, hE, hn, HI⟩ := hrel
        by_cases hlt : k < 2
        · have hki : (k : Int) < 2 := by omega
          have hks : k < s.size := by omega
          have hksi : (k : Int) < (s.size : Int) := by omega
          obtain ⟨t, ht⟩ : ∃ t, t = (s[k]'hks).toNat := ⟨_, rfl⟩
          have HT := Lib.hid (show ((bys s).getD k 0).toNat = t by rw [at_getD s k hks, ht])
          have ht' : (s[k]'hks).toNat = t := ht.symm
          clear ht
          by_cases hc1 : t < 128
          · have hci : (t : Int) < 128 := by omega
            have HB := Lib.hid (dec_cont (bys s) HL.out h1k hlt (.inl (by rw [HT.out]; exact hc1)))
            go_wp2
            go_ret2
            exact ⟨congrArg Ending.returned (nextV_bad HB.out), hE⟩
          · have hci : ¬ (t : Int) < 128 := by omega
            by_cases hc2 : 191 < t
            · have hcj : (191 : Int) < (t : Int) := by omega
              have HB := Lib.hid (dec_cont (bys s) HL.out h1k hlt (.inr (by rw [HT.out]; exact hc2)))
              go_wp2
              go_ret2
              exact ⟨congrArg Ending.returned (nextV_bad HB.out), hE⟩
            · have hcj : ¬ (191 : Int) < (t : Int) := by omega
              have HC : Hid (∀ j, 1 ≤ j → j < k + 1 → 128 ≤ ((bys s).getD j 0).toNat ∧ ((bys s).getD j 0).toNat ≤ 191) := fun j h1 h2 => by
                rcases Nat.lt_or_ge j k with h3 | h3
                · exact HI.out.2 j h1 h3
                · obtain rfl : j = k := by omega
                  rw [HT.out]; omega
              have HA : Hid (64 * n + (t - 128) = accN (bys s) n0 (k + 1)) := by
                have h2 := accN_step (bys s) n0 k h1k
                rw [HT.out, ← HI.out.1] at h2
                exact h2.symm
              have HLT : Hid (64 * n + (t - 128) < 2097152) := by
                show 64 * n + (t - 128) < 2097152
                rw [HA.out]
                exact accN_lt (bys s) HL.out (by omega) HC.out
              go_wp2
              go_roundw
              case rel => exact ⟨k + 1, 64 * n + (t - 128), by omega, by omega, by have := HLT.out; first | done | (congr 1; omega) | (simp only [Value.int.injEq, true_and]; omega), by go_num, hE, HLT.out, Lib.hid ⟨HA.out, HC.out⟩⟩
              case measure => simp [intOf]; omega
        · have hki : ¬ (k : Int) < 2 := by omega
          have HK : Hid (k = 2) := by show k = 2; omega
          have HD0 := Lib.hid (dec_end (bys s) HL.out (by rw [bys_len]; omega) (by have := HI.out.2; rw [HK.out] at this; exact this))
          have HD : Hid (Lib.decodeL (bys s) = if PointN n ∧ u8OneL n = (bys s).take 2 then (n, 2) else (65533, 1)) := by
            have h1 := HD0.out
            have h2 := HI.out.1
            rw [HK.out] at h2
            rw [← h2] at h1
            exact h1
          obtain ⟨x, hx⟩ : ∃ x, x = s.extract 0 2 := ⟨_, rfl⟩
          have HX : Hid (bys x = (bys s).take 2) := by show bys x = _; rw [hx, bys_sub, List.drop_zero]
          have hx' : s.extract 0 2 = x := hx.symm
          have hsi2 : (2 : Int) ≤ (s.size : Int) := by omega
          clear hx HD0
          by_cases hp : PointN n
          · have HP := Lib.hid (decide_eq_true hp)
            have hn11 : n ≤ 1114111 := hp.1
            obtain ⟨y, hy⟩ : ∃ y, y = str (u8OneL n) := ⟨_, rfl⟩
            have HY := Lib.hid hy.symm
            by_cases ho : u8OneL n = (bys s).take 2
            · have hbq : (y.toList == x.toList) = true := by
                have e : y = x := bys_inj (by rw [hy, bys_str, HX.out, ho])
                rw [e]; simp
              have HR : Hid (nextV (bys s) = .tuple #[.int .i64 n, .int .i64 2]) := by
                show nextV (bys s) = _
                unfold nextV
                rw [HD.out, if_pos ⟨hp, ho⟩]
                rfl
              clear ho hp hy
              go_wp2
              go_region_held3 (fun _ => True) (first | trivial) (first
                | (go_at_call 91; refine (u8Point_any n).mono ?_; rintro e w9 ⟨rfl, rfl⟩; rw [HP.out])
                | (go_at_call 92; refine (u8One_any n hn11).mono ?_; rintro e w9 ⟨rfl, hE9⟩; rw [HY.out]; have hE10 := hE.drew.trans hE9)
                | fail)
              go_wp2
              go_ret2
              exact ⟨congrArg Ending.returned HR.out.symm, hE10⟩
            · have hbq : (y.toList == x.toList) = false := by
                rw [beq_eq_false_iff_ne]
                intro hh
                rw [ByteArray.toList_eq, ByteArray.toList_eq] at hh
                have h3 : bys y = bys x := hh
                rw [hy, bys_str, HX.out] at h3
                exact ho h3
              have HB : Hid (Lib.decodeL (bys s) = (65533, 1)) := by
                show Lib.decodeL (bys s) = _
                rw [HD.out, if_neg (fun h => ho h.2)]
              clear ho hp hy
              go_wp2
              go_region_held3 (fun _ => True) (first | trivial) (first
                | (go_at_call 91; refine (u8Point_any n).mono ?_; rintro e w9 ⟨rfl, rfl⟩; rw [HP.out])
                | (go_at_call 92; refine (u8One_any n hn11).mono ?_; rintro e w9 ⟨rfl, hE9⟩; rw [HY.out]; have hE10 := hE.drew.trans hE9)
                | fail)
              go_wp2
              go_ret2
              exact ⟨congrArg Ending.returned (nextV_bad HB.out), hE10⟩
          · have HP := Lib.hid (decide_eq_false hp)
            have HB : Hid (Lib.decodeL (bys s) = (65533, 1)) := by
              show Lib.decodeL (bys s) = _
              rw [HD.out, if_neg (fun h => hp h.1)]
            clear hp
            go_wp2
            have hpt : ∀ W, Calls Tryd.prog 91 #[.int .i64 n] W fun e w' => e = .returned (.bool false) ∧ w' = W := fun W => by
              have h9 := u8Point_any (w := W) n
              rw [HP.out] at h9
              exact h9
            have HPT := Lib.hid hpt
            clear hpt
            go_quiet ((go_at_call 91; exact Calls.quiet_of_same (HPT.out _)))
            go_wp2
            go_ret2
            exact ⟨congrArg Ending.returned (nextV_bad HB.out), hE.drewN _⟩
  have i2 : ¬ (b : Int) < 224 := by omega
  have i2' : (224 : Int) ≤ (b : Int) := by omega
  by_cases c3 : b < 240
  · have i3 : (b : Int) < 240 := by omega
    obtain ⟨n0, hn0⟩ : ∃ n0 : Nat, n0 = b - 224 := ⟨_, rfl⟩
    have he : (b : Int) - 224 = (n0 : Int) := by omega
    have HL := Lib.hid (show LeadN ((bys s).getD 0 0).toNat n0 3 by rw [at_getD s 0 h0, hb]; unfold LeadN; omega)
    have hn32 : n0 < 32 := by omega
    by_cases hss : s.size < 3
    · have hsi : (s.size : Int) < 3 := by omega
      have HB := Lib.hid (dec_short (bys s) HL.out (by rw [bys_len]; exact hss))
      clear hn0
      go_enter Tryd.func93, Tryd.ntmps93
      go_wp2
      go_ret2
      exact ⟨congrArg Ending.returned (nextV_bad HB.out), Ext.refl _⟩
    · have hsi : ¬ (s.size : Int) < 3 := by omega
      clear hn0
      go_enter Tryd.func93, Tryd.ntmps93
      go_wp2
      go_loopw [4, 6] (fun v i wr => ∃ k n : Nat, 1 ≤ k ∧ k ≤ 3 ∧ v = .int .i64 n ∧ i = .int .i64 k ∧ Ext w wr ∧ n < 2097152 ∧ Hid (n = accN (bys s) n0 k ∧ ∀ j, 1 ≤ j → j < k → 128 ≤ ((bys s).getD j 0).toNat ∧ ((bys s).getD j 0).toNat ≤ 191)) (fun _ i _ => 3 - (intOf i).toNat)
      case atStart => exact ⟨1, n0, Nat.le_refl _, by omega, rfl, rfl, Ext.refl _, by omega, Lib.hid ⟨rfl, fun j h1 h2 => absurd h1 (by omega)⟩⟩
      case round =>
        obtain ⟨k, n, h1k, hk, rfl, rfl, hE, hn, HI⟩ := hrel
        by_cases hlt : k < 3
        · have hki : (k : Int) < 3 := by omega
          have hks : k < s.size := by omega
          have hksi : (k : Int) < (s.size : Int) := by omega
          obtain ⟨t, ht⟩ : ∃ t, t = (s[k]'hks).toNat := ⟨_, rfl⟩
          have HT := Lib.hid (show ((bys s).getD k 0).toNat = t by rw [at_getD s k hks, ht])
          have ht' : (s[k]'hks).toNat = t := ht.symm
          clear ht
          by_cases hc1 : t < 128
          · have hci : (t : Int) < 128 := by omega
            have HB := Lib.hid (dec_cont (bys s) HL.out h1k hlt (.inl (by rw [HT.out]; exact hc1)))
            go_wp2
            go_ret2
            exact ⟨congrArg Ending.returned (nextV_bad HB.out), hE⟩
          · have hci : ¬ (t : Int) < 128 := by omega
            by_cases hc2 : 191 < t
            · have hcj : (191 : Int) < (t : Int) := by omega
              have HB := Lib.hid (dec_cont (bys s) HL.out h1k hlt (.inr (by rw [HT.out]; exact hc2)))
              go_wp2
              go_ret2
              exact ⟨congrArg Ending.returned (nextV_bad HB.out), hE⟩
            · have hcj : ¬ (191 : Int) < (t : Int) := by omega
              have HC : Hid (∀ j, 1 ≤ j → j < k + 1 → 128 ≤ ((bys s).getD j 0).toNat ∧ ((bys s).getD j 0).toNat ≤ 191) := fun j h1 h2 => by
                rcases Nat.lt_or_ge j k with h3 | h3
                · exact HI.out.2 j h1 h3
                · obtain rfl : j = k := by omega
                  rw [HT.out]; omega
              have HA : Hid (64 * n + (t - 128) = accN (bys s) n0 (k + 1)) := by
                have h2 := accN_step (bys s) n0 k h1k
                rw [HT.out, ← HI.out.1] at h2
                exact h2.symm
              have HLT : Hid (64 * n + (t - 128) < 2097152) := by
                show 64 * n + (t - 128) < 2097152
                rw [HA.out]
                exact accN_lt (bys s) HL.out (by omega) HC.out
              go_wp2
              go_roundw
              case rel => exact ⟨k + 1, 64 * n + (t - 128), by omega, by omega, by have := HLT.out; first | done | (congr 1; omega) | (simp only [Value.int.injEq, true_and]; omega), by go_num, hE, HLT.out, Lib.hid ⟨HA.out, HC.out⟩⟩
              case measure => simp [intOf]; omega
        · have hki : ¬ (k : Int) < 3 := by omega
          have HK : Hid (k = 3) := by show k = 3; omega
          have HD0 := Lib.hid (dec_end (bys s) HL.out (by rw [bys_len]; omega) (by have := HI.out.2; rw [HK.out] at this; exact this))
          have HD : Hid (Lib.decodeL (bys s) = if PointN n ∧ u8OneL n = (bys s).take 3 then (n, 3) else (65533, 1)) := by
            have h1 := HD0.out
            have h2 := HI.out.1
            rw [HK.out] at h2
            rw [← h2] at h1
            exact h1
          obtain ⟨x, hx⟩ : ∃ x, x = s.extract 0 3 := ⟨_, rfl⟩
          have HX : Hid (bys x = (bys s).take 3) := by show bys x = _; rw [hx, bys_sub, List.drop_zero]
          have hx' : s.extract 0 3 = x := hx.symm
          have hsi2 : (3 : Int) ≤ (s.size : Int) := by omega
          clear hx HD0
          by_cases hp : PointN n
          · have HP := Lib.hid (decide_eq_true hp)
            have hn11 : n ≤ 1114111 := hp.1
            obtain ⟨y, hy⟩ : ∃ y, y = str (u8OneL n) := ⟨_, rfl⟩
            have HY := Lib.hid hy.symm
            by_cases ho : u8OneL n = (bys s).take 3
            · have hbq : (y.toList == x.toList) = true := by
                have e : y = x := bys_inj (by rw [hy, bys_str, HX.out, ho])
                rw [e]; simp
              have HR : Hid (nextV (bys s) = .tuple #[.int .i64 n, .int .i64 3]) := by
                show nextV (bys s) = _
                unfold nextV
                rw [HD.out, if_pos ⟨hp, ho⟩]
                rfl
              clear ho hp hy
              go_wp2
              go_region_held3 (fun _ => True) (first | trivial) (first
                | (go_at_call 91; refine (u8Point_any n).mono ?_; rintro e w9 ⟨rfl, rfl⟩; rw [HP.out])
                | (go_at_call 92; refine (u8One_any n hn11).mono ?_; rintro e w9 ⟨rfl, hE9⟩; rw [HY.out]; have hE10 := hE.drew.trans hE9)
                | fail)
              go_wp2
              go_ret2
              exact ⟨congrArg Ending.returned HR.out.symm, hE10⟩
            · have hbq : (y.toList == x.toList) = false := by
                rw [beq_eq_false_iff_ne]
                intro hh
                rw [ByteArray.toList_eq, ByteArray.toList_eq] at hh
                have h3 : bys y = bys x := hh
                rw [hy, bys_str, HX.out] at h3
                exact ho h3
              have HB : Hid (Lib.decodeL (bys s) = (65533, 1)) := by
                show Lib.decodeL (bys s) = _
                rw [HD.out, if_neg (fun h => ho h.2)]
              clear ho hp hy
              go_wp2
              go_region_held3 (fun _ => True) (first | trivial) (first
                | (go_at_call 91; refine (u8Point_any n).mono ?_; rintro e w9 ⟨rfl, rfl⟩; rw [HP.out])
                | (go_at_call 92; refine (u8One_any n hn11).mono ?_; rintro e w9 ⟨rfl, hE9⟩; rw [HY.out]; have hE10 := hE.drew.trans hE9)
                | fail)
              go_wp2
              go_ret2
              exact ⟨congrArg Ending.returned (nextV_bad HB.out), hE10⟩
          · have HP := Lib.hid (decide_eq_false hp)
            have HB : Hid (Lib.decodeL (bys s) = (65533, 1)) := by
              show Lib.decodeL (bys s) = _
              rw [HD.out, if_neg (fun h => hp h.1)]
            clear hp
            go_wp2
            have hpt : ∀ W, Calls Tryd.prog 91 #[.int .i64 n] W fun e w' => e = .returned (.bool false) ∧ w' = W := fun W => by
              have h9 := u8Point_any (w := W) n
              rw [HP.out] at h9
              exact h9
            have HPT := Lib.hid hpt
            clear hpt
            go_quiet ((go_at_call 91; exact Calls.quiet_of_same (HPT.out _)))
            go_wp2
            go_ret2
            exact ⟨congrArg Ending.returned (nextV_bad HB.out), hE.drewN _⟩
  have i3 : ¬ (b : Int) < 240 := by omega
  have i3' : (240 : Int) ≤ (b : Int) := by omega
  by_cases c4 : b < 248
  · have i4 : (b : Int) < 248 := by omega
    obtain ⟨n0, hn0⟩ : ∃ n0 : Nat, n0 = b - 240 := ⟨_, rfl⟩
    have he : (b : Int) - 240 = (n0 : Int) := by omega
    have HL := Lib.hid (show LeadN ((bys s).getD 0 0).toNat n0 4 by rw [at_getD s 0 h0, hb]; unfold LeadN; omega)
    have hn32 : n0 < 32 := by omega
    by_cases hss : s.size < 4
    · have hsi : (s.size : Int) < 4 := by omega
      have HB := Lib.hid (dec_short (bys s) HL.out (by rw [bys_len]; exact hss))
      clear hn0
      go_enter Tryd.func93, Tryd.ntmps93
      go_wp2
      go_ret2
      exact ⟨congrArg Ending.returned (nextV_bad HB.out), Ext.refl _⟩
    · have hsi : ¬ (s.size : Int) < 4 := by omega
      clear hn0
      go_enter Tryd.func93, Tryd.ntmps93
      go_wp2
      go_loopw [4, 6] (fun v i wr => ∃ k n : Nat, 1 ≤ k ∧ k ≤ 4 ∧ v = .int .i64 n ∧ i = .int .i64 k ∧ Ext w wr ∧ n < 2097152 ∧ Hid (n = accN (bys s) n0 k ∧ ∀ j, 1 ≤ j → j < k → 128 ≤ ((bys s).getD j 0).toNat ∧ ((bys s).getD j 0).toNat ≤ 191)) (fun _ i _ => 4 - (intOf i).toNat)
      case atStart => exact ⟨1, n0, Nat.le_refl _, by omega, rfl, rfl, Ext.refl _, by omega, Lib.hid ⟨rfl, fun j h1 h2 => absurd h1 (by omega)⟩⟩
      case round =>
        obtain ⟨k, n, h1k, hk, rfl, rfl, hE, hn, HI⟩ := hrel
        by_cases hlt : k < 4
        · have hki : (k : Int) < 4 := by omega
          have hks : k < s.size := by omega
          have hksi : (k : Int) < (s.size : Int) := by omega
          obtain ⟨t, ht⟩ : ∃ t, t = (s[k]'hks).toNat := ⟨_, rfl⟩
          have HT := Lib.hid (show ((bys s).getD k 0).toNat = t by rw [at_getD s k hks, ht])
          have ht' : (s[k]'hks).toNat = t := ht.symm
          clear ht
          by_cases hc1 : t < 128
          · have hci : (t : Int) < 128 := by omega
            have HB := Lib.hid (dec_cont (bys s) HL.out h1k hlt (.inl (by rw [HT.out]; exact hc1)))
            go_wp2
            go_ret2
            exact ⟨congrArg Ending.returned (nextV_bad HB.out), hE⟩
          · have hci : ¬ (t : Int) < 128 := by omega
            by_cases hc2 : 191 < t
            · have hcj : (191 : Int) < (t : Int) := by omega
              have HB := Lib.hid (dec_cont (bys s) HL.out h1k hlt (.inr (by rw [HT.out]; exact hc2)))
              go_wp2
              go_ret2
              exact ⟨congrArg Ending.returned (nextV_bad HB.out), hE⟩
            · have hcj : ¬ (191 : Int) < (t : Int) := by omega
              have HC : Hid (∀ j, 1 ≤ j → j < k + 1 → 128 ≤ ((bys s).getD j 0).toNat ∧ ((bys s).getD j 0).toNat ≤ 191) := fun j h1 h2 => by
                rcases Nat.lt_or_ge j k with h3 | h3
                · exact HI.out.2 j h1 h3
                · obtain rfl : j = k := by omega
                  rw [HT.out]; omega
              have HA : Hid (64 * n + (t - 128) = accN (bys s) n0 (k + 1)) := by
                have h2 := accN_step (bys s) n0 k h1k
                rw [HT.out, ← HI.out.1] at h2
                exact h2.symm
              have HLT : Hid (64 * n + (t - 128) < 2097152) := by
                show 64 * n + (t - 128) < 2097152
                rw [HA.out]
                exact accN_lt (bys s) HL.out (by omega) HC.out
              go_wp2
              go_roundw
              case rel => exact ⟨k + 1, 64 * n + (t - 128), by omega, by omega, by have := HLT.out; first | done | (congr 1; omega) | (simp only [Value.int.injEq, true_and]; omega), by go_num, hE, HLT.out, Lib.hid ⟨HA.out, HC.out⟩⟩
              case measure => simp [intOf]; omega
        · have hki : ¬ (k : Int) < 4 := by omega
          have HK : Hid (k = 4) := by show k = 4; omega
          have HD0 := Lib.hid (dec_end (bys s) HL.out (by rw [bys_len]; omega) (by have := HI.out.2; rw [HK.out] at this; exact this))
          have HD : Hid (Lib.decodeL (bys s) = if PointN n ∧ u8OneL n = (bys s).take 4 then (n, 4) else (65533, 1)) := by
            have h1 := HD0.out
            have h2 := HI.out.1
            rw [HK.out] at h2
            rw [← h2] at h1
            exact h1
          obtain ⟨x, hx⟩ : ∃ x, x = s.extract 0 4 := ⟨_, rfl⟩
          have HX : Hid (bys x = (bys s).take 4) := by show bys x = _; rw [hx, bys_sub, List.drop_zero]
          have hx' : s.extract 0 4 = x := hx.symm
          have hsi2 : (4 : Int) ≤ (s.size : Int) := by omega
          clear hx HD0
          by_cases hp : PointN n
          · have HP := Lib.hid (decide_eq_true hp)
            have hn11 : n ≤ 1114111 := hp.1
            obtain ⟨y, hy⟩ : ∃ y, y = str (u8OneL n) := ⟨_, rfl⟩
            have HY := Lib.hid hy.symm
            by_cases ho : u8OneL n = (bys s).take 4
            · have hbq : (y.toList == x.toList) = true := by
                have e : y = x := bys_inj (by rw [hy, bys_str, HX.out, ho])
                rw [e]; simp
              have HR : Hid (nextV (bys s) = .tuple #[.int .i64 n, .int .i64 4]) := by
                show nextV (bys s) = _
                unfold nextV
                rw [HD.out, if_pos ⟨hp, ho⟩]
                rfl
              clear ho hp hy
              go_wp2
              go_region_held3 (fun _ => True) (first | trivial) (first
                | (go_at_call 91; refine (u8Point_any n).mono ?_; rintro e w9 ⟨rfl, rfl⟩; rw [HP.out])
                | (go_at_call 92; refine (u8One_any n hn11).mono ?_; rintro e w9 ⟨rfl, hE9⟩; rw [HY.out]; have hE10 := hE.drew.trans hE9)
                | fail)
              go_wp2
              go_ret2
              exact ⟨congrArg Ending.returned HR.out.symm, hE10⟩
            · have hbq : (y.toList == x.toList) = false := by
                rw [beq_eq_false_iff_ne]
                intro hh
                rw [ByteArray.toList_eq, ByteArray.toList_eq] at hh
                have h3 : bys y = bys x := hh
                rw [hy, bys_str, HX.out] at h3
                exact ho h3
              have HB : Hid (Lib.decodeL (bys s) = (65533, 1)) := by
                show Lib.decodeL (bys s) = _
                rw [HD.out, if_neg (fun h => ho h.2)]
              clear ho hp hy
              go_wp2
              go_region_held3 (fun _ => True) (first | trivial) (first
                | (go_at_call 91; refine (u8Point_any n).mono ?_; rintro e w9 ⟨rfl, rfl⟩; rw [HP.out])
                | (go_at_call 92; refine (u8One_any n hn11).mono ?_; rintro e w9 ⟨rfl, hE9⟩; rw [HY.out]; have hE10 := hE.drew.trans hE9)
                | fail)
              go_wp2
              go_ret2
              exact ⟨congrArg Ending.returned (nextV_bad HB.out), hE10⟩
          · have HP := Lib.hid (decide_eq_false hp)
            have HB : Hid (Lib.decodeL (bys s) = (65533, 1)) := by
              show Lib.decodeL (bys s) = _
              rw [HD.out, if_neg (fun h => hp h.1)]
            clear hp
            go_wp2
            have hpt : ∀ W, Calls Tryd.prog 91 #[.int .i64 n] W fun e w' => e = .returned (.bool false) ∧ w' = W := fun W => by
              have h9 := u8Point_any (w := W) n
              rw [HP.out] at h9
              exact h9
            have HPT := Lib.hid hpt
            clear hpt
            go_quiet ((go_at_call 91; exact Calls.quiet_of_same (HPT.out _)))
            go_wp2
            go_ret2
            exact ⟨congrArg Ending.returned (nextV_bad HB.out), hE.drewN _⟩
  · have i4 : ¬ (b : Int) < 248 := by omega
    have HB := Lib.hid (dec_lead_bad (bys s) (by rw [at_getD s 0 h0, hb]; omega))
    go_enter Tryd.func93, Tryd.ntmps93
    go_wp2
    go_ret2
    exact ⟨congrArg Ending.returned (nextV_bad HB.out), Ext.refl _⟩
end

end Go.Proofs.YtcdpmgdocgddcaaDoor

/- The reference's Decode, Encode, Valid. -/
namespace Go.Proofs.YtcdpmgdocgddcaaDoor
open Go.RowKit
set_option maxRecDepth 100000

/-- A number as a cell of a slice of ints. -/
def natF (n : Nat) : List Value := [.int .i64 (n : Int)]
theorem natF_len (n : Nat) : (natF n).length = 1 := rfl
theorem natF_cell : ∀ x : Nat, ∀ u ∈ natF x, u.oneCell' = true := by
  intro x u hu
  simp only [natF, List.mem_cons, List.not_mem_nil, or_false] at hu
  rcases hu with rfl
  rfl
theorem einfo_int : EInfo 85 3 1 8 := EInfo.mk_ (z := .int .i64 0) Tryd.underlying85 (by kernel_rfl) rfl (by omega) (by omega)
theorem str_app (a b : List UInt8) : str (a ++ b) = str a ++ str b := bys_inj (by
  rw [bys_str]
  show _ = bys (str a ++ str b)
  unfold bys
  rw [ByteArray.data_append]
  simp [str])
section
variable {w : World}
set_option maxHeartbeats 3200000 in
theorem decode_any (s : ByteArray) (hs : s.size ≤ 1000000) :
    Calls Tryd.prog 88 #[.string s] w fun e w' => (∃ A m c, e = .returned (.slice A m c) ∧ SlC natF 1 w' A m (u8DecL (bys s)) ∧ m ≤ s.size) ∧ Ext w w' := by
  go_enter Tryd.func88, Tryd.ntmps88
  go_wp2
  go_loopw [0, 3] (fun v o wr => ∃ (t : ByteArray) (A : Option Addr) (m c : Nat) (l : List Nat), v = .string t ∧ o = .slice A m c ∧ OsC natF 3 1 wr w.heap.size A m c l ∧ m + t.size ≤ s.size ∧ Hid (l ++ u8DecL (bys t) = u8DecL (bys s)) ∧ Ext w wr) (fun v _ _ => match v with | .string t => t.size | _ => 0)
  case atStart => exact ⟨s, none, 0, 0, [], rfl, rfl, OsC.nil_ natF_len natF_cell, by omega, Lib.hid rfl, Ext.refl _⟩
  case round =>
    obtain ⟨t, A, m, c, l, rfl, rfl, ho, hm, HD, hE⟩ := hrel
    by_cases h0 : 0 < t.size
    · have h0i : (0 : Int) < (t.size : Int) := by omega
      obtain ⟨n, k, hnk⟩ : ∃ n k, Lib.decodeL (bys t) = (n, k) := ⟨_, _, rfl⟩
      have HNK := Lib.hid hnk
      have hw := Lib.decodeL_width (bys t)
      have hne : bys t ≠ [] := fun e => by have := bys_len t; rw [e] at this; simp at this; omega
      have hw2 := dec_le (bys t) hne
      have hk1 : 1 ≤ k ∧ k ≤ t.size := by
        rw [hnk] at hw hw2
        rw [bys_len] at hw2
        exact ⟨hw, hw2⟩
      have HV : Hid (nextV (bys t) = .tuple #[.int .i64 n, .int .i64 k]) := by show nextV (bys t) = _; unfold nextV; rw [hnk]
      have hst := decL_step (bys t) hne
      rw [hnk] at hst
      obtain ⟨x, hx⟩ : ∃ x, x = t.extract k t.size := ⟨_, rfl⟩
      have hx' : t.extract k t.size = x := hx.symm
      have hbx : bys x = (bys t).drop k := by rw [hx, bys_sub, List.take_of_length_le (by rw [bys_len]; exact Nat.le_refl _)]
      have hxs : x.size = t.size - k := by rw [← bys_len, hbx, List.length_drop, bys_len]
      have HS : Hid (u8DecL (bys t) = n :: u8DecL (bys x)) := by show u8DecL (bys t) = _; rw [hst, hbx]
      have HXS := Lib.hid hxs
      clear hst hx hbx hw hw2 hnk hne hxs
      obtain ⟨hk1, hk2⟩ := hk1
      have hki : (k : Int) ≤ (t.size : Int) := by omega
      go_wp2_with (first
        | (go_at_call 93; refine Hid.out ?_))
      refine Hid.mk_ ((next_any t h0 (by omega)).mono ?_)
      rintro e w2 ⟨rfl, hE2⟩
      rw [HV.out]
      have hE02 := hE.trans hE2
      have ho2 := ho.ext hE2
      have hnew : SlC natF 1 (w2.alloc (Obj.cells #[Value.int IntKind.i64 (n : Int)] 3)) (some ⟨w2.heap.size, 0, none⟩) 1 [n] :=
        SlC.new_ (cs := natF) w2 [n] natF_len (by simp) _ rfl (0, 0) 1 rfl 3
      have hE1a : Ext w2 (w2.alloc (Obj.cells #[Value.int IntKind.i64 (n : Int)] 3)) := (Ext.refl _).alloc _
      go_wp2_with (first
        | (at_builtin; refine Hid.out ?_))
      refine Hid.mk_ ?_
      refine (appC einfo_int) rfl _ _ rfl (ho2.ext hE1a) rfl hnew rfl (by omega) (Nat.le_trans hE02.size_le hE1a.size_le) ?_
      intro A2 m2 c2 w3 ho3 hg3 hat3
      have hE3 : Ext w w3 := (hE02.trans hE1a).grown hg3 ho2.ge
      have hm2 : m2 = m + 1 := by rw [ho3.len, List.length_append, ← ho.len]; rfl
      have HM := Lib.hid hm2
      clear hm2
      go_wp2
      go_roundw
      case rel => exact ⟨x, A2, m2, c2, l ++ [n], rfl, rfl, ho3, by rw [HM.out, HXS.out]; omega, Lib.hid (by rw [← HD.out, HS.out]; simp), hE3⟩
      case measure => show x.size < t.size; rw [HXS.out]; omega
    · have h0i : ¬ (0 : Int) < (t.size : Int) := by omega
      have ht : bys t = [] := List.eq_nil_of_length_eq_zero (by rw [bys_len]; omega)
      have HL : Hid (l = u8DecL (bys s)) := by
        have h1 := HD.out
        rw [ht, decL_nil, List.append_nil] at h1
        exact h1
      clear ht
      go_wp2
      go_ret
      exact ⟨⟨A, m, ⟨c, rfl⟩, by rw [← HL.out]; exact ho.sl, by omega⟩, hE⟩

set_option maxHeartbeats 3200000 in
theorem encode_any {A : Option Addr} {m : Nat} (c : Nat) {l : List Nat} (hs : SlC natF 1 w A m l) (hm : m ≤ 1000000) :
    Calls Tryd.prog 87 #[.slice A m c] w fun e w' => e = .returned (.string (str (u8EncL l))) ∧ Ext w w' := by
  have HL := Lib.hid hs.len
  go_enter Tryd.func87, Tryd.ntmps87
  go_wp2
  go_loopw [3, 4] (fun v i wr => ∃ (t : ByteArray) (q : Nat), q ≤ m ∧ v = .string t ∧ i = .int .i64 q ∧ Hid (t = str (u8EncL (l.take q))) ∧ t.size ≤ 4 * q ∧ Ext w wr) (fun _ i _ => m - (intOf i).toNat)
  case atStart => exact ⟨⟨#[]⟩, 0, Nat.zero_le _, rfl, rfl, Lib.hid (by rw [List.take_zero]; rfl), Nat.le_refl _, Ext.refl _⟩
  case round =>
    obtain ⟨t, q, hq, rfl, rfl, HT, hts, hE⟩ := hrel
    by_cases hlt : q < m
    · have hi1 : (q : Int) < (m : Int) := by omega
      obtain ⟨b, off, rfl, hbl, hcs⟩ := (hs.ext hE).at_ hlt (by omega)
      have hlt1 : q < l.length := by rw [← HL.out]; exact hlt
      obtain ⟨n, hn⟩ : ∃ n, n = l[q] := ⟨_, rfl⟩
      have x0 := hcs q hlt1 0 (by omega)
      simp only [← hn, natF, List.getElem_cons_zero, Nat.mul_one, Nat.add_zero] at x0
      have hst : u8EncL (l.take (q + 1)) = u8EncL (l.take q) ++ u8EncOne n := by
        rw [List.take_succ_eq_append_getElem hlt1, encL_append, ← hn, u8EncL, u8EncL, List.append_nil]
      have HS : Hid (t ++ str (u8EncOne n) = str (u8EncL (l.take (q + 1)))) := by show _ = _; rw [hst, str_app, HT.out]
      have he4 : (str (u8EncOne n)).size ≤ 4 := by
        rw [str_size]
        unfold u8EncOne
        have h1 : ∀ k, (u8OneL k).length ≤ 4 := fun k => by
          unfold u8OneL
          repeat' split
          all_goals simp
        split
        · exact h1 _
        · exact h1 _
      have hsz : (t ++ str (u8EncOne n)).size = t.size + (str (u8EncOne n)).size := ByteArray.size_append
      have HSZ := Lib.hid hsz
      obtain ⟨y, hy⟩ : ∃ y, y = str (u8EncOne n) := ⟨_, rfl⟩
      rw [← hy] at he4
      clear hcs hn hst hsz
      by_cases hp : PointN n
      · have HP := Lib.hid (decide_eq_true hp)
        have hn11 : n ≤ 1114111 := hp.1
        have HY : Hid (str (u8OneL n) = y) := by show _ = _; rw [hy]; unfold u8EncOne; rw [if_pos hp]
        rw [← hy] at HS HSZ
        clear hy hp
        go_wp2_with (first
          | (go_at_call 91; refine Hid.out ?_))
        refine Hid.mk_ ((u8Point_any n).mono ?_)
        rintro e w2 ⟨rfl, rfl⟩
        rw [HP.out]
        go_wp2_with (first
          | (go_at_call 92; refine Hid.out ?_))
        refine Hid.mk_ ((u8One_any n hn11).mono ?_)
        rintro e w3 ⟨rfl, hE3⟩
        rw [HY.out]
        go_wp2
        go_roundw
        case rel => exact ⟨t ++ y, q + 1, by omega, rfl, by go_num, HS, by rw [HSZ.out]; omega, hE.trans hE3⟩
        case measure => simp [intOf]; omega
      · have HP := Lib.hid (decide_eq_false hp)
        have HY : Hid (str (u8OneL 65533) = y) := by show _ = _; rw [hy]; unfold u8EncOne; rw [if_neg hp]
        rw [← hy] at HS HSZ
        clear hy hp
        go_wp2_with (first
          | (go_at_call 91; refine Hid.out ?_))
        refine Hid.mk_ ((u8Point_any n).mono ?_)
        rintro e w2 ⟨rfl, rfl⟩
        rw [HP.out]
        go_wp2_with (first
          | (go_at_call 92; refine Hid.out ?_))
        refine Hid.mk_ ((u8One_any 65533 (by omega)).mono ?_)
        rintro e w3 ⟨rfl, hE3⟩
        rw [HY.out]
        go_wp2
        go_roundw
        case rel => exact ⟨t ++ y, q + 1, by omega, rfl, by go_num, HS, by rw [HSZ.out]; omega, hE.trans hE3⟩
        case measure => simp [intOf]; omega
    · have hi1 : ¬ (q : Int) < (m : Int) := by omega
      have HF : Hid (t = str (u8EncL l)) := by
        have h1 := HT.out
        rw [List.take_of_length_le (by rw [← HL.out]; omega)] at h1
        exact h1
      go_wp2
      go_ret
      exact ⟨by rw [HF.out]; first | done | rfl, hE⟩

set_option maxHeartbeats 1600000 in
theorem refValid_any (s : ByteArray) (hs : s.size ≤ 1000000) :
    Calls Tryd.prog 78 #[.string s] w fun e w' => e = .returned (.bool (Lib.validD (bys s))) ∧ Ext w w' := by
  go_enter Tryd.func78, Tryd.ntmps78
  go_wp2_with (first
    | (go_at_call 88; refine Hid.out ?_))
  refine Hid.mk_ ((decode_any s hs).mono ?_)
  rintro e w2 ⟨⟨A, m, c, rfl, hd, hm⟩, hE2⟩
  go_wp2_with (first
    | (go_at_call 87; refine Hid.out ?_))
  refine Hid.mk_ ((encode_any c hd (by omega)).mono ?_)
  rintro e w3 ⟨rfl, hE3⟩
  have hE := hE2.trans hE3
  obtain ⟨y, hy⟩ : ∃ y, y = str (u8EncL (u8DecL (bys s))) := ⟨_, rfl⟩
  rw [← hy]
  have hv := validD_enc (bys s)
  by_cases hq : u8EncL (u8DecL (bys s)) = bys s
  · have hbq : (y.toList == s.toList) = true := by rw [hy, hq, str_bys]; simp
    rw [decide_eq_true hq] at hv
    have HV := Lib.hid hv
    clear hv hq hy
    go_wp2
    go_ret
    exact ⟨by rw [HV.out]; first | done | rfl, hE⟩
  · have hbq : (y.toList == s.toList) = false := by
      rw [beq_eq_false_iff_ne]
      intro hh
      rw [ByteArray.toList_eq, ByteArray.toList_eq] at hh
      have h3 : bys y = bys s := hh
      rw [hy, bys_str] at h3
      exact hq h3
    rw [decide_eq_false hq] at hv
    have HV := Lib.hid hv
    clear hv hq hy
    go_wp2
    go_ret
    exact ⟨by rw [HV.out]; first | done | rfl, hE⟩
end

end Go.Proofs.YtcdpmgdocgddcaaDoor
