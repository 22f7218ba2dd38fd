/- The order of strings. -/
import Derived.Test.YtgnchicipmomlaaGreatDoorPK01
namespace Go.Proofs.YtgnchicipmomlaaGreatDoor
set_option maxRecDepth 100000
abbrev bO (a b : ByteArray) : Bool := Op.bytesLess a.toList b.toList
theorem bl_cons (a b : UInt8) (x y : List UInt8) : Op.bytesLess (a :: x) (b :: y) = (decide (a < b) || (decide (a = b) && Op.bytesLess x y)) := by
  rw [Op.bytesLess]
  by_cases h1 : a < b <;> by_cases h2 : a = b <;> simp [h1, h2]
theorem bl_irrefl : ∀ a : List UInt8, Op.bytesLess a a = false
  | [] => rfl
  | a :: x => by rw [bl_cons, bl_irrefl x]; simp [UInt8.lt_irrefl]
theorem bl_trans : ∀ a b c : List UInt8, Op.bytesLess a b = true → Op.bytesLess b c = true → Op.bytesLess a c = true
  | [], [], _, h, _ => by cases h
  | [], _ :: _, [], _, h => by cases h
  | [], _ :: _, _ :: _, _, _ => rfl
  | _ :: _, [], _, h, _ => by cases h
  | _ :: _, _ :: _, [], _, h => by cases h
  | a :: x, b :: y, c :: z, h1, h2 => by
    rw [bl_cons] at h1 h2 ⊢
    simp only [Bool.or_eq_true, Bool.and_eq_true, decide_eq_true_eq] at h1 h2 ⊢
    rcases h1 with h1 | ⟨rfl, h1⟩ <;> rcases h2 with h2 | ⟨rfl, h2⟩
    · exact .inl (UInt8.lt_trans h1 h2)
    · exact .inl h1
    · exact .inl h2
    · exact .inr ⟨rfl, bl_trans x y z h1 h2⟩
theorem bl_tri : ∀ a b : List UInt8, Op.bytesLess a b = false → Op.bytesLess b a = false → a = b
  | [], [], _, _ => rfl
  | [], _ :: _, h, _ => by cases h
  | _ :: _, [], _, h => by cases h
  | a :: x, b :: y, h1, h2 => by
    rw [bl_cons] at h1 h2
    simp only [Bool.or_eq_false_iff, Bool.and_eq_false_iff, decide_eq_false_iff_not] at h1 h2
    have hab : a = b := by
      have e1 := h1.1
      have e2 := h2.1
      rw [UInt8.lt_iff_toNat_lt] at e1 e2
      exact UInt8.toNat_inj.1 (by omega)
    subst hab
    rw [bl_tri x y (by rcases h1.2 with h | h; exact absurd rfl h; exact h) (by rcases h2.2 with h | h; exact absurd rfl h; exact h)]
theorem toList_iff {a b : ByteArray} : a.toList = b.toList ↔ a = b := ⟨fun e => bys_inj (by rw [ByteArray.toList_eq, ByteArray.toList_eq] at e; exact e), fun e => by rw [e]⟩
theorem bO_irrefl (a : ByteArray) : bO a a = false := bl_irrefl _
theorem bO_trans {a b c : ByteArray} (h1 : bO a b = true) (h2 : bO b c = true) : bO a c = true := bl_trans _ _ _ h1 h2
theorem bO_tri {a b : ByteArray} (h1 : bO a b = false) (h2 : bO b a = false) : a = b := toList_iff.1 (bl_tri _ _ h1 h2)
theorem bO_asym {a b : ByteArray} (h1 : bO a b = true) : bO b a = false := by
  cases h : bO b a with
  | false => rfl
  | true => have := bO_trans h1 h; rw [bO_irrefl] at this; cases this
/-- 's <= p' is 'not p < s'. -/
theorem le_not (s p : ByteArray) : (bO s p || (s.toList == p.toList)) = !bO p s := by
  cases h : bO p s with
  | true =>
    rw [bO_asym h]
    simp only [Bool.false_or, Bool.not_true, beq_eq_false_iff_ne]
    intro e
    rw [toList_iff] at e
    subst e
    rw [bO_irrefl] at h
    cases h
  | false =>
    cases h2 : bO s p with
    | true => rfl
    | false =>
      have := bO_tri h2 h
      subst this
      simp
end Go.Proofs.YtgnchicipmomlaaGreatDoor
