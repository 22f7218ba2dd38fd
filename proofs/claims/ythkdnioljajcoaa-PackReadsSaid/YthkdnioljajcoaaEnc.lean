/- The encoding of integers, strings and lists, as plain functions on lists of bytes. No program in sight. -/
namespace Go.Proofs.Ythkdnioljajcoaa

/-- The digits of a number to the base 256, the least one first. -/
def le256 : Nat → Nat → List UInt8
  | 0, _ => []
  | f + 1, a => if a = 0 then [] else UInt8.ofNat a :: le256 f (a / 256)
/-- The number that digits are, the least one first. -/
def num256 : List UInt8 → Nat
  | [] => 0
  | d :: l => d.toNat + 256 * num256 l
def encAbs (a : Nat) : List UInt8 := (le256 8 a).reverse
def encI (n : Int) : List UInt8 := UInt8.ofNat ((if n < 0 then 16 else 0) + (le256 8 n.natAbs).length) :: encAbs n.natAbs
def encS (s : List UInt8) : List UInt8 := encI s.length ++ s
def encL (l : List (List UInt8)) : List UInt8 := encI l.length ++ l.flatMap encS

theorem le256_length (f : Nat) : ∀ a, (le256 f a).length ≤ f := by
  induction f with
  | zero => intro a; simp [le256]
  | succ f ih => intro a; unfold le256; split
                 · simp
                 · simp; exact ih _
theorem le256_zero (f : Nat) : le256 f 0 = [] := by cases f <;> simp [le256]
theorem encI_length_le (n : Int) : (encI n).length ≤ 9 := by
  have := le256_length 8 n.natAbs
  simp [encI, encAbs]; omega
theorem encI_length_pos (n : Int) : 1 ≤ (encI n).length := by simp [encI]
theorem num_le256 (f : Nat) : ∀ a, a < 256 ^ f → num256 (le256 f a) = a := by
  induction f with
  | zero => intro a h; simp at h; simp [le256, num256, h]
  | succ f ih =>
    intro a h
    unfold le256
    split
    · simp [num256, *]
    · rw [num256, ih (a / 256) (by rw [Nat.pow_succ] at h; omega)]
      simp only [UInt8.toNat_ofNat']
      omega

end Go.Proofs.Ythkdnioljajcoaa
