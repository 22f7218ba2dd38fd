/- The encoding of integers, strings and lists, as plain functions on lists of bytes. No program in sight. -/

namespace Go.Proofs.YtoghaehcmbonnaaGreatDoor

/-- The digits of a number to the base 256, the least one first. -/
def le256 : Nat → Nat → List UInt8
  | 0, _ => []
  | f + 1, a => if a = 0 then [] else UInt8.ofNat a :: le256 f (a / 256)
/-- The number that digits are, the least one first. -/
def num256 : List UInt8 → Nat
  | [] => 0
  | d :: l => d.toNat + 256 * num256 l
def encAbs (a : Nat) : List UInt8 := (le256 8 a).reverse
def encI (n : Int) : List UInt8 := UInt8.ofNat ((if n < 0 then 16 else 0) + (le256 8 n.natAbs).length) :: encAbs n.natAbs
def encS (s : List UInt8) : List UInt8 := encI s.length ++ s
def encL (l : List (List UInt8)) : List UInt8 := encI l.length ++ l.flatMap encS

theorem le256_length (f : Nat) : ∀ a, (le256 f a).length ≤ f := by
  induction f with
  | zero => intro a; simp [le256]
  | succ f ih => intro a; unfold le256; split
                 · simp
                 · simp; exact ih _
theorem le256_zero (f : Nat) : le256 f 0 = [] := by cases f <;> simp [le256]
theorem encI_length_le (n : Int) : (encI n).length ≤ 9 := by
  have := le256_length 8 n.natAbs
  simp [encI, encAbs]; omega
theorem encI_length_pos (n : Int) : 1 ≤ (encI n).length := by simp [encI]
theorem num_le256 (f : Nat) : ∀ a, a < 256 ^ f → num256 (le256 f a) = a := by
  induction f with
  | zero => intro a h; simp at h; simp [le256, num256, h]
  | succ f ih =>
    intro a h
    unfold le256
    split
    · simp [num256, *]
    · rw [num256, ih (a / 256) (by rw [Nat.pow_succ] at h; omega)]
      simp only [UInt8.toNat_ofNat']
      omega

end Go.Proofs.YtoghaehcmbonnaaGreatDoor

/- Reading integers: the plain law. No program in sight. -/
namespace Go.Proofs.YtoghaehcmbonnaaGreatDoor

def numBE (l : List UInt8) : Nat := l.foldl (fun a d => 256 * a + d.toNat) 0
theorem numBE_snoc (l : List UInt8) (d : UInt8) : numBE (l ++ [d]) = 256 * numBE l + d.toNat := by simp [numBE]
theorem numBE_rev (l : List UInt8) : numBE l.reverse = num256 l := by
  induction l with
  | nil => rfl
  | cons d l ih => rw [List.reverse_cons, numBE_snoc, ih, num256]; omega
theorem num256_lt (l : List UInt8) : num256 l < 256 ^ l.length := by
  induction l with
  | nil => simp [num256]
  | cons d l ih =>
    have := d.toNat_lt
    rw [num256, List.length_cons, Nat.pow_succ]
    omega
theorem numBE_lt (l : List UInt8) : numBE l < 256 ^ l.length := by
  have := num256_lt l.reverse
  rw [← numBE_rev, List.reverse_reverse, List.length_reverse] at this
  exact this
/-- No digit list of a number ends in 0 at its great end. -/
theorem le256_last (f : Nat) : ∀ a, le256 f a ≠ [] → a < 256 ^ f → (le256 f a).getLast? ≠ some 0 := by
  induction f with
  | zero => intro a h; exact absurd rfl h
  | succ f ih =>
    intro a h ha
    unfold le256 at h ⊢
    split at h
    · exact absurd rfl h
    · rename_i h0
      rw [if_neg h0]
      by_cases h1 : le256 f (a / 256) = []
      · rw [h1]
        simp only [List.getLast?_singleton, ne_eq, Option.some.injEq]
        intro e
        have e2 := congrArg UInt8.toNat e
        rw [UInt8.toNat_ofNat'] at e2
        have e3 : a / 256 = 0 := by
          rcases Nat.eq_zero_or_pos (a / 256) with h2 | h2
          · exact h2
          · exfalso
            cases f with
            | zero => rw [Nat.pow_succ, Nat.pow_zero] at ha; omega
            | succ f =>
              unfold le256 at h1
              rw [if_neg (by omega)] at h1
              cases h1
        simp at e2
        omega
      · rw [List.getLast?_cons]
        have := ih (a / 256) h1 (by rw [Nat.pow_succ] at ha; omega)
        cases hl : (le256 f (a / 256)).getLast? with
        | none => exact absurd (List.getLast?_eq_none_iff.1 hl) h1
        | some x => simpa [hl] using this
/-- A digit list without a 0 at its great end is the number's own. -/
theorem le256_num (l : List UInt8) : ∀ f, l.length ≤ f → l.getLast? ≠ some 0 → le256 f (num256 l) = l := by
  induction l with
  | nil => intro f _ _; exact le256_zero f
  | cons d l ih =>
    intro f hf hl
    cases f with
    | zero => simp at hf
    | succ f =>
      have hd := d.toNat_lt
      have hne : num256 (d :: l) ≠ 0 := by
        intro e
        rw [num256] at e
        have h1 : d.toNat = 0 := by omega
        have h2 : num256 l = 0 := by omega
        cases l with
        | nil => exact hl (by simp [UInt8.toNat_inj.1 (show d.toNat = (0 : UInt8).toNat by simpa using h1)])
        | cons d' l' =>
          have := ih (l'.length + 1) (by simp) (by simpa [List.getLast?_cons] using hl)
          rw [h2, le256_zero] at this
          cases this
      unfold le256
      rw [if_neg hne, num256]
      have e1 : UInt8.ofNat (d.toNat + 256 * num256 l) = d := by
        apply UInt8.toNat_inj.1
        rw [UInt8.toNat_ofNat']
        omega
      have e2 : (d.toNat + 256 * num256 l) / 256 = num256 l := by omega
      rw [e1, e2]
      cases l with
      | nil => rw [show num256 [] = 0 from rfl, le256_zero]
      | cons d' l' => rw [ih f (by simpa using hf) (by simpa [List.getLast?_cons] using hl)]

def InR (n : Int) : Prop := -9223372036854775808 ≤ n ∧ n ≤ 9223372036854775807
/-- The number of digits that a head byte says, and whether it says 'less than 0'. -/
def headK (h : UInt8) : Nat := if h.toNat / 16 % 2 = 1 then h.toNat - 16 else h.toNat
def headL (h : UInt8) : Bool := h.toNat / 16 % 2 = 1
/-- The integer at the beginning of bytes, and its length. -/
def readI : List UInt8 → Option (Int × Nat)
  | [] => none
  | h :: t =>
    if 8 < headK h ∨ t.length < headK h then none
    else if (0 < headK h ∧ t.head? = some 0) ∨ (headK h = 0 ∧ headL h = true) then none
    else if (headL h = true ∧ 9223372036854775808 < numBE (t.take (headK h))) ∨ (headL h = false ∧ 9223372036854775807 < numBE (t.take (headK h))) then none
    else some (if headL h = true then - (numBE (t.take (headK h)) : Int) else (numBE (t.take (headK h)) : Int), headK h + 1)

theorem encAbs_length (a : Nat) : (encAbs a).length ≤ 8 := by rw [encAbs, List.length_reverse]; exact le256_length 8 a
theorem numBE_encAbs (a : Nat) (h : a < 256 ^ 8) : numBE (encAbs a) = a := by rw [encAbs, numBE_rev, num_le256 8 a h]
theorem encAbs_numBE (l : List UInt8) (h : l.length ≤ 8) (h0 : l.head? ≠ some 0) : encAbs (numBE l) = l := by
  have h1 := le256_num l.reverse 8 (by simpa using h) (by simpa using h0)
  rw [← numBE_rev, List.reverse_reverse] at h1
  rw [encAbs, h1, List.reverse_reverse]
theorem encAbs_head (a : Nat) (h : a < 256 ^ 8) : (encAbs a).head? ≠ some 0 := by
  by_cases h0 : le256 8 a = []
  · simp [encAbs, h0]
  · have := le256_last 8 a h0 h
    simpa [encAbs] using this
theorem encI_eq (n : Int) : encI n = UInt8.ofNat ((if n < 0 then 16 else 0) + (encAbs n.natAbs).length) :: encAbs n.natAbs := by
  simp [encI, encAbs]
theorem headK_enc (k : Nat) (b : Bool) (hk : k ≤ 8) : headK (UInt8.ofNat ((if b then 16 else 0) + k)) = k ∧ headL (UInt8.ofNat ((if b then 16 else 0) + k)) = b := by
  unfold headK headL
  rw [UInt8.toNat_ofNat']
  cases b
  · simp only [Bool.false_eq_true, if_false, decide_eq_false_iff_not]
    constructor
    · split <;> omega
    · omega
  · simp only [if_true, decide_eq_true_eq]
    constructor
    · split <;> omega
    · omega
/-- What was encoded is read. -/
theorem readI_enc (n : Int) (h : InR n) (r : List UInt8) : readI (encI n ++ r) = some (n, (encI n).length) := by
  obtain ⟨h1, h2⟩ := h
  have hl := encAbs_length n.natAbs
  have hlt : n.natAbs < 256 ^ 8 := by omega
  have hk := headK_enc (encAbs n.natAbs).length (decide (n < 0)) hl
  simp only [decide_eq_true_eq] at hk
  have hnum := numBE_encAbs n.natAbs hlt
  have hhd := encAbs_head n.natAbs hlt
  rw [encI_eq, List.cons_append, readI, hk.1, hk.2]
  have e1 : (encAbs n.natAbs ++ r).take (encAbs n.natAbs).length = encAbs n.natAbs := List.take_left
  rw [e1, hnum, if_neg (by simp; omega), if_neg, if_neg]
  · simp only [decide_eq_true_eq, List.length_cons]
    congr 2
    split <;> omega
  · simp only [decide_eq_true_eq, decide_eq_false_iff_not]
    omega
  · rintro (⟨ha, hb⟩ | ⟨ha, hb⟩)
    · cases hea : encAbs n.natAbs with
      | nil => rw [hea] at ha; simp at ha
      | cons d l => rw [hea] at hb hhd; exact hhd (by simpa using hb)
    · have hz : encAbs n.natAbs = [] := List.eq_nil_of_length_eq_zero ha
      rw [hz] at hnum
      have : n.natAbs = 0 := hnum.symm
      simp at hb
      omega
/-- What is read is an encoding. -/
theorem readI_some {b : List UInt8} {n : Int} {k : Nat} (h : readI b = some (n, k)) : InR n ∧ k = (encI n).length ∧ b.take k = encI n := by
  cases b with
  | nil => cases h
  | cons x t =>
    rw [readI] at h
    split at h
    · cases h
    · rename_i c1
      split at h
      · cases h
      · rename_i c2
        split at h
        · cases h
        · rename_i c3
          injection h with h
          injection h with hn hk
          have hlen : (t.take (headK x)).length = headK x := by rw [List.length_take]; omega
          have hlt := numBE_lt (t.take (headK x))
          have hhead : (t.take (headK x)).head? ≠ some 0 := by
            cases hk0 : headK x with
            | zero => simp
            | succ j =>
              rw [List.head?_take, if_neg (by omega)]
              intro e
              exact c2 (.inl ⟨by omega, e⟩)
          have henc := encAbs_numBE (t.take (headK x)) (by omega) hhead
          have hx : x.toNat = (if headL x = true then 16 else 0) + headK x := by
            have := x.toNat_lt
            unfold headL headK
            by_cases hb : x.toNat / 16 % 2 = 1
            · simp [hb]; omega
            · simp [hb]
          have habs : n.natAbs = numBE (t.take (headK x)) := by rw [← hn]; split <;> omega
          have hneg : (n < 0) ↔ headL x = true := by
            rw [← hn]
            constructor
            · intro hh
              by_cases hL : headL x = true
              · exact hL
              · rw [if_neg hL] at hh; omega
            · intro hL
              rw [if_pos hL]
              have hpos : 0 < numBE (t.take (headK x)) := by
                rcases Nat.eq_zero_or_pos (numBE (t.take (headK x))) with h0 | h0
                · exfalso
                  rw [h0, show encAbs 0 = [] from rfl] at henc
                  rw [← henc] at hlen
                  exact c2 (.inr ⟨by simpa using hlen.symm, hL⟩)
                · exact h0
              omega
          have e : encI n = x :: t.take (headK x) := by
            rw [encI_eq, habs, henc, hlen]
            congr 1
            apply UInt8.toNat_inj.1
            rw [UInt8.toNat_ofNat', hx]
            by_cases hL : headL x = true
            · rw [if_pos (hneg.2 hL), if_pos hL]; omega
            · rw [if_neg (fun hh => hL (hneg.1 hh)), if_neg hL]; omega
          refine ⟨?_, ?_, ?_⟩
          · unfold InR
            cases hL : headL x with
            | true => rw [hL] at c3 hn; simp at c3 hn; omega
            | false => rw [hL] at c3 hn; simp at c3 hn; omega
          · rw [e, List.length_cons, hlen, hk]
          · rw [e, ← hk, List.take_succ_cons]
theorem readI_prefix {b : List UInt8} {n : Int} {k : Nat} (h : readI b = some (n, k)) : b = encI n ++ b.drop k := by
  have := (readI_some h).2.2
  rw [← this, List.take_append_drop]
theorem readI_len {b : List UInt8} {n : Int} {k : Nat} (h : readI b = some (n, k)) : 1 ≤ k ∧ k ≤ b.length := by
  have h1 := readI_some h
  have h2 := congrArg List.length h1.2.2
  rw [List.length_take] at h2
  have := encI_length_pos n
  omega

/-- The string at the beginning of bytes, and the length of its encoding. -/
def readS (b : List UInt8) : Option (List UInt8 × Nat) :=
  match readI b with
  | some (n, k) => if 0 ≤ n ∧ n ≤ (b.length : Int) - k then some ((b.drop k).take n.toNat, k + n.toNat) else none
  | none => none
theorem encI_inR (n : Nat) (h : n ≤ 9223372036854775807) : InR n := by unfold InR; omega
theorem readS_enc (s : List UInt8) (h : s.length ≤ 9223372036854775807) (r : List UInt8) : readS (encS s ++ r) = some (s, (encS s).length) := by
  unfold readS
  rw [encS, List.append_assoc, readI_enc _ (encI_inR _ h)]
  simp only [List.length_append, Int.toNat_natCast]
  rw [if_pos (by omega), List.drop_left, List.take_left]
theorem readS_some {b s : List UInt8} {k : Nat} (h : readS b = some (s, k)) : k = (encS s).length ∧ b.take k = encS s ∧ k ≤ b.length ∧ 1 ≤ k ∧ s.length ≤ b.length := by
  unfold readS at h
  cases hI : readI b with
  | none => rw [hI] at h; cases h
  | some p =>
    obtain ⟨n, j⟩ := p
    rw [hI] at h
    simp only at h
    split at h
    · rename_i hc
      injection h with h
      injection h with h1 h2
      have hr := readI_some hI
      have hl := readI_len hI
      have hlen : s.length = n.toNat := by rw [← h1, List.length_take, List.length_drop]; omega
      have hn : ((s.length : Nat) : Int) = n := by omega
      have hk : k = (encS s).length := by rw [encS, List.length_append, hn, ← hr.2.1]; omega
      have ht : b.take k = encS s := by
        rw [encS, hn, ← h2, List.take_add, hr.2.2, h1]
      refine ⟨hk, ht, by omega, by omega, by omega⟩
    · cases h
theorem readS_prefix {b s : List UInt8} {k : Nat} (h : readS b = some (s, k)) : b = encS s ++ b.drop k := by
  have := (readS_some h).2.1
  rw [← this, List.take_append_drop]
/-- n strings at the beginning of bytes, and the length of their encodings. -/
def readN : Nat → List UInt8 → Option (List (List UInt8) × Nat)
  | 0, _ => some ([], 0)
  | n + 1, b =>
    match readS b with
    | some (s, k) => match readN n (b.drop k) with
      | some (l, j) => some (s :: l, k + j)
      | none => none
    | none => none
/-- The list of at most so many strings at the beginning of bytes, and the length of its encoding. -/
def readL (most : Int) (b : List UInt8) : Option (List (List UInt8) × Nat) :=
  match readI b with
  | some (n, k) => if 0 ≤ n ∧ n ≤ most then match readN n.toNat (b.drop k) with
    | some (l, j) => some (l, k + j)
    | none => none
    else none
  | none => none
theorem readN_enc (l : List (List UInt8)) (h : ∀ s ∈ l, s.length ≤ 9223372036854775807) (r : List UInt8) : readN l.length (l.flatMap encS ++ r) = some (l, (l.flatMap encS).length) := by
  induction l with
  | nil => rfl
  | cons s l ih =>
    rw [List.length_cons, readN, List.flatMap_cons, List.append_assoc, readS_enc s (h s (by simp))]
    simp only [List.drop_left]
    rw [ih (fun t ht => h t (by simp [ht]))]
    simp
theorem readN_some : ∀ (n : Nat) {b : List UInt8} {l : List (List UInt8)} {k : Nat}, readN n b = some (l, k) → l.length = n ∧ k = (l.flatMap encS).length ∧ b.take k = l.flatMap encS ∧ k ≤ b.length
  | 0, b, l, k, h => by
    injection h with h; injection h with h1 h2
    subst h1 h2
    simp
  | n + 1, b, l, k, h => by
    rw [readN] at h
    cases hS : readS b with
    | none => rw [hS] at h; cases h
    | some p =>
      obtain ⟨s, j⟩ := p
      rw [hS] at h
      simp only at h
      cases hN : readN n (b.drop j) with
      | none => rw [hN] at h; cases h
      | some q =>
        obtain ⟨l', j'⟩ := q
        rw [hN] at h
        simp only at h
        injection h with h; injection h with h1 h2
        obtain ⟨a1, a2, a3, a4⟩ := readN_some n hN
        obtain ⟨b1, b2, b3, _, _⟩ := readS_some hS
        rw [List.length_drop] at a4
        subst h1 h2
        refine ⟨by simp [a1], by rw [List.flatMap_cons, List.length_append]; omega, ?_, by omega⟩
        rw [List.take_add, b2, a3, List.flatMap_cons]
theorem readL_enc (l : List (List UInt8)) (most : Int) (hm : (l.length : Int) ≤ most) (hl : l.length ≤ 9223372036854775807) (h : ∀ s ∈ l, s.length ≤ 9223372036854775807) (r : List UInt8) :
    readL most (encL l ++ r) = some (l, (encL l).length) := by
  unfold readL
  rw [encL, List.append_assoc, readI_enc _ (encI_inR _ hl)]
  simp only [Int.toNat_natCast, List.drop_left]
  rw [if_pos (by omega), readN_enc l h]
  simp
theorem readL_some {most : Int} {b : List UInt8} {l : List (List UInt8)} {k : Nat} (h : readL most b = some (l, k)) : k = (encL l).length ∧ b.take k = encL l ∧ k ≤ b.length ∧ (l.length : Int) ≤ most := by
  unfold readL at h
  cases hI : readI b with
  | none => rw [hI] at h; cases h
  | some p =>
    obtain ⟨n, j⟩ := p
    rw [hI] at h
    simp only at h
    split at h
    · rename_i hc
      cases hN : readN n.toNat (b.drop j) with
      | none => rw [hN] at h; cases h
      | some q =>
        obtain ⟨l', j'⟩ := q
        rw [hN] at h
        simp only at h
        injection h with h; injection h with h1 h2
        obtain ⟨a1, a2, a3, a4⟩ := readN_some _ hN
        have hr := readI_some hI
        have hl := readI_len hI
        rw [List.length_drop] at a4
        subst h1 h2
        have hn : ((l'.length : Nat) : Int) = n := by omega
        refine ⟨by rw [encL, List.length_append, hn, ← hr.2.1]; omega, ?_, by omega, by omega⟩
        rw [encL, hn, List.take_add, hr.2.2, a3]
    · cases h

end Go.Proofs.YtoghaehcmbonnaaGreatDoor
