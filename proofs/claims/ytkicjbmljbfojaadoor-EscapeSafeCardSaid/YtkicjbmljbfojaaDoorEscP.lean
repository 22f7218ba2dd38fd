/- Escape sequences, plainly: what Escape, Unescape and End of layer 2 compute, on lists of bytes. -/
import Derived.Test.YtkicjbmljbfojaaDoorBytes
namespace Go.Proofs.YtkicjbmljbfojaaDoor
open Go.RowKit
set_option maxRecDepth 100000

/-- A byte of a number below 256. -/
def by_ (b : Nat) : UInt8 := UInt8.ofNat b
def hexC (d : Nat) : UInt8 := if d < 10 then by_ (48 + d) else by_ (87 + d)
def hex2 (b : Nat) : List UInt8 := [hexC (b / 16), hexC (b % 16)]
/-- A number below 1000 in decimal. -/
def decL (b : Nat) : List UInt8 := if b < 10 then [by_ (48 + b)] else if b < 100 then [by_ (48 + b / 10), by_ (48 + b % 10)] else [by_ (48 + b / 100), by_ (48 + b / 10 % 10), by_ (48 + b % 10)]
def ctl (b : Nat) : Bool := decide (b < 32 ∨ b = 127)
def entL (b : Nat) : List UInt8 :=
  if b = 38 then [38, 97, 109, 112, 59]
  else if b = 60 then [38, 108, 116, 59]
  else if b = 62 then [38, 103, 116, 59]
  else if b = 34 then [38, 113, 117, 111, 116, 59]
  else if ctl b then 38 :: 35 :: (decL b ++ [59])
  else [by_ b]
/-- The bytes that a backslash style writes with a backslash ahead. -/
def ownB (n b : Nat) (first : Bool) : Bool :=
  decide ((n = 1 ∧ (b = 61 ∨ b = 58 ∨ b = 35 ∨ b = 33)) ∨ (n = 2 ∧ b = 34) ∨ (n = 3 ∧ (b = 34 ∨ b = 123 ∨ b = 125)) ∨ (n = 1 ∧ first = true ∧ b = 32))
def bsL (n b : Nat) (first : Bool) : List UInt8 :=
  if b = 92 then [92, 92] else if b = 10 then [92, 110] else if b = 13 then [92, 114] else if b = 9 then [92, 116]
  else if ownB n b first then [92, by_ b]
  else if ctl b then (if n = 3 then 92 :: 117 :: 48 :: 48 :: hex2 b else 92 :: 120 :: hex2 b)
  else [by_ b]
/-- The escaped form of one byte. -/
def oneL (n b : Nat) (first : Bool) : List UInt8 := if n = 4 then entL b else bsL n b first
def escGo (n : Nat) : Bool → List UInt8 → List UInt8
  | _, [] => []
  | f, c :: t => oneL n c.toNat f ++ escGo n false t
/-- The escaped form. -/
def escL (n : Nat) (l : List UInt8) : List UInt8 := escGo n true l
def styleZ (n : Int) : Bool := decide (1 ≤ n ∧ n ≤ 4)
/-- What Escape returns. -/
def escZ (n : Int) (l : List UInt8) : List UInt8 := if styleZ n then escL n.toNat l else []

theorem escGo_snoc (n : Nat) (f : Bool) (l : List UInt8) (c : UInt8) : escGo n f (l ++ [c]) = escGo n f l ++ oneL n c.toNat (f && l.isEmpty) := by
  induction l generalizing f with
  | nil => simp [escGo]
  | cons x t ih =>
    rw [List.cons_append, escGo, escGo, ih, List.append_assoc]
    simp
theorem escL_take (n : Nat) (l : List UInt8) (k : Nat) (h : k < l.length) : escL n (l.take (k + 1)) = escL n (l.take k) ++ oneL n (l[k]).toNat (decide (k = 0)) := by
  unfold escL
  rw [List.take_succ_eq_append_getElem h, escGo_snoc]
  congr 2
  cases k with
  | zero => simp
  | succ k =>
    cases l with
    | nil => simp at h
    | cons x t => simp
theorem escGo_app (n : Nat) (f : Bool) (l r : List UInt8) : escGo n f (l ++ r) = escGo n f l ++ escGo n (f && l.isEmpty) r := by
  induction l generalizing f with
  | nil => simp [escGo]
  | cons x t ih => rw [List.cons_append, escGo, escGo, ih, List.append_assoc]; simp

/-- The value of a digit in a base. -/
def digV (b base : Nat) : Option Nat :=
  let v := if 48 ≤ b ∧ b ≤ 57 then b - 48 else if 97 ≤ b ∧ b ≤ 102 then b - 87 else if 65 ≤ b ∧ b ≤ 70 then b - 55 else 99
  if v < base then some v else none
def numGo (base : Nat) : Nat → List UInt8 → Option Nat
  | n, [] => some n
  | n, c :: t => match digV c.toNat base with
    | none => none
    | some d => numGo base (n * base + d) t
/-- The number with digits in a base. -/
def numOf (base : Nat) (l : List UInt8) : Option Nat := if l.isEmpty then none else numGo base 0 l
def isPt (n : Nat) : Bool := decide (n ≤ 1114111 ∧ (n < 55296 ∨ 57343 < n))
/-- The encoding of a code point. -/
def encOne (n : Nat) : List UInt8 :=
  if n < 128 then [by_ n]
  else if n < 2048 then [by_ (192 + n / 64), by_ (128 + n % 64)]
  else if n < 65536 then [by_ (224 + n / 4096), by_ (128 + n / 64 % 64), by_ (128 + n % 64)]
  else [by_ (240 + n / 262144), by_ (128 + n / 4096 % 64), by_ (128 + n / 64 % 64), by_ (128 + n % 64)]
def plainB (c : UInt8) : Bool := c == 92 || c == 34 || c == 61 || c == 58 || c == 35 || c == 33 || c == 123 || c == 125 || c == 32
def readX (t : List UInt8) : Option (List UInt8 × Nat) := match t with
  | a :: b :: _ => match numOf 16 [a, b] with
    | some n => if n ≤ 127 then some ([by_ n], 4) else none
    | none => none
  | _ => none
def readU (t : List UInt8) : Option (List UInt8 × Nat) := match t with
  | a :: b :: c :: d :: _ => match numOf 16 [a, b, c, d] with
    | some n => if isPt n then some (encOne n, 6) else none
    | none => none
  | _ => none
/-- A sequence at the beginning, which is a backslash. -/
def readB (l : List UInt8) : Option (List UInt8 × Nat) := match l with
  | _ :: c :: t =>
    if c = 110 then some ([10], 2) else if c = 114 then some ([13], 2) else if c = 116 then some ([9], 2)
    else if plainB c then some ([c], 2)
    else if c = 120 then readX t
    else if c = 117 then readU t
    else none
  | _ => none
def nameR (r : List UInt8) : Option Nat := match r with
  | 120 :: x => if x.length ≤ 6 then numOf 16 x else none
  | _ => if r.length ≤ 7 then numOf 10 r else none
/-- What the name of an entity stands for. -/
def nameE (nm : List UInt8) : Option (List UInt8) :=
  if nm = [97, 109, 112] then some [38] else if nm = [108, 116] then some [60] else if nm = [103, 116] then some [62]
  else if nm = [113, 117, 111, 116] then some [34] else if nm = [97, 112, 111, 115] then some [39]
  else match nm with
    | 35 :: r => match nameR r with
      | some n => if isPt n then some (encOne n) else none
      | none => none
    | _ => none
def nmOf (l : List UInt8) : List UInt8 := (l.drop 1).takeWhile (· != 59)
/-- A sequence at the beginning, which is an ampersand. -/
def readE (l : List UInt8) : Option (List UInt8 × Nat) :=
  if (nmOf l).length + 1 < l.length then (match nameE (nmOf l) with
    | some x => some (x, (nmOf l).length + 2)
    | none => none) else none
def forb (n : Nat) (c : UInt8) : Bool := decide ((n ≠ 4 ∧ c = 10) ∨ ((n = 2 ∨ n = 3) ∧ c = 34) ∨ (n = 4 ∧ (c = 60 ∨ c = 34)))
/-- What is read at the beginning of a text that is not empty. -/
def stepU (n : Nat) (l : List UInt8) : Option (List UInt8 × Nat) := match l with
  | [] => none
  | c :: _ =>
    if n ≠ 4 ∧ c = 92 then readB l
    else if n = 4 ∧ c = 38 then readE l
    else if forb n c then none
    else some ([c], 1)
/-- What Unescape returns: the text, the offset, the error. -/
def unGo (n : Nat) : Nat → List UInt8 → Nat → List UInt8 → List UInt8 × Nat × Int
  | 0, acc, _, _ => (acc, 0, 0)
  | fu + 1, acc, p, l => match l with
    | [] => (acc, 0, 0)
    | c :: t => match stepU n (c :: t) with
      | none => ([], p, 3)
      | some (x, k) => unGo n fu (acc ++ x) (p + k) ((c :: t).drop k)
def unL (n : Nat) (l : List UInt8) : List UInt8 × Nat × Int := unGo n l.length [] 0 l
def unZ (n : Int) (l : List UInt8) : List UInt8 × Nat × Int := if styleZ n then unL n.toNat l else ([], 0, 1)

/-- The first delimiter. -/
def endGo (n : Nat) (d : UInt8) : Bool → Nat → List UInt8 → Int
  | _, _, [] => -1
  | true, i, _ :: t => endGo n d false (i + 1) t
  | false, i, c :: t => if c = d then i else if n ≠ 4 ∧ c = 92 then endGo n d true (i + 1) t else endGo n d false (i + 1) t
def endZ (n : Int) (l : List UInt8) (d : UInt8) : Int := if styleZ n then endGo n.toNat d false 0 l else -1

theorem numGo_bound (base : Nat) (hb : 0 < base) : ∀ (l : List UInt8) (n v : Nat), numGo base n l = some v → v < (n + 1) * base ^ l.length
  | [], n, v, h => by
    simp only [numGo, Option.some.injEq] at h
    simp; omega
  | c :: t, n, v, h => by
    simp only [numGo] at h
    cases hd : digV c.toNat base with
    | none => rw [hd] at h; cases h
    | some d =>
      rw [hd] at h
      have hdb : d < base := by
        unfold digV at hd
        generalize (if 48 ≤ c.toNat ∧ c.toNat ≤ 57 then c.toNat - 48 else if 97 ≤ c.toNat ∧ c.toNat ≤ 102 then c.toNat - 87 else if 65 ≤ c.toNat ∧ c.toNat ≤ 70 then c.toNat - 55 else 99) = v0 at hd
        by_cases hlt : v0 < base
        · simp only [if_pos hlt] at hd
          injection hd with hd
          omega
        · simp only [if_neg hlt] at hd
          cases hd
      have h1 := numGo_bound base hb t _ v h
      have h2 : n * base + d + 1 ≤ (n + 1) * base := by rw [Nat.add_mul]; omega
      calc v < (n * base + d + 1) * base ^ t.length := h1
        _ ≤ (n + 1) * base * base ^ t.length := Nat.mul_le_mul_right _ h2
        _ = (n + 1) * base ^ (c :: t).length := by rw [List.length_cons, Nat.pow_succ, Nat.mul_assoc, Nat.mul_comm base]
theorem numOf_bound {base : Nat} (hb : 0 < base) {l : List UInt8} {v : Nat} (h : numOf base l = some v) : v < base ^ l.length := by
  unfold numOf at h
  split at h
  · cases h
  · have := numGo_bound base hb l 0 v h
    simpa using this
theorem stepU_pos {n : Nat} {l x : List UInt8} {k : Nat} (h : stepU n l = some (x, k)) : 1 ≤ k := by
  cases l with
  | nil => cases h
  | cons c t =>
    simp only [stepU] at h
    split at h
    · unfold readB readX readU at h
      repeat' split at h
      all_goals first
        | (cases h; done)
        | (injection h with h; injection h with _ h; omega)
    · split at h
      · unfold readE at h
        repeat' split at h
        all_goals first
          | (cases h; done)
          | (injection h with h; injection h with _ h; omega)
      · split at h
        · cases h
        · injection h with h; injection h with _ h; omega

/-- A property of all bytes, styles and places. -/
theorem all_bytes {p : Nat → Nat → Bool → Bool} (h : ((List.range 5).all fun n => (List.range 256).all fun b => p n b true && p n b false) = true) (n : Nat) (hn : n ≤ 4) (c : UInt8) (f : Bool) : p n c.toNat f = true := by
  have h1 := List.all_eq_true.1 h n (List.mem_range.2 (by omega))
  have h2 := List.all_eq_true.1 h1 c.toNat (List.mem_range.2 (by have := c.toNat_lt; omega))
  rw [Bool.and_eq_true] at h2
  cases f
  · exact h2.2
  · exact h2.1
theorem all_byte {p : Nat → Bool} (h : ((List.range 256).all p) = true) (c : UInt8) : p c.toNat = true :=
  List.all_eq_true.1 h c.toNat (List.mem_range.2 (by have := c.toNat_lt; omega))

end Go.Proofs.YtkicjbmljbfojaaDoor
