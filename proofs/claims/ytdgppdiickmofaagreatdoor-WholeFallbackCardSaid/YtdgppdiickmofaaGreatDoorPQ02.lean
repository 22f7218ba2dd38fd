/- Locale tags: plain. -/
import Derived.Test.YtdgppdiickmofaaGreatDoorPQ01
import Derived.Lib.SplitLaws
import Derived.Lib.Replace
import Derived.Lib.Join
import Derived.Lib.SlicesCompact
import Derived.KernelRfl
namespace Go.Proofs.YtdgppdiickmofaaGreatDoor
set_option maxRecDepth 100000
def smB (b : UInt8) : Bool := decide (97 ≤ b.toNat) && decide (b.toNat ≤ 122)
def cpB (b : UInt8) : Bool := decide (65 ≤ b.toNat) && decide (b.toNat ≤ 90)
def dgB (b : UInt8) : Bool := decide (48 ≤ b.toNat) && decide (b.toNat ≤ 57)
def eiB (b : UInt8) : Bool := smB b || dgB b
def loB (b : UInt8) : UInt8 := if cpB b = true then b + 32 else b
def upB (b : UInt8) : UInt8 := if smB b = true then b - 32 else b
def langP (l : List UInt8) : Bool := (decide (l.length = 2) || decide (l.length = 3)) && l.all smB
def scrP (l : List UInt8) : Bool := decide (l.length = 4) && ((l.head?.map cpB).getD false && (l.drop 1).all smB)
def regP (l : List UInt8) : Bool := (decide (l.length = 2) && l.all cpB) || (decide (l.length = 3) && l.all dgB)
def varP (l : List UInt8) : Bool := l.all eiB && ((decide (5 ≤ l.length) && decide (l.length ≤ 8)) || (decide (l.length = 4) && (l.head?.map dgB).getD false))
/-- A locale tag. -/
structure Tg where
  lang : List UInt8
  scr : List UInt8
  reg : List UInt8
  vars : List (List UInt8)
/-- Strictly ascending. -/
def ascP : List (List UInt8) → Bool
  | [] => true
  | a :: r => (match r with | [] => true | b :: _ => Op.bytesLess a b) && ascP r
def validT (t : Tg) : Bool := t.vars.all varP && ascP t.vars && (langP t.lang && ((t.scr.isEmpty || scrP t.scr) && ((t.reg.isEmpty || regP t.reg) && decide (t.vars.length ≤ 4))))
def partsT (t : Tg) : List (List UInt8) := ([t.lang, t.scr, t.reg] ++ t.vars).filter fun l => !l.isEmpty
def joinT (t : Tg) : List UInt8 := Lib.join (partsT t) [45]
def textT (t : Tg) : List UInt8 := if validT t = true then joinT t else []
/-- The parts of a text. -/
def pcs (s : List UInt8) : List (List UInt8) := Lib.split (Lib.replaceAll s [95] [45]) [45]
/-- One part is read. -/
def partS (x : List UInt8) : Nat × Tg → Option (Nat × Tg)
  | (0, t) => if langP (x.map loB) = true then some (1, { t with lang := x.map loB }) else none
  | (1, t) => if x ≠ [] ∧ scrP ((x.take 1).map upB ++ (x.drop 1).map loB) = true then some (2, { t with scr := (x.take 1).map upB ++ (x.drop 1).map loB })
      else if regP (x.map upB) = true then some (3, { t with reg := x.map upB })
      else if varP (x.map loB) = true then some (3, { t with vars := t.vars ++ [x.map loB] }) else none
  | (2, t) => if regP (x.map upB) = true then some (3, { t with reg := x.map upB })
      else if varP (x.map loB) = true then some (3, { t with vars := t.vars ++ [x.map loB] }) else none
  | (_, t) => if varP (x.map loB) = true then some (3, { t with vars := t.vars ++ [x.map loB] }) else none
def foldS : List (List UInt8) → Nat × Tg → Option (Nat × Tg)
  | [], p => some p
  | x :: r, p => match partS x p with
    | none => none
    | some q => foldS r q
def tg0 : Tg := ⟨[], [], [], []⟩
def sortV (l : List (List UInt8)) : List (List UInt8) := l.mergeSort fun x y => decide (x ≤ y)
/-- What is read: a tag, or an error. -/
def parseT (s : List UInt8) : Tg × Int := match foldS (pcs s) (0, tg0) with
  | none => (tg0, 3)
  | some (_, t) =>
    if (Lib.compact (sortV t.vars)).length < t.vars.length then (tg0, 9)
    else if 4 < t.vars.length then (tg0, 6)
    else ({ t with vars := Lib.compact (sortV t.vars) }, 0)
/-- The parent. -/
def parentT (t : Tg) : Option Tg :=
  if t.vars ≠ [] then some { t with vars := t.vars.take (t.vars.length - 1) }
  else if t.reg ≠ [] then some { t with reg := [] }
  else if t.scr ≠ [] then some { t with scr := [] }
  else if t.lang ≠ [117, 110, 100] then some { t with lang := [117, 110, 100] }
  else none
theorem parse_enGB : parseT [101, 110, 95, 71, 66] = (⟨[101, 110], [], [71, 66], []⟩, 0) := by kernel_rfl
end Go.Proofs.YtdgppdiickmofaaGreatDoor
