/- Digests, in plain numbers: one step, its inverse; bytes of a number. -/
import Derived.Test.YtoghaehcmbonnaaGreatDoorBytes
import Derived.Laws.Bits64
namespace Go.Proofs.YtoghaehcmbonnaaGreatDoor
open Go.RowKit
set_option maxRecDepth 100000

/-- One step of a digest. -/
def dmix (k : Nat) : Nat := k ^^^ k / 4294967296
def dstep (h c : Nat) : Nat := dmix ((11507291218515648293 * (h ^^^ c)) % 18446744073709551616)
def dig (h : Nat) (l : List UInt8) : Nat := l.foldl (fun h c => dstep h c.toNat) h
/-- The eight bytes of a number, the lowest first. -/
def eightL (n : Nat) : List UInt8 := (List.range 8).map fun i => UInt8.ofNat (n / 256 ^ i % 256)
def sealN (h : Nat) (l : List UInt8) : Nat := dig (dig h l) (eightL l.length)

theorem xor_lt64 {a b : Nat} (ha : a < 18446744073709551616) (hb : b < 18446744073709551616) : a ^^^ b < 18446744073709551616 :=
  Nat.xor_lt_two_pow (n := 64) ha hb
theorem dmix_lt {k : Nat} (hk : k < 18446744073709551616) : dmix k < 18446744073709551616 := xor_lt64 hk (by omega)
theorem dstep_lt (h c : Nat) : dstep h c < 18446744073709551616 := dmix_lt (Nat.mod_lt _ (by omega))
theorem dig_lt {h : Nat} (hh : h < 18446744073709551616) (l : List UInt8) : dig h l < 18446744073709551616 := by
  unfold dig
  induction l generalizing h with
  | nil => exact hh
  | cons c t ih => exact ih (dstep_lt h c.toNat)
theorem dig_append (h : Nat) (a b : List UInt8) : dig h (a ++ b) = dig (dig h a) b := by unfold dig; rw [List.foldl_append]
theorem dig_one (h : Nat) (c : UInt8) : dig h [c] = dstep h c.toNat := by simp only [dig, List.foldl_cons, List.foldl_nil]
theorem dig_snoc (h : Nat) (a : List UInt8) (c : UInt8) : dig h (a ++ [c]) = dstep (dig h a) c.toNat := by rw [dig_append, dig_one]
theorem dig_take {h q : Nat} {l : List UInt8} (hq : q < l.length) : dig h (l.take (q + 1)) = dstep (dig h (l.take q)) (l[q]).toNat := by
  rw [List.take_succ_eq_append_getElem hq, dig_snoc]

theorem dmix_inj {k k' : Nat} (hk : k < 18446744073709551616) (hk' : k' < 18446744073709551616) (h : dmix k = dmix k') : k = k' := by
  have e : ∀ x : Nat, x < 18446744073709551616 → dmix x >>> 32 = x >>> 32 ∧ x = dmix x ^^^ (dmix x >>> 32) := by
    intro x hx
    have e1 : x / 4294967296 = x >>> 32 := by rw [Nat.shiftRight_eq_div_pow]
    have e2 : dmix x >>> 32 = x >>> 32 := by
      unfold dmix
      rw [e1, Nat.shiftRight_xor_distrib, ← Nat.shiftRight_add]
      have : x >>> (32 + 32) = 0 := by rw [Nat.shiftRight_eq_div_pow]; exact Nat.div_eq_of_lt (by omega)
      rw [this, Nat.xor_zero]
    refine ⟨e2, ?_⟩
    rw [e2]
    unfold dmix
    rw [e1, Nat.xor_assoc, Nat.xor_self, Nat.xor_zero]
  rw [(e k hk).2, (e k' hk').2, h]
theorem dmul_inj {a b : Nat} (ha : a < 18446744073709551616) (hb : b < 18446744073709551616) (h : (11507291218515648293 * a) % 18446744073709551616 = (11507291218515648293 * b) % 18446744073709551616) : a = b := by
  have e : ∀ x : Nat, x < 18446744073709551616 → (192419422752744621 * ((11507291218515648293 * x) % 18446744073709551616)) % 18446744073709551616 = x := by
    intro x hx
    rw [Nat.mul_mod_mod, ← Nat.mul_assoc]
    have e1 : 192419422752744621 * 11507291218515648293 = 1 + 18446744073709551616 * 120033450069394172 := by decide
    rw [e1, Nat.add_mul, Nat.one_mul, Nat.mul_assoc, Nat.add_mul_mod_self_left]
    exact Nat.mod_eq_of_lt hx
  rw [← e a ha, h, e b hb]
theorem dstep_inj1 {h h' c : Nat} (hh : h < 18446744073709551616) (hh' : h' < 18446744073709551616) (hc : c < 256) (e : dstep h c = dstep h' c) : h = h' := by
  have h1 := dmul_inj (xor_lt64 hh (by omega)) (xor_lt64 hh' (by omega)) (dmix_inj (Nat.mod_lt _ (by omega)) (Nat.mod_lt _ (by omega)) e)
  have h2 : (h ^^^ c) ^^^ c = (h' ^^^ c) ^^^ c := by rw [h1]
  rwa [Nat.xor_assoc, Nat.xor_assoc, Nat.xor_self, Nat.xor_zero, Nat.xor_zero] at h2
theorem dstep_inj2 {h c c' : Nat} (hh : h < 18446744073709551616) (hc : c < 256) (hc' : c' < 256) (e : dstep h c = dstep h c') : c = c' := by
  have h1 := dmul_inj (xor_lt64 hh (by omega)) (xor_lt64 hh (by omega)) (dmix_inj (Nat.mod_lt _ (by omega)) (Nat.mod_lt _ (by omega)) e)
  have h2 : h ^^^ (h ^^^ c) = h ^^^ (h ^^^ c') := by rw [h1]
  rwa [← Nat.xor_assoc, ← Nat.xor_assoc, Nat.xor_self, Nat.zero_xor, Nat.zero_xor] at h2
theorem dig_inj {h h' : Nat} (hh : h < 18446744073709551616) (hh' : h' < 18446744073709551616) (l : List UInt8) : dig h l = dig h' l ↔ h = h' := by
  constructor
  · intro e
    unfold dig at e
    induction l generalizing h h' with
    | nil => exact e
    | cons c t ih => exact dstep_inj1 hh hh' c.toNat_lt (ih (dstep_lt _ _) (dstep_lt _ _) e)
  · rintro rfl; rfl
/-- One byte changed. -/
theorem dig_set {h q : Nat} (hh : h < 18446744073709551616) {l : List UInt8} (hq : q < l.length) (c : UInt8) : dig h (l.set q c) = dig h l ↔ l[q] = c := by
  have e1 : l.set q c = l.take q ++ [c] ++ l.drop (q + 1) := by rw [List.set_eq_take_append_cons_drop, if_pos hq]; simp
  have e2 : l = l.take q ++ [l[q]] ++ l.drop (q + 1) := by
    rw [← List.take_succ_eq_append_getElem hq, List.take_append_drop]
  constructor
  · intro e
    rw [e1] at e
    conv at e => rhs; rw [e2]
    rw [dig_append, dig_append, dig_append, dig_append] at e
    have h1 := (dig_inj (dig_lt (dig_lt hh _) _) (dig_lt (dig_lt hh _) _) _).1 e
    rw [dig_one, dig_one] at h1
    have h2 := dstep_inj2 (dig_lt hh _) c.toNat_lt (l[q]).toNat_lt h1
    exact (UInt8.toNat_inj.1 h2).symm
  · intro e
    rw [e1, ← e, ← e2]
theorem seal_lt {h : Nat} (hh : h < 18446744073709551616) (l : List UInt8) : sealN h l < 18446744073709551616 := dig_lt (dig_lt hh _) _
theorem seal_inj {h h' : Nat} (hh : h < 18446744073709551616) (hh' : h' < 18446744073709551616) (l : List UInt8) : sealN h l = sealN h' l ↔ h = h' := by
  unfold sealN
  rw [dig_inj (dig_lt hh _) (dig_lt hh' _), dig_inj hh hh']
theorem seal_set {h q : Nat} (hh : h < 18446744073709551616) {l : List UInt8} (hq : q < l.length) (c : UInt8) : sealN h (l.set q c) = sealN h l ↔ l[q] = c := by
  unfold sealN
  rw [List.length_set, dig_inj (dig_lt hh _) (dig_lt hh _), dig_set hh hq]
theorem eightL_len (n : Nat) : (eightL n).length = 8 := by simp [eightL]
/-- A number below 2^64 is told by its eight bytes. -/
def ofEight : List UInt8 → Nat
  | [] => 0
  | b :: t => b.toNat + 256 * ofEight t
theorem ofEight_eight {n : Nat} (hn : n < 18446744073709551616) : ofEight (eightL n) = n := by
  have r8 : List.range 8 = [0, 1, 2, 3, 4, 5, 6, 7] := rfl
  simp only [eightL, r8, List.map_cons, List.map_nil, ofEight, UInt8.toNat_ofNat', Nat.reducePow]
  omega
theorem eightL_inj {a b : Nat} (ha : a < 18446744073709551616) (hb : b < 18446744073709551616) (h : eightL a = eightL b) : a = b := by
  rw [← ofEight_eight ha, h, ofEight_eight hb]
theorem eightL_at (n j : Nat) (hj : j < 8) : (eightL n)[j]'(by rw [eightL_len]; exact hj) = UInt8.ofNat (n / 256 ^ j % 256) := by simp [eightL]
theorem eightL_bv (n j : Nat) (hj : j < 8) : ((eightL n).map bv)[j]? = some (.int .u8 ((n / 256 ^ j % 256 : Nat) : Int)) := by
  rw [List.getElem?_map, List.getElem?_eq_getElem (by rw [eightL_len]; exact hj), eightL_at n j hj]
  simp only [Option.map_some, bv, UInt8.toNat_ofNat', Option.some.injEq, Value.int.injEq, true_and]
  omega
/-- The walk's spelling of a step. -/
theorem step_val {k x : Nat} (hk : k < 18446744073709551616) (hx : x < 256) :
    bits BinOp.xor IntKind.u64 (IntKind.u64.wrap (bits BinOp.xor IntKind.u64 (k : Int) (x : Int) * 11507291218515648293)) (IntKind.u64.wrap (bits BinOp.xor IntKind.u64 (k : Int) (x : Int) * 11507291218515648293) / 4294967296) = ((dstep k x : Nat) : Int) := by
  rw [bits_xor_u64_nat k x hk (by omega)]
  have e1 : ((k ^^^ x : Nat) : Int) * 11507291218515648293 = ((11507291218515648293 * (k ^^^ x) : Nat) : Int) := by omega
  have e2 : ∀ a : Nat, IntKind.u64.wrap (a : Int) = ((a % 18446744073709551616 : Nat) : Int) := fun a => by rw [IntKind.wrap_u64]; omega
  rw [e1, e2]
  unfold dstep dmix
  exact xorShift_u64 _ 4294967296 (Nat.mod_lt _ (by omega))
/-- The bytes of a block. -/
theorem SlB.of_blk {w : World} {g n : Nat} {t : TypeId} {cs : Array Value} {l : List UInt8} (h : Blk w g t cs) (hcs : cs.toList = l.map bv) (hn : n = l.length) (hb : l.length ≤ 140737488355328) : SlB w (some ⟨g, 0, none⟩) n l := by
  subst hn
  refine ⟨⟨by simp, fun _ => ⟨_, rfl, h.lt, fun j u hj => ?_⟩⟩, rfl, hb⟩
  rw [Addr.add_lit, Nat.zero_add, h.cell j, ← Array.getElem?_toList, hcs]
  exact hj
end Go.Proofs.YtoghaehcmbonnaaGreatDoor
