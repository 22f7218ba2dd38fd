/- The map of locks: keys and elements. -/
import Derived.Test.YthmeobjomidkoaaDoorNames
import Derived.Maps.Own
import Derived.Maps.OwnSet
import Derived.Maps.Views
import Derived.DeepKeys4
import Derived.OpenShut
namespace Go.Proofs.YthmeobjomidkoaaDoor
open Go.RowKit Go.Maps
set_option maxRecDepth 100000

theorem laidM : laidOutB Tryd.prog = true := by kernel_rfl
theorem rowM : 61 < Tryd.prog.types.size := of_decide_eq_true (by kernel_rfl)
theorem keyedM : Keyed Tryd.prog 61 := Keyed.of_law (deep_law_laid laidM (m := 8) (by omega) rowM (by kernel_rfl) (by kernel_rfl))
/-- A key. -/
def keyV (a b : ByteArray) : Value := .agg #[.string a, .string b]
def keyL (a b : ByteArray) : Lit := .string (keyBytes [.string a.data.toList, .string b.data.toList])
theorem key_some (a b : ByteArray) (ha : a.size ≤ maxLen) (hb : b.size ≤ maxLen) : keyOf Tryd.prog 61 (keyV a b) = some (keyL a b) := by
  obtain ⟨n, hn⟩ : ∃ n, Tryd.prog.types.size = n + 1 := ⟨Tryd.prog.types.size - 1, by have := rowM; omega⟩
  have h1 : Tryd.prog.keyType 61 = true := by kernel_rfl
  have h2 : Tryd.prog.cellsOf 61 = 2 := by kernel_rfl
  have h3 : Tryd.prog.cellsOf 9 = 1 := by kernel_rfl
  have h4 : (keyV a b).formed Tryd.prog 61 = true := by
    simp [keyV, Value.formed, Tryd.underlying61, h2]
  have hs : ∀ s : ByteArray, s.size ≤ maxLen → Tryd.prog.keyLits (n + 1) 9 [.string s] = some [.string s.data.toList] := fun s h => by
    simp [Program.keyLits, Tryd.underlying9, h]
  unfold keyOf
  rw [Tryd.underlying61]
  simp only [h1, h4, Bool.and_self, if_true, hn]
  rw [Program.keyLits]
  case heq => exact Tryd.underlying61
  simp only [h2, h3, keyV, Value.cells]
  have r2 : List.range 2 = [0, 1] := rfl
  simp [r2, hs a ha, hs b hb, keyL]
theorem key_inj {a b a' b' : ByteArray} (ha : a.size ≤ maxLen) (hb : b.size ≤ maxLen) (ha' : a'.size ≤ maxLen) (hb' : b'.size ≤ maxLen) (h : keyL a b = keyL a' b') : a = a' ∧ b = b' := by
  have h1 := keyedM.inj (key_some a b ha hb) ((key_some a' b' ha' hb').trans (by rw [h]))
  simp only [keyV, Value.agg.injEq] at h1
  simpa using h1

/-- A lock. -/
structure Lk where
  name : ByteArray
  id : ByteArray
  who : ByteArray
  til : Int
def lk0 : Lk := ⟨⟨#[]⟩, ⟨#[]⟩, ⟨#[]⟩, 0⟩
def lkV (x : Lk) : Value := .agg #[.string x.name, .string x.id, .string x.who, .int .i64 x.til]
def lkD (x : Lk) : DataW Unit := .agg [.lit (.string x.name.data.toList), .lit (.string x.id.data.toList), .lit (.string x.who.data.toList), .lit (.int .i64 x.til)]
def lkR : Value → Option (DataW Unit × List MemPlace)
  | .agg ⟨[.string a, .string b, .string c, .int .i64 u]⟩ => some (lkD ⟨a, b, c, u⟩, [])
  | _ => none
theorem lkR_mk (x : Lk) : lkR (lkV x) = some (lkD x, []) := rfl
theorem lkR_inv {v : Value} {z : DataW Unit × List MemPlace} (h : lkR v = some z) : ∃ x, v = lkV x ∧ z = (lkD x, []) := by
  unfold lkR at h
  split at h
  · rename_i a b c u
    exact ⟨⟨a, b, c, u⟩, rfl, by injection h with h; exact h.symm⟩
  · cases h
theorem bytes_inj {a b : ByteArray} (h : a.data.toList = b.data.toList) : a = b := bys_inj h
theorem lkD_inj {x y : Lk} (h : lkD x = lkD y) : x = y := by
  obtain ⟨a, b, c, u⟩ := x
  obtain ⟨a', b', c', u'⟩ := y
  simp only [lkD, DataW.agg.injEq, List.cons.injEq, DataW.lit.injEq, Lit.string.injEq, Lit.int.injEq, and_true, true_and] at h
  obtain ⟨h1, h2, h3, h4⟩ := h
  rw [bytes_inj h1, bytes_inj h2, bytes_inj h3, h4]
theorem zero_lk (w : World) : (zeroValue 35).run Tryd.prog w = .ok (lkV lk0) w := by kernel_rfl

/-- The locks by their keys. -/
abbrev LF := ByteArray → ByteArray → Option Lk
open Classical in
noncomputable def upd (F : LF) (a b : ByteArray) (v : Option Lk) : LF := fun a' b' => if a' = a ∧ b' = b then v else F a' b'
/-- Block bm is a map of at most n locks, F. -/
def LM (w : World) (bm n : Nat) (F : LF) : Prop :=
  ∃ D : DataW Unit, w.ownsMap Tryd.prog 61 lkR bm n D ∧ ∀ a b, a.size ≤ maxLen → b.size ≤ maxLen → Maps.has D (keyL a b) = (F a b).isSome ∧ D.atKey (keyL a b) (lkD lk0) = lkD ((F a b).getD lk0)
section
variable {w w' : World} {bm n : Nat} {F : LF}
theorem LM.lt (h : LM w bm n F) : bm < w.heap.size := by obtain ⟨D, ho, _⟩ := h; exact ho.lt
theorem LM.kept {r : Option Nat} (h : LM w bm n F) (hg : w.grownBy w' r) (hr : some bm ≠ r) : LM w' bm n F := by
  obtain ⟨D, ho, hv⟩ := h
  exact ⟨D, ho.kept hg hr, hv⟩
theorem LM.ext (h : LM w bm n F) (hE : Ext w w') : LM w' bm n F := h.kept (hE.grownBy none) (by simp)
theorem LM.made (w : World) : LM (w.alloc (.map #[] 0)) w.heap.size 0 fun _ _ => none :=
  ⟨.map [], World.ownsMap_made _ _ _ _, fun _ _ _ _ => ⟨rfl, rfl⟩⟩
theorem LM.look (h : LM w bm n F) (a b : ByteArray) (ha : a.size ≤ maxLen) (hb : b.size ≤ maxLen) :
    (Instr.lookup 58 (.map (some bm)) (keyV a b) true).run Tryd.prog w = .ok (.tuple #[lkV ((F a b).getD lk0), .bool (F a b).isSome]) w := by
  obtain ⟨D, ho, hv⟩ := h
  obtain ⟨v, ps, hrun, hR⟩ := ho.look_ok keyedM Tryd.underlying58 (zero_lk w) (lkR_mk lk0) (key_some a b ha hb)
  obtain ⟨h1, h2⟩ := hv a b ha hb
  rw [h2] at hR
  obtain ⟨x, rfl, hx⟩ := lkR_inv hR
  simp only [Prod.mk.injEq] at hx
  rw [lkD_inj hx.1, ← h1]
  exact hrun
theorem LM.store (h : LM w bm n F) (hn : n < maxLen) (a b : ByteArray) (ha : a.size ≤ maxLen) (hb : b.size ≤ maxLen) (x : Lk) :
    ∃ w', (Instr.mapUpdate 58 (.map (some bm)) (keyV a b) (lkV x)).run Tryd.prog w = .ok () w' ∧ LM w' bm (n + 1) (upd F a b (some x)) ∧ w.grownBy w' (some bm) := by
  obtain ⟨D, ho, hv⟩ := h
  obtain ⟨w', hrun, ho', hg⟩ := ho.update keyedM Tryd.underlying58 hn (key_some a b ha hb) (lkR_mk x)
  refine ⟨w', hrun, ⟨_, ho', fun a' b' ha' hb' => ?_⟩, hg⟩
  unfold upd
  by_cases hk : a' = a ∧ b' = b
  · obtain ⟨rfl, rfl⟩ := hk
    rw [if_pos ⟨rfl, rfl⟩]
    exact ⟨has_put_same ho.isMap (keyedM.key (key_some a' b' ha hb)) _, atKey_put_same ho.isMap (keyedM.key (key_some a' b' ha hb)) _ _⟩
  · rw [if_neg hk]
    have hne : keyL a' b' ≠ keyL a b := fun e => hk (key_inj ha' hb' ha hb e)
    rw [has_put_other hne, atKey_put_other hne]
    exact hv a' b' ha' hb'
theorem LM.drop (h : LM w bm n F) (a b : ByteArray) (ha : a.size ≤ maxLen) (hb : b.size ≤ maxLen) (ty : TypeId) :
    ∃ w', (Builtin.delete_ #[58, 61] ty #[.map (some bm), keyV a b]).run Tryd.prog w = .ok (.tuple #[]) w' ∧ LM w' bm n (upd F a b none) ∧ w.grownBy w' (some bm) := by
  obtain ⟨D, ho, hv⟩ := h
  obtain ⟨w', hrun, ho', hg⟩ := ho.drop keyedM Tryd.underlying58 (key_some a b ha hb) ty
  refine ⟨w', hrun, ⟨_, ho', fun a' b' ha' hb' => ?_⟩, hg.grown⟩
  unfold upd
  by_cases hk : a' = a ∧ b' = b
  · obtain ⟨rfl, rfl⟩ := hk
    rw [if_pos ⟨rfl, rfl⟩]
    exact ⟨has_del_same, atKey_del_same _⟩
  · rw [if_neg hk]
    have hne : keyL a' b' ≠ keyL a b := fun e => hk (key_inj ha' hb' ha hb e)
    rw [has_del_other hne, atKey_del_other hne]
    exact hv a' b' ha' hb'
end

/-- Block g is a table of locks, its map in block bm. -/
structure Lks (w : World) (g bm n : Nat) (F : LF) : Prop where
  blk : Blk w g 60 #[.map (some bm)]
  map : LM w bm n F
section
variable {w w' : World} {g bm n : Nat} {F : LF}
theorem Lks.ne_ (h : Lks w g bm n F) : g ≠ bm := by
  intro e
  obtain ⟨D, ⟨es, clock, hb, _⟩, _⟩ := h.map
  have h1 := h.blk
  unfold Blk at h1
  rw [e, hb] at h1
  cases h1
theorem Lks.c0 (h : Lks w g bm n F) : w.cell? ⟨g, 0, none⟩ = some (.map (some bm)) := h.blk.cell 0
theorem Lks.ext (h : Lks w g bm n F) (hE : Ext w w') : Lks w' g bm n F := ⟨h.blk.below hE h.blk.lt, h.map.ext hE⟩
theorem Lks.turn (h : Lks w g bm n F) {n' : Nat} {F' : LF} (hm : LM w' bm n' F') (hg : w.grownBy w' (some bm)) : Lks w' g bm n' F' :=
  ⟨h.blk.grown hg (fun e => h.ne_ (by injection e)), hm⟩
end

end Go.Proofs.YthmeobjomidkoaaDoor
