/- Slices in memory with their elements; what lies apart; frames by sets of blocks. -/
import Derived.Test.YtdgppdiickmofaaGreatDoorPQ08
import Derived.Test.YtdgppdiickmofaaGreatDoorPQ04
namespace Go.Proofs.YtdgppdiickmofaaGreatDoor
open Go.RowKit
set_option maxRecDepth 100000
/-- A slice of elements: what it holds, how long it is at most, and that the elements are good. -/
structure HW {α : Type} (cs : α → List Value) (k by_ : Nat) (good : α → Prop) (w : World) (h : SlH) (l : List α) : Prop where
  sl : SlC cs k w h.A h.m l
  cap : h.m ≤ h.c
  bd : h.m * by_ ≤ 140737488351232
  good : ∀ x ∈ l, good x
section
variable {w w' : World} {h : SlH}
theorem HW.ext {α : Type} {cs : α → List Value} {k by_ : Nat} {good : α → Prop} {l : List α} (hh : HW cs k by_ good w h l) (hE : Ext w w') : HW cs k by_ good w' h l := ⟨hh.sl.ext hE, hh.cap, hh.bd, hh.good⟩
theorem HW.nil_ {α : Type} {cs : α → List Value} {k by_ : Nat} {good : α → Prop} (h1 : ∀ x, (cs x).length = k) : HW cs k by_ good w ⟨none, 0, 0⟩ [] := ⟨SlC.nil_ h1, Nat.le_refl _, by simp, by simp⟩
theorem HW.turn {α : Type} {cs : α → List Value} {k by_ : Nat} {good good' : α → Prop} {l : List α} (hh : HW cs k by_ good w h l) (hg : ∀ x ∈ l, good x → good' x) : HW cs k by_ good' w h l := ⟨hh.sl, hh.cap, hh.bd, fun x hx => hg x hx (hh.good x hx)⟩
/-- The slice does not lie in row r. -/
def Apart (r : Option Nat) (h : SlH) : Prop := h.m = 0 ∨ ob h.A = none ∨ ob h.A ≠ r
theorem SlC.kept' {α : Type} {cs : α → List Value} {k : Nat} {A : Option Addr} {m : Nat} {l : List α} {r : Option Nat} (h : SlC cs k w A m l) (hg : w.grownBy w' r) (h2 : m = 0 ∨ ob A = none ∨ ob A ≠ r) : SlC cs k w' A m l := by
  rcases h2 with h2 | h2
  · subst h2
    have hl : l = [] := List.eq_nil_of_length_eq_zero h.len.symm
    subst hl
    exact ⟨⟨by simp, fun hn => absurd hn (by omega)⟩, h.one, rfl, by omega⟩
  · exact h.kept hg h2
theorem HW.kept {α : Type} {cs : α → List Value} {k by_ : Nat} {good : α → Prop} {l : List α} {r : Option Nat} (hh : HW cs k by_ good w h l) (hg : w.grownBy w' r) (ha : Apart r h) : HW cs k by_ good w' h l := ⟨hh.sl.kept' hg ha, hh.cap, hh.bd, hh.good⟩
theorem HW.lt {α : Type} {cs : α → List Value} {k by_ : Nat} {good : α → Prop} {l : List α} (hh : HW cs k by_ good w h l) {r : Option Nat} (hr : ∀ g, r = some g → w.heap.size ≤ g) : Apart r h := by
  rcases Nat.eq_zero_or_pos h.m with h0 | h0
  · exact .inl h0
  · obtain ⟨ad, hA, hb, _⟩ := hh.sl.rd.2 h0
    refine .inr (.inr fun e => ?_)
    rw [hA] at e
    have := hr ad.block (by rw [← e]; rfl)
    omega
end
theorem lt_heap {w : World} {g : Nat} {o : Obj} (h : w.heap[g]? = some o) : g < w.heap.size := (Array.getElem?_eq_some_iff.1 h).1
/-- All blocks but those of S are as they were. -/
structure KpS (S : Nat → Prop) (w w' : World) : Prop where
  below : Below 0 w w'
  block : ∀ k, k < w.heap.size → ¬ S k → w'.heap[k]? = w.heap[k]?
section
variable {S S' : Nat → Prop} {w w' w1 w2 : World}
theorem KpS.refl (S : Nat → Prop) (w : World) : KpS S w w := ⟨Below.refl _ _, fun _ _ _ => rfl⟩
theorem KpS.of_ext (S : Nat → Prop) (h : Ext w w') : KpS S w w' := ⟨Below.mono h (Nat.zero_le _), fun k hk _ => h.block k hk⟩
theorem KpS.size (h : KpS S w w') : w.heap.size ≤ w'.heap.size := h.below.size
theorem KpS.trans (h : KpS S w w1) (k : KpS S' w1 w2) (hS : ∀ j, j < w.heap.size → S' j → S j) : KpS S w w2 :=
  ⟨h.below.trans k.below, fun j hj hn => (k.block j (Nat.lt_of_lt_of_le hj h.size) (fun e => hn (hS j hj e))).trans (h.block j hj hn)⟩
theorem KpS.ext (h : KpS S w w1) (k : Ext w1 w2) : KpS S w w2 := h.trans (KpS.of_ext (fun _ => False) k) (fun _ _ e => e.elim)
theorem KpS.mono (h : KpS S w w') (hS : ∀ j, j < w.heap.size → S j → S' j) : KpS S' w w' := ⟨h.below, fun j hj hn => h.block j hj fun e => hn (hS j hj e)⟩
theorem KpS.toBelow {B : Nat} (h : KpS S w w') (hB : B ≤ w.heap.size) (hS : ∀ j, S j → B ≤ j) : Below B w w' :=
  ⟨h.below.os, h.below.tape, h.below.output, h.below.size, fun k hk => h.block k (by omega) fun e => by have := hS k e; omega⟩
theorem KpS.cell (h : KpS S w w') {p : Addr} {v : Value} (hp : ¬ S p.block) (hv : w.cell? p = some v) : w'.cell? p = some v := by
  have hlt : p.block < w.heap.size := World.block_lt_of_cell? w _ hv
  rw [← hv]
  exact World.cell?_of_block (h.block p.block hlt hp)
theorem KpS.grown {r : Option Nat} (h : w.grownBy w' r) : KpS (fun k => r = some k) w w' := ⟨⟨h.os, h.tape, h.output, h.size, fun _ hk => absurd hk (Nat.not_lt_zero _)⟩, fun k hk hn => h.block k hk fun e => hn e.symm⟩
theorem KpS.setCell (w : World) (b i : Nat) (v : Value) : KpS (fun k => k = b) w (w.setCell ⟨b, i, none⟩ v) :=
  ⟨(Below.refl 0 w).setCell (p := ⟨b, i, none⟩) (Nat.zero_le _) _, fun k _ hn => Below.heap_setCell w _ v k hn⟩
theorem KpS.blk {g : Nat} {t : TypeId} {cs : Array Value} (h : KpS S w w') (hb : Blk w g t cs) (hg : ¬ S g) : Blk w' g t cs := (h.block g hb.lt hg).trans hb
theorem KpS.slc {α : Type} {cs : α → List Value} {k : Nat} {A : Option Addr} {m : Nat} {l : List α} (hk : KpS S w w') (hs : SlC cs k w A m l) (hA : m = 0 ∨ ∀ g, ob A = some g → ¬ S g) : SlC cs k w' A m l := by
  rcases hA with rfl | hA
  · have hl : l = [] := List.eq_nil_of_length_eq_zero hs.len.symm
    subst hl
    exact ⟨⟨by simp, fun hn => absurd hn (by omega)⟩, hs.one, rfl, by omega⟩
  · refine ⟨⟨hs.rd.1, fun hn => ?_⟩, hs.one, hs.len, hs.le⟩
    obtain ⟨ad, e, hb, hc⟩ := hs.rd.2 hn
    refine ⟨ad, e, Nat.lt_of_lt_of_le hb hk.size, fun j u hu => hk.cell ?_ (hc j u hu)⟩
    rw [block_of_add]
    exact hA _ (by rw [e]; rfl)
theorem KpS.osc {α : Type} {cs : α → List Value} {e : TypeId} {k : Nat} {base : Nat} {A : Option Addr} {m c : Nat} {l : List α} (hk : KpS S w w') (h : OsC cs e k w base A m c l) (hA : ∀ g, ob A = some g → ¬ S g) : OsC cs e k w' base A m c l := by
  cases ha : ob A with
  | none =>
    refine ⟨⟨h.own.1, ?_⟩, h.one, h.cell, h.len, h.le⟩
    rcases h.own.2 with hv | ⟨g', cap, cur, hv, _⟩
    · exact .inl hv
    · injection hv with hv
      rw [hv] at ha
      cases ha
  | some g =>
    refine ⟨⟨h.own.1, ?_⟩, h.one, h.cell, h.len, h.le⟩
    rcases h.own.2 with hv | ⟨g', cap, cur, hv, hbg, hb, r⟩
    · exact .inl hv
    · have hv2 := hv
      injection hv2 with hv2
      exact .inr ⟨g', cap, cur, hv, hbg, (hk.block g' (lt_heap hb) (hA g' (by rw [hv2]; rfl))).trans hb, r⟩
/-- A slice does not lie in S. -/
def ApS (S : Nat → Prop) (h : SlH) : Prop := h.m = 0 ∨ ∀ g, ob h.A = some g → ¬ S g
theorem ApS.of_apart {h : SlH} (ha : ∀ g, S g → Apart (some g) h) : ApS S h := by
  rcases Nat.eq_zero_or_pos h.m with h0 | h0
  · exact .inl h0
  · refine .inr fun g hg hS => ?_
    rcases ha g hS with h1 | h1 | h1
    · omega
    · rw [h1] at hg; cases hg
    · exact h1 hg
theorem ApS.of_ge {h : SlH} {B : Nat} (hn : ∀ k, ob h.A = some k → B ≤ k) (hS : ∀ g, S g → g < B) : ApS S h := .inr fun g hg hs => by
  have h1 := hn g hg
  have h2 := hS g hs
  omega
theorem ApS.mono {h : SlH} (ha : ApS S h) (hS : ∀ g, (∀ m, h.m = m + 1 → ob h.A = some g) → S' g → S g) : ApS S' h := by
  rcases ha with ha | ha
  · exact .inl ha
  · refine .inr fun g hg hs => ha g hg (hS g (fun _ _ => hg) hs)
theorem HW.kp {α : Type} {cs : α → List Value} {k by_ : Nat} {good : α → Prop} {h : SlH} {l : List α} (hk : KpS S w w') (hh : HW cs k by_ good w h l) (ha : ApS S h) : HW cs k by_ good w' h l := ⟨hk.slc hh.sl ha, hh.cap, hh.bd, hh.good⟩
theorem ApS.lt {α : Type} {cs : α → List Value} {k by_ : Nat} {good : α → Prop} {h : SlH} {l : List α} (hh : HW cs k by_ good w h l) (ha : ApS S h) (hS : ∀ g, S' g → S g ∨ w.heap.size ≤ g) : ApS S' h := by
  rcases Nat.eq_zero_or_pos h.m with h0 | h0
  · exact .inl h0
  · rcases ha with ha | ha
    · exact .inl ha
    · refine .inr fun g hg hs => ?_
      rcases hS g hs with h1 | h1
      · exact ha g hg h1
      · obtain ⟨ad, hA, hb, _⟩ := hh.sl.rd.2 h0
        rw [hA] at hg
        injection hg with hg
        omega
end
section
variable {H : Type} {enc : TypeId × Value → H} {W : World}
theorem GoodSl.hw {α : Type} {f : α → List Value} {k b : Nat} {good : α → Prop} {h : SlH} (hh : GoodSl W f k b good h) : ∃ l, HW f k b good W h l := by
  obtain ⟨l, h1, h2, h3, h4⟩ := hh
  exact ⟨l, h1, h3, Nat.le_trans (Nat.mul_le_mul_right _ h3) h4, h2⟩
end
end Go.Proofs.YtdgppdiickmofaaGreatDoor
