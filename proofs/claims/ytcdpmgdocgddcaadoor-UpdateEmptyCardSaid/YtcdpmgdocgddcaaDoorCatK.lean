/- The copy of a catalog. -/
import Derived.Test.YtcdpmgdocgddcaaDoorCatC
import Derived.Test.YtcdpmgdocgddcaaDoorCatV
namespace Go.Proofs.YtcdpmgdocgddcaaDoor
open Go.RowKit
set_option maxRecDepth 100000

theorem Apart.turn {α : Type} {cs : α → List Value} {k by_ : Nat} {good : α → Prop} {w : World} {h : SlH} {l : List α} {r r' : Option Nat} {B : Nat} (ha : Apart r h) (hh : HW cs k by_ good w h l) (hN : NewOr B r r') (hB : w.heap.size ≤ B) : Apart r' h := by
  rcases ha with h0 | h0 | h0
  · exact .inl h0
  · exact .inr (.inl h0)
  · cases hr : r' with
    | none => cases hA : ob h.A with
      | none => exact .inr (.inl hA)
      | some k => exact .inr (.inr (by rw [hA]; simp))
    | some j =>
      rcases hN j hr with h1 | h1
      · exact hh.lt (fun g e => by injection e with e; omega)
      · rw [← h1]; exact .inr (.inr h0)
theorem EntA.turn {w : World} {x : Ent} {r r' : Option Nat} {B : Nat} (ha : EntA r x) (hx : EntW w x) (hN : NewOr B r r') (hB : w.heap.size ≤ B) : EntA r' x :=
  ⟨ha.1.turn hx.c hN hB, ha.2.1.turn hx.f hN hB, ha.2.2.turn hx.d hN hB⟩
/-- A catalog whose row of entries is the call's own. -/
structure CatO (w : World) (base : Nat) (y : Cat) : Prop where
  tag : GoodStr y.tag
  c : StrsW w y.c y.com
  d : FdsW w y.d y.fd
  own : OsC entC 35 7 w base y.e.A y.e.m y.e.c y.es
  each : ∀ z ∈ y.es, EntW w z
  apE : ∀ z ∈ y.es, EntA (ob y.e.A) z
  apC : Apart (ob y.e.A) y.c
  apD : Apart (ob y.e.A) y.d
  new : ∀ j, j < base → Apart (some j) y.c ∧ Apart (some j) y.d ∧ ∀ z ∈ y.es, EntA (some j) z
theorem CatO.w {w : World} {base : Nat} {y : Cat} (h : CatO w base y) (hn : y.e.m ≤ 1000000) : CatW w y := ⟨h.tag, h.c, h.d, ⟨h.own.sl, h.own.cap, by omega, h.each⟩⟩
theorem CatO.ext {w w' : World} {base : Nat} {y : Cat} (h : CatO w base y) (hE : Ext w w') : CatO w' base y := ⟨h.tag, h.c.ext hE, h.d.ext hE, h.own.ext hE, fun z hz => (h.each z hz).ext hE, h.apE, h.apC, h.apD, h.new⟩

attribute [local go_sem] ext_refl_t ext_alloc_t ext_drew_t ext_drewN_t ext_alloc2_t ext_alloc3_t ext_alloc4_t ext_alloc5_t ext_alloc6_t ext_alloc7_t ext_alloc8_t ext_alloc1d_t ext_alloc2d_t ext_alloc3d_t ext_alloc4d_t
section
variable {w : World}
end

end Go.Proofs.YtcdpmgdocgddcaaDoor
