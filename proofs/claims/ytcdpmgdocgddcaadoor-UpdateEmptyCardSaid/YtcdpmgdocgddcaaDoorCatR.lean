/- Remove. -/
import Derived.Test.YtcdpmgdocgddcaaDoorCatK
import Derived.Test.YtcdpmgdocgddcaaDoorCatD
import Derived.Test.YtcdpmgdocgddcaaDoorCatFi
namespace Go.Proofs.YtcdpmgdocgddcaaDoor
open Go.RowKit
set_option maxRecDepth 100000

theorem results_cell_row_tmp' {P : Program} {fn : Func} {p u : Tmp} {ty : TypeId} (h : fn.results = #[.cell p ty, .tmp u]) (tmps : Array Value) (w : World) (g : Nat) (t : TypeId) (cs : Array Value) (fr : Nat × Nat) (d : TypeDesc)
    (hp : tmps.getD p undef = .pointer (some ⟨g, 0, none⟩)) (hg : w.heap[g]? = some (.cells cs t fr))
    (hu : P.underlying ty = some d) (hd : (match d with | .struct _ | .array _ _ => true | _ => false) = true) (hi : (P.info? ty).map (·.size) = some cs.size) :
    (results fn tmps).run P w = .ok (.tuple #[.agg cs, tmps.getD u undef]) w := by
  rw [results_cell_tmp h, hp]
  simp [asAddr, run_loadVar_row w g t ty cs fr d hg hu hd hi, Result.andThen]

def ApartAll (r : Option Nat) (y : Cat) : Prop := (ob y.e.A = none ∨ ob y.e.A ≠ r) ∧ Apart r y.c ∧ Apart r y.d ∧ ∀ z ∈ y.es, EntA r z
section
variable {w w' : World} {base : Nat} {y : Cat}
theorem CatO.lt_all (h : CatO w base y) {j : Nat} (hj : j < base) : ApartAll (some j) y := by
  obtain ⟨h1, h2, h3⟩ := h.new j hj
  refine ⟨?_, h1, h2, h3⟩
  cases hA : ob y.e.A with
  | none => exact .inl rfl
  | some k => exact .inr (fun e => by injection e with e; have := h.own.ge k hA; omega)
theorem CatO.ge_all (h : CatO w base y) {j : Nat} (hj : w.heap.size ≤ j) : ApartAll (some j) y := by
  refine ⟨?_, h.c.lt (fun g e => by injection e with e; omega), h.d.lt (fun g e => by injection e with e; omega), fun z hz => (h.each z hz).lt (fun g e => by injection e with e; omega)⟩
  cases hA : ob y.e.A with
  | none => exact .inl rfl
  | some k => exact .inr (fun e => by injection e with e; have := h.own.lt k hA; omega)
theorem CatO.kept {r : Option Nat} (h : CatO w base y) (hg : w.grownBy w' r) (ha : ApartAll r y) : CatO w' base y :=
  ⟨h.tag, h.c.kept hg ha.2.1, h.d.kept hg ha.2.2.1, h.own.kept hg ha.1, fun z hz => (h.each z hz).kept hg (ha.2.2.2 z hz), h.apE, h.apC, h.apD, h.new⟩
theorem CatO.set_ (h : CatO w base y) {p : Addr} (ha : ApartAll (some p.block) y) (u : Value) : CatO (w.setCell p u) base y := h.kept (grown_set w p u) ha
theorem CatO.mono {base' : Nat} (h : CatO w base y) (hb : base' ≤ base) : CatO w base' y :=
  ⟨h.tag, h.c, h.d, h.own.mono hb, h.each, h.apE, h.apC, h.apD, fun j hj => h.new j (by omega)⟩
def Cat.withE (y : Cat) (es : List Ent) (e : SlH) : Cat := ⟨y.tag, y.com, y.fd, es, y.c, y.d, e⟩
theorem CatO.turn (h : CatO w base y) (hg : w.grownBy w' (ob y.e.A)) {es' : List Ent} {e' : SlH} (hown : OsC entC 35 7 w' base e'.A e'.m e'.c es') (hN : NewOr w.heap.size (ob y.e.A) (ob e'.A))
    (hsub : ∀ z ∈ es', z ∈ y.es ∨ (EntW w z ∧ EntA (ob y.e.A) z ∧ ∀ j, j < base → EntA (some j) z)) : CatO w' base (y.withE es' e') := by
  have hz : ∀ z ∈ es', EntW w z ∧ EntA (ob y.e.A) z ∧ ∀ j, j < base → EntA (some j) z := fun z hz => by
    rcases hsub z hz with h1 | h1
    · exact ⟨h.each z h1, h.apE z h1, fun j hj => (h.new j hj).2.2 z h1⟩
    · exact h1
  exact ⟨h.tag, h.c.kept hg h.apC, h.d.kept hg h.apD, hown, fun z hm => (hz z hm).1.kept hg (hz z hm).2.1, fun z hm => (hz z hm).2.1.turn (hz z hm).1 hN (Nat.le_refl _),
    h.apC.turn h.c hN (Nat.le_refl _), h.apD.turn h.d hN (Nat.le_refl _), fun j hj => ⟨(h.new j hj).1, (h.new j hj).2.1, fun z hm => (hz z hm).2.2 j hj⟩⟩
end
def cp0 : Cp := ⟨⟨#[]⟩, [], [], []⟩
def cat0 : Cat := ⟨⟨#[]⟩, [], [], [], ⟨none, 0, 0⟩, ⟨none, 0, 0⟩, ⟨none, 0, 0⟩⟩
theorem apart_none (r : Option Nat) : Apart r ⟨none, 0, 0⟩ := .inl rfl
theorem CatO.zero (w : World) (base : Nat) : CatO w base cat0 :=
  ⟨by show (0 : Nat) ≤ _; omega, HW.nil_ strF_len, HW.nil_ fdC_len, OsC.nil_ entC_len entC_cell, fun z h => (by cases h), fun z h => (by cases h), apart_none _, apart_none _, fun j _ => ⟨apart_none _, apart_none _, fun z h => (by cases h)⟩⟩
/-- What Remove does. -/
def RemR (c : Cp) (id : ByteArray) (c' : Cp) (code : Int) : Prop :=
  (validC c = false ∧ code = 1 ∧ c' = cp0) ∨ (validC c = true ∧ FindZ c.es id (-1) ∧ code = 8 ∧ c' = cp0) ∨
  (validC c = true ∧ ∃ k : Nat, FindZ c.es id k ∧ k < c.es.length ∧ code = 0 ∧ c' = ⟨c.tag, c.com, c.fd, c.es.take k ++ c.es.drop (k + 1)⟩)
attribute [local go_sem] ext_refl_t ext_alloc_t ext_drew_t ext_drewN_t ext_alloc2_t ext_alloc3_t ext_alloc4_t ext_alloc5_t ext_alloc6_t ext_alloc7_t ext_alloc8_t ext_alloc1d_t ext_alloc2d_t ext_alloc3d_t ext_alloc4d_t
section
variable {w : World}
end

end Go.Proofs.YtcdpmgdocgddcaaDoor
