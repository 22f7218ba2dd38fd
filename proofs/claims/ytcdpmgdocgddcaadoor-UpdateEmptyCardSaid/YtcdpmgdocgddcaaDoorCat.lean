/- Catalogs, entries, fields, strings in memory, and how they come in. -/
import Derived.Test.YtcdpmgdocgddcaaDoorRead
import Derived.Test.YtcdpmgdocgddcaaDoorSameS
import Derived.Test.YtcdpmgdocgddcaaDoorSlc
namespace Go.Proofs.YtcdpmgdocgddcaaDoor
open Go.RowKit
open Go.WideShapes Go.ChangeShapes Go.Deep
set_option maxRecDepth 100000

/-- A field: its name, its value. -/
abbrev Fd := ByteArray × ByteArray
def fdC (x : Fd) : List Value := [.string x.1, .string x.2]
/-- An entry, plain. -/
structure Ep where
  id : ByteArray
  src : ByteArray
  tgt : ByteArray
  com : List ByteArray
  fl : List ByteArray
  st : Int
  fd : List Fd
/-- An entry with the slices that hold its lists. -/
structure Ent where
  p : Ep
  c : SlH
  f : SlH
  d : SlH
def entC (x : Ent) : List Value := [.string x.p.id, .string x.p.src, .string x.p.tgt, .slice x.c.A x.c.m x.c.c, .slice x.f.A x.f.m x.f.c, .int .i64 x.p.st, .slice x.d.A x.d.m x.d.c]
/-- A catalog, plain. -/
structure Cp where
  tag : ByteArray
  com : List ByteArray
  fd : List Fd
  es : List Ep
/-- A catalog with the slices that hold its lists. -/
structure Cat where
  tag : ByteArray
  com : List ByteArray
  fd : List Fd
  es : List Ent
  c : SlH
  d : SlH
  e : SlH
def Cat.p (x : Cat) : Cp := ⟨x.tag, x.com, x.fd, x.es.map Ent.p⟩
def catC (x : Cat) : List Value := [.string x.tag, .slice x.c.A x.c.m x.c.c, .slice x.d.A x.d.m x.d.c, .slice x.e.A x.e.m x.e.c]
theorem fdC_len (x : Fd) : (fdC x).length = 2 := rfl
theorem entC_len (x : Ent) : (entC x).length = 7 := rfl
theorem strF_len (x : ByteArray) : (strF x).length = 1 := rfl
theorem strF_cell : ∀ x : ByteArray, ∀ u ∈ strF x, u.oneCell' = true := by
  intro x u hu
  simp only [strF, List.mem_cons, List.not_mem_nil, or_false] at hu
  rcases hu with rfl
  rfl
theorem fdC_cell : ∀ x : Fd, ∀ u ∈ fdC x, u.oneCell' = true := by
  intro x u hu
  simp only [fdC, List.mem_cons, List.not_mem_nil, or_false] at hu
  rcases hu with rfl | rfl <;> rfl
theorem entC_cell : ∀ x : Ent, ∀ u ∈ entC x, u.oneCell' = true := by
  intro x u hu
  simp only [entC, List.mem_cons, List.not_mem_nil, or_false] at hu
  rcases hu with rfl | rfl | rfl | rfl | rfl | rfl | rfl <;> rfl

/-- A slice of elements: what it holds, how long it is at most, and that the elements are good. -/
structure HW {α : Type} (cs : α → List Value) (k by_ : Nat) (good : α → Prop) (w : World) (h : SlH) (l : List α) : Prop where
  sl : SlC cs k w h.A h.m l
  cap : h.m ≤ h.c
  bd : h.m * by_ ≤ 140737488351232
  good : ∀ x ∈ l, good x
def GoodFd (x : Fd) : Prop := GoodStr x.1 ∧ GoodStr x.2
abbrev StrsW (w : World) (h : SlH) (l : List ByteArray) : Prop := HW strF 1 16 GoodStr w h l
abbrev FdsW (w : World) (h : SlH) (l : List Fd) : Prop := HW fdC 2 32 GoodFd w h l
/-- An entry in memory. -/
structure EntW (w : World) (x : Ent) : Prop where
  c : StrsW w x.c x.p.com
  f : StrsW w x.f x.p.fl
  d : FdsW w x.d x.p.fd
  id : GoodStr x.p.id
  src : GoodStr x.p.src
  tgt : GoodStr x.p.tgt
  st : -9223372036854775808 ≤ x.p.st ∧ x.p.st ≤ 9223372036854775807
abbrev EntsW (w : World) (h : SlH) (l : List Ent) : Prop := HW entC 7 128 (EntW w) w h l
/-- A catalog in memory. -/
structure CatW (w : World) (x : Cat) : Prop where
  tag : GoodStr x.tag
  c : StrsW w x.c x.com
  d : FdsW w x.d x.fd
  e : EntsW w x.e x.es

section
variable {w w' : World} {h : SlH}
theorem HW.ext {α : Type} {cs : α → List Value} {k by_ : Nat} {good : α → Prop} {l : List α} (hh : HW cs k by_ good w h l) (hE : Ext w w') : HW cs k by_ good w' h l := ⟨hh.sl.ext hE, hh.cap, hh.bd, hh.good⟩
theorem HW.nil_ {α : Type} {cs : α → List Value} {k by_ : Nat} {good : α → Prop} (h1 : ∀ x, (cs x).length = k) : HW cs k by_ good w ⟨none, 0, 0⟩ [] := ⟨SlC.nil_ h1, Nat.le_refl _, by simp, by simp⟩
theorem HW.turn {α : Type} {cs : α → List Value} {k by_ : Nat} {good good' : α → Prop} {l : List α} (hh : HW cs k by_ good w h l) (hg : ∀ x ∈ l, good x → good' x) : HW cs k by_ good' w h l := ⟨hh.sl, hh.cap, hh.bd, fun x hx => hg x hx (hh.good x hx)⟩
theorem EntW.ext {x : Ent} (h : EntW w x) (hE : Ext w w') : EntW w' x := ⟨h.c.ext hE, h.f.ext hE, h.d.ext hE, h.id, h.src, h.tgt, h.st⟩
theorem EntsW.ext {l : List Ent} (hh : EntsW w h l) (hE : Ext w w') : EntsW w' h l := (HW.ext hh hE).turn fun _ _ hx => hx.ext hE
theorem CatW.ext {x : Cat} (h : CatW w x) (hE : Ext w w') : CatW w' x := ⟨h.tag, h.c.ext hE, h.d.ext hE, EntsW.ext h.e hE⟩

/-- The slice does not lie in row r. -/
def Apart (r : Option Nat) (h : SlH) : Prop := h.m = 0 ∨ ob h.A = none ∨ ob h.A ≠ r
theorem SlC.kept' {α : Type} {cs : α → List Value} {k : Nat} {A : Option Addr} {m : Nat} {l : List α} {r : Option Nat} (h : SlC cs k w A m l) (hg : w.grownBy w' r) (h2 : m = 0 ∨ ob A = none ∨ ob A ≠ r) : SlC cs k w' A m l := by
  rcases h2 with h2 | h2
  · subst h2
    have hl : l = [] := List.eq_nil_of_length_eq_zero h.len.symm
    subst hl
    exact ⟨⟨by simp, fun hn => absurd hn (by omega)⟩, h.one, rfl, by omega⟩
  · exact h.kept hg h2
theorem HW.kept {α : Type} {cs : α → List Value} {k by_ : Nat} {good : α → Prop} {l : List α} {r : Option Nat} (hh : HW cs k by_ good w h l) (hg : w.grownBy w' r) (ha : Apart r h) : HW cs k by_ good w' h l := ⟨hh.sl.kept' hg ha, hh.cap, hh.bd, hh.good⟩
theorem HW.lt {α : Type} {cs : α → List Value} {k by_ : Nat} {good : α → Prop} {l : List α} (hh : HW cs k by_ good w h l) {r : Option Nat} (hr : ∀ g, r = some g → w.heap.size ≤ g) : Apart r h := by
  rcases Nat.eq_zero_or_pos h.m with h0 | h0
  · exact .inl h0
  · obtain ⟨ad, hA, hb, _⟩ := hh.sl.rd.2 h0
    refine .inr (.inr fun e => ?_)
    rw [hA] at e
    have := hr ad.block (by rw [← e]; rfl)
    omega
def EntA (r : Option Nat) (x : Ent) : Prop := Apart r x.c ∧ Apart r x.f ∧ Apart r x.d
theorem EntW.kept {x : Ent} {r : Option Nat} (h : EntW w x) (hg : w.grownBy w' r) (ha : EntA r x) : EntW w' x := ⟨h.c.kept hg ha.1, h.f.kept hg ha.2.1, h.d.kept hg ha.2.2, h.id, h.src, h.tgt, h.st⟩
theorem EntW.lt {x : Ent} {r : Option Nat} (h : EntW w x) (hr : ∀ g, r = some g → w.heap.size ≤ g) : EntA r x := ⟨h.c.lt hr, h.f.lt hr, h.d.lt hr⟩
end

section
variable {H : Type} {enc : TypeId × Value → H} {W : World}
theorem cells_sx : Tryd.prog.cellsOf 9 = 1 := by kernel_rfl
theorem cells_ix : Tryd.prog.cellsOf 3 = 1 := by kernel_rfl
theorem cells_ssx : Tryd.prog.cellsOf 22 = 1 := by kernel_rfl
theorem cells_fdx : Tryd.prog.cellsOf 42 = 2 := by kernel_rfl
theorem cells_fdsx : Tryd.prog.cellsOf 23 = 1 := by kernel_rfl
theorem cells_entx : Tryd.prog.cellsOf 35 = 7 := by kernel_rfl
theorem cells_entsx : Tryd.prog.cellsOf 24 = 1 := by kernel_rfl
theorem cells_catx : Tryd.prog.cellsOf 26 = 4 := by kernel_rfl
theorem bytes_sx : Tryd.prog.bytesOf 9 = 16 := by kernel_rfl
theorem bytes_fdx : Tryd.prog.bytesOf 42 = 32 := by kernel_rfl
theorem bytes_entx : Tryd.prog.bytesOf 35 = 128 := by kernel_rfl
theorem opn_field : Opn enc W 42 fdC GoodFd := by
  intro n cs x h hw
  obtain ⟨hl, hp⟩ := opn_part Tryd.underlying42 h hw
  rw [cells_fdx] at hl
  match cs, hl with
  | [a, b], _ =>
    obtain ⟨y0, e0, g0⟩ := hp 0 _ rfl (opn_string Tryd.underlying9)
    obtain ⟨y1, e1, g1⟩ := hp 1 _ rfl (opn_string Tryd.underlying9)
    simp [cells_sx, strF] at e0 e1
    subst e0 e1
    exact ⟨(y0, y1), rfl, g0, g1⟩
theorem opn_strs : Opn enc W 22 slF (GoodSl W strF 1 16 GoodStr) :=
  opn_slice Tryd.underlying22 cells_sx bytes_sx (by omega) (by omega) strF_len (opn_string Tryd.underlying9)
theorem opn_fields : Opn enc W 23 slF (GoodSl W fdC 2 32 GoodFd) :=
  opn_slice Tryd.underlying23 cells_fdx bytes_fdx (by omega) (by omega) fdC_len opn_field
theorem GoodSl.hw {α : Type} {f : α → List Value} {k b : Nat} {good : α → Prop} {h : SlH} (hh : GoodSl W f k b good h) : ∃ l, HW f k b good W h l := by
  obtain ⟨l, h1, h2, h3, h4⟩ := hh
  exact ⟨l, h1, h3, Nat.le_trans (Nat.mul_le_mul_right _ h3) h4, h2⟩
theorem opn_entry : Opn enc W 35 entC (EntW W) := by
  intro n cs x h hw
  obtain ⟨hl, hp⟩ := opn_part Tryd.underlying35 h hw
  rw [cells_entx] at hl
  match cs, hl with
  | [a, b, c, d, e, f, g], _ =>
    obtain ⟨y0, e0, g0⟩ := hp 0 _ rfl (opn_string Tryd.underlying9)
    obtain ⟨y1, e1, g1⟩ := hp 1 _ rfl (opn_string Tryd.underlying9)
    obtain ⟨y2, e2, g2⟩ := hp 2 _ rfl (opn_string Tryd.underlying9)
    obtain ⟨y3, e3, g3⟩ := hp 3 _ rfl opn_strs
    obtain ⟨y4, e4, g4⟩ := hp 4 _ rfl opn_strs
    obtain ⟨y5, e5, g5⟩ := hp 5 _ rfl (opn_int Tryd.underlying3)
    obtain ⟨y6, e6, g6⟩ := hp 6 _ rfl opn_fields
    simp [cells_sx, cells_ix, cells_ssx, cells_fdsx, strF, intF, slF] at e0 e1 e2 e3 e4 e5 e6
    subst e0 e1 e2 e3 e4 e5 e6
    obtain ⟨l3, h3⟩ := g3.hw
    obtain ⟨l4, h4⟩ := g4.hw
    obtain ⟨l6, h6⟩ := g6.hw
    exact ⟨⟨⟨y0, y1, y2, l3, l4, y5, l6⟩, y3, y4, y6⟩, rfl, h3, h4, h6, g0, g1, g2, bounds_i64 g5⟩
theorem opn_entries : Opn enc W 24 slF (GoodSl W entC 7 128 (EntW W)) :=
  opn_slice Tryd.underlying24 cells_entx bytes_entx (by omega) (by omega) entC_len opn_entry
theorem opn_cat : Opn enc W 26 catC (CatW W) := by
  intro n cs x h hw
  obtain ⟨hl, hp⟩ := opn_part Tryd.underlying26 h hw
  rw [cells_catx] at hl
  match cs, hl with
  | [a, b, c, d], _ =>
    obtain ⟨y0, e0, g0⟩ := hp 0 _ rfl (opn_string Tryd.underlying9)
    obtain ⟨y1, e1, g1⟩ := hp 1 _ rfl opn_strs
    obtain ⟨y2, e2, g2⟩ := hp 2 _ rfl opn_fields
    obtain ⟨y3, e3, g3⟩ := hp 3 _ rfl opn_entries
    simp [cells_sx, cells_ssx, cells_fdsx, cells_entsx, strF, slF] at e0 e1 e2 e3
    subst e0 e1 e2 e3
    obtain ⟨l1, h1⟩ := g1.hw
    obtain ⟨l2, h2⟩ := g2.hw
    obtain ⟨l3, h3⟩ := g3.hw
    exact ⟨⟨y0, l1, l2, l3, y1, y2, y3⟩, rfl, g0, h1, h2, h3⟩
end

theorem flat_strF (l : List ByteArray) : l.flatMap strF = l.map Value.string := by
  induction l with
  | nil => rfl
  | cons x t ih => rw [List.flatMap_cons, ih]; rfl
theorem SlC.sls {w : World} {A : Option Addr} {m : Nat} {l : List ByteArray} (h : SlC strF 1 w A m l) (hm : m ≤ 8796093022208) : SlS w A m l := ⟨by rw [← flat_strF]; exact h.rd, h.len, hm⟩
end Go.Proofs.YtcdpmgdocgddcaaDoor
