/- Catalogs, entries, fields, strings in memory, and how they come in. -/
import Derived.Test.YtgnchicipmomlaaGreatDoorPK02
import Derived.Test.YtgnchicipmomlaaGreatDoorPK03
import Derived.Test.YtgnchicipmomlaaGreatDoorPK01
namespace Go.Proofs.YtgnchicipmomlaaGreatDoor
open Go.RowKit
open Go.WideShapes Go.ChangeShapes Go.Deep
set_option maxRecDepth 100000

/-- A field: its name, its value. -/
abbrev Fd := ByteArray × ByteArray
def fdC (x : Fd) : List Value := [.string x.1, .string x.2]
/-- An entry, plain. -/
structure Ep where
  id : ByteArray
  src : ByteArray
  tgt : ByteArray
  com : List ByteArray
  fl : List ByteArray
  st : Int
  fd : List Fd
/-- An entry with the slices that hold its lists. -/
structure Ent where
  p : Ep
  c : SlH
  f : SlH
  d : SlH
def entC (x : Ent) : List Value := [.string x.p.id, .string x.p.src, .string x.p.tgt, .slice x.c.A x.c.m x.c.c, .slice x.f.A x.f.m x.f.c, .int .i64 x.p.st, .slice x.d.A x.d.m x.d.c]
/-- A catalog, plain. -/
structure Cp where
  tag : ByteArray
  com : List ByteArray
  fd : List Fd
  es : List Ep
/-- A catalog with the slices that hold its lists. -/
structure Cat where
  tag : ByteArray
  com : List ByteArray
  fd : List Fd
  es : List Ent
  c : SlH
  d : SlH
  e : SlH
def Cat.p (x : Cat) : Cp := ⟨x.tag, x.com, x.fd, x.es.map Ent.p⟩
def catC (x : Cat) : List Value := [.string x.tag, .slice x.c.A x.c.m x.c.c, .slice x.d.A x.d.m x.d.c, .slice x.e.A x.e.m x.e.c]
theorem fdC_len (x : Fd) : (fdC x).length = 2 := rfl
theorem entC_len (x : Ent) : (entC x).length = 7 := rfl
theorem strF_len (x : ByteArray) : (strF x).length = 1 := rfl
theorem strF_cell : ∀ x : ByteArray, ∀ u ∈ strF x, u.oneCell' = true := by
  intro x u hu
  simp only [strF, List.mem_cons, List.not_mem_nil, or_false] at hu
  rcases hu with rfl
  rfl
theorem fdC_cell : ∀ x : Fd, ∀ u ∈ fdC x, u.oneCell' = true := by
  intro x u hu
  simp only [fdC, List.mem_cons, List.not_mem_nil, or_false] at hu
  rcases hu with rfl | rfl <;> rfl
theorem entC_cell : ∀ x : Ent, ∀ u ∈ entC x, u.oneCell' = true := by
  intro x u hu
  simp only [entC, List.mem_cons, List.not_mem_nil, or_false] at hu
  rcases hu with rfl | rfl | rfl | rfl | rfl | rfl | rfl <;> rfl

/-- A slice of elements: what it holds, how long it is at most, and that the elements are good. -/
structure HW {α : Type} (cs : α → List Value) (k by_ : Nat) (good : α → Prop) (w : World) (h : SlH) (l : List α) : Prop where
  sl : SlC cs k w h.A h.m l
  cap : h.m ≤ h.c
  bd : h.m * by_ ≤ 140737488351232
  good : ∀ x ∈ l, good x
def GoodFd (x : Fd) : Prop := GoodStr x.1 ∧ GoodStr x.2
abbrev StrsW (w : World) (h : SlH) (l : List ByteArray) : Prop := HW strF 1 16 GoodStr w h l
abbrev FdsW (w : World) (h : SlH) (l : List Fd) : Prop := HW fdC 2 32 GoodFd w h l
/-- An entry in memory. -/
structure EntW (w : World) (x : Ent) : Prop where
  c : StrsW w x.c x.p.com
  f : StrsW w x.f x.p.fl
  d : FdsW w x.d x.p.fd
  id : GoodStr x.p.id
  src : GoodStr x.p.src
  tgt : GoodStr x.p.tgt
  st : -9223372036854775808 ≤ x.p.st ∧ x.p.st ≤ 9223372036854775807
abbrev EntsW (w : World) (h : SlH) (l : List Ent) : Prop := HW entC 7 128 (EntW w) w h l
/-- A catalog in memory. -/
structure CatW (w : World) (x : Cat) : Prop where
  tag : GoodStr x.tag
  c : StrsW w x.c x.com
  d : FdsW w x.d x.fd
  e : EntsW w x.e x.es

section
variable {w w' : World} {h : SlH}
theorem HW.ext {α : Type} {cs : α → List Value} {k by_ : Nat} {good : α → Prop} {l : List α} (hh : HW cs k by_ good w h l) (hE : Ext w w') : HW cs k by_ good w' h l := ⟨hh.sl.ext hE, hh.cap, hh.bd, hh.good⟩
theorem HW.nil_ {α : Type} {cs : α → List Value} {k by_ : Nat} {good : α → Prop} (h1 : ∀ x, (cs x).length = k) : HW cs k by_ good w ⟨none, 0, 0⟩ [] := ⟨SlC.nil_ h1, Nat.le_refl _, by simp, by simp⟩
theorem HW.turn {α : Type} {cs : α → List Value} {k by_ : Nat} {good good' : α → Prop} {l : List α} (hh : HW cs k by_ good w h l) (hg : ∀ x ∈ l, good x → good' x) : HW cs k by_ good' w h l := ⟨hh.sl, hh.cap, hh.bd, fun x hx => hg x hx (hh.good x hx)⟩
theorem EntW.ext {x : Ent} (h : EntW w x) (hE : Ext w w') : EntW w' x := ⟨h.c.ext hE, h.f.ext hE, h.d.ext hE, h.id, h.src, h.tgt, h.st⟩
theorem EntsW.ext {l : List Ent} (hh : EntsW w h l) (hE : Ext w w') : EntsW w' h l := (HW.ext hh hE).turn fun _ _ hx => hx.ext hE
theorem CatW.ext {x : Cat} (h : CatW w x) (hE : Ext w w') : CatW w' x := ⟨h.tag, h.c.ext hE, h.d.ext hE, EntsW.ext h.e hE⟩

/-- The slice does not lie in row r. -/
def Apart (r : Option Nat) (h : SlH) : Prop := h.m = 0 ∨ ob h.A = none ∨ ob h.A ≠ r
theorem SlC.kept' {α : Type} {cs : α → List Value} {k : Nat} {A : Option Addr} {m : Nat} {l : List α} {r : Option Nat} (h : SlC cs k w A m l) (hg : w.grownBy w' r) (h2 : m = 0 ∨ ob A = none ∨ ob A ≠ r) : SlC cs k w' A m l := by
  rcases h2 with h2 | h2
  · subst h2
    have hl : l = [] := List.eq_nil_of_length_eq_zero h.len.symm
    subst hl
    exact ⟨⟨by simp, fun hn => absurd hn (by omega)⟩, h.one, rfl, by omega⟩
  · exact h.kept hg h2
theorem HW.kept {α : Type} {cs : α → List Value} {k by_ : Nat} {good : α → Prop} {l : List α} {r : Option Nat} (hh : HW cs k by_ good w h l) (hg : w.grownBy w' r) (ha : Apart r h) : HW cs k by_ good w' h l := ⟨hh.sl.kept' hg ha, hh.cap, hh.bd, hh.good⟩
theorem HW.lt {α : Type} {cs : α → List Value} {k by_ : Nat} {good : α → Prop} {l : List α} (hh : HW cs k by_ good w h l) {r : Option Nat} (hr : ∀ g, r = some g → w.heap.size ≤ g) : Apart r h := by
  rcases Nat.eq_zero_or_pos h.m with h0 | h0
  · exact .inl h0
  · obtain ⟨ad, hA, hb, _⟩ := hh.sl.rd.2 h0
    refine .inr (.inr fun e => ?_)
    rw [hA] at e
    have := hr ad.block (by rw [← e]; rfl)
    omega
def EntA (r : Option Nat) (x : Ent) : Prop := Apart r x.c ∧ Apart r x.f ∧ Apart r x.d
theorem EntW.kept {x : Ent} {r : Option Nat} (h : EntW w x) (hg : w.grownBy w' r) (ha : EntA r x) : EntW w' x := ⟨h.c.kept hg ha.1, h.f.kept hg ha.2.1, h.d.kept hg ha.2.2, h.id, h.src, h.tgt, h.st⟩
theorem EntW.lt {x : Ent} {r : Option Nat} (h : EntW w x) (hr : ∀ g, r = some g → w.heap.size ≤ g) : EntA r x := ⟨h.c.lt hr, h.f.lt hr, h.d.lt hr⟩
end

section
variable {H : Type} {enc : TypeId × Value → H} {W : World}
theorem cells_sx : Tryz.prog.cellsOf 9 = 1 := by kernel_rfl
theorem cells_ix : Tryz.prog.cellsOf 3 = 1 := by kernel_rfl
theorem cells_ssx : Tryz.prog.cellsOf 28 = 1 := by kernel_rfl
theorem cells_fdx : Tryz.prog.cellsOf 56 = 2 := by kernel_rfl
theorem cells_fdsx : Tryz.prog.cellsOf 29 = 1 := by kernel_rfl
theorem cells_entx : Tryz.prog.cellsOf 39 = 7 := by kernel_rfl
theorem cells_entsx : Tryz.prog.cellsOf 30 = 1 := by kernel_rfl
theorem cells_catx : Tryz.prog.cellsOf 32 = 4 := by kernel_rfl
theorem bytes_sx : Tryz.prog.bytesOf 9 = 16 := by kernel_rfl
theorem bytes_fdx : Tryz.prog.bytesOf 56 = 32 := by kernel_rfl
theorem bytes_entx : Tryz.prog.bytesOf 39 = 128 := by kernel_rfl
theorem opn_field : Opn enc W 56 fdC GoodFd := by
  intro n cs x h hw
  obtain ⟨hl, hp⟩ := opn_part Tryz.underlying56 h hw
  rw [cells_fdx] at hl
  match cs, hl with
  | [a, b], _ =>
    obtain ⟨y0, e0, g0⟩ := hp 0 _ rfl (opn_string Tryz.underlying9)
    obtain ⟨y1, e1, g1⟩ := hp 1 _ rfl (opn_string Tryz.underlying9)
    simp [cells_sx, strF] at e0 e1
    subst e0 e1
    exact ⟨(y0, y1), rfl, g0, g1⟩
theorem opn_strs : Opn enc W 28 slF (GoodSl W strF 1 16 GoodStr) :=
  opn_slice Tryz.underlying28 cells_sx bytes_sx (by omega) (by omega) strF_len (opn_string Tryz.underlying9)
theorem opn_fields : Opn enc W 29 slF (GoodSl W fdC 2 32 GoodFd) :=
  opn_slice Tryz.underlying29 cells_fdx bytes_fdx (by omega) (by omega) fdC_len opn_field
theorem GoodSl.hw {α : Type} {f : α → List Value} {k b : Nat} {good : α → Prop} {h : SlH} (hh : GoodSl W f k b good h) : ∃ l, HW f k b good W h l := by
  obtain ⟨l, h1, h2, h3, h4⟩ := hh
  exact ⟨l, h1, h3, Nat.le_trans (Nat.mul_le_mul_right _ h3) h4, h2⟩
theorem opn_entry : Opn enc W 39 entC (EntW W) := by
  intro n cs x h hw
  obtain ⟨hl, hp⟩ := opn_part Tryz.underlying39 h hw
  rw [cells_entx] at hl
  match cs, hl with
  | [a, b, c, d, e, f, g], _ =>
    obtain ⟨y0, e0, g0⟩ := hp 0 _ rfl (opn_string Tryz.underlying9)
    obtain ⟨y1, e1, g1⟩ := hp 1 _ rfl (opn_string Tryz.underlying9)
    obtain ⟨y2, e2, g2⟩ := hp 2 _ rfl (opn_string Tryz.underlying9)
    obtain ⟨y3, e3, g3⟩ := hp 3 _ rfl opn_strs
    obtain ⟨y4, e4, g4⟩ := hp 4 _ rfl opn_strs
    obtain ⟨y5, e5, g5⟩ := hp 5 _ rfl (opn_int Tryz.underlying3)
    obtain ⟨y6, e6, g6⟩ := hp 6 _ rfl opn_fields
    simp [cells_sx, cells_ix, cells_ssx, cells_fdsx, strF, intF, slF] at e0 e1 e2 e3 e4 e5 e6
    subst e0 e1 e2 e3 e4 e5 e6
    obtain ⟨l3, h3⟩ := g3.hw
    obtain ⟨l4, h4⟩ := g4.hw
    obtain ⟨l6, h6⟩ := g6.hw
    exact ⟨⟨⟨y0, y1, y2, l3, l4, y5, l6⟩, y3, y4, y6⟩, rfl, h3, h4, h6, g0, g1, g2, bounds_i64 g5⟩
theorem opn_entries : Opn enc W 30 slF (GoodSl W entC 7 128 (EntW W)) :=
  opn_slice Tryz.underlying30 cells_entx bytes_entx (by omega) (by omega) entC_len opn_entry
theorem opn_cat : Opn enc W 32 catC (CatW W) := by
  intro n cs x h hw
  obtain ⟨hl, hp⟩ := opn_part Tryz.underlying32 h hw
  rw [cells_catx] at hl
  match cs, hl with
  | [a, b, c, d], _ =>
    obtain ⟨y0, e0, g0⟩ := hp 0 _ rfl (opn_string Tryz.underlying9)
    obtain ⟨y1, e1, g1⟩ := hp 1 _ rfl opn_strs
    obtain ⟨y2, e2, g2⟩ := hp 2 _ rfl opn_fields
    obtain ⟨y3, e3, g3⟩ := hp 3 _ rfl opn_entries
    simp [cells_sx, cells_ssx, cells_fdsx, cells_entsx, strF, slF] at e0 e1 e2 e3
    subst e0 e1 e2 e3
    obtain ⟨l1, h1⟩ := g1.hw
    obtain ⟨l2, h2⟩ := g2.hw
    obtain ⟨l3, h3⟩ := g3.hw
    exact ⟨⟨y0, l1, l2, l3, y1, y2, y3⟩, rfl, g0, h1, h2, h3⟩
end

theorem flat_strF (l : List ByteArray) : l.flatMap strF = l.map Value.string := by
  induction l with
  | nil => rfl
  | cons x t ih => rw [List.flatMap_cons, ih]; rfl
theorem SlC.sls {w : World} {A : Option Addr} {m : Nat} {l : List ByteArray} (h : SlC strF 1 w A m l) (hm : m ≤ 8796093022208) : SlS w A m l := ⟨by rw [← flat_strF]; exact h.rd, h.len, hm⟩
end Go.Proofs.YtgnchicipmomlaaGreatDoor

/- Byte slices and numbers that came in. -/
namespace Go.Proofs.YtgnchicipmomlaaGreatDoor
open Go.RowKit Go.WideShapes
set_option maxRecDepth 100000

section
variable {H : Type} {enc : TypeId × Value → H} {W : World}
theorem opn_byte : Opn enc W 5 (fun b : UInt8 => [bv b]) (fun _ => True) := by
  intro n cs x h hw
  obtain ⟨z, rfl, hz⟩ := opn_int Tryz.underlying5 n cs x h hw
  have hb := bounds_u8 hz
  refine ⟨UInt8.ofNat z.toNat, ?_, trivial⟩
  simp only [intF, bv, UInt8.toNat_ofNat', List.cons.injEq, Value.int.injEq, true_and, and_true]
  omega
end
end Go.Proofs.YtgnchicipmomlaaGreatDoor

/- Scripts, calls and files in memory, as they come in. -/
namespace Go.Proofs.YtgnchicipmomlaaGreatDoor
open Go.RowKit
open Go.WideShapes Go.ChangeShapes Go.Deep
set_option maxRecDepth 100000
def I64 (z : Int) : Prop := -9223372036854775808 ≤ z ∧ z ≤ 9223372036854775807
/-- A range of bytes. -/
def rngC (r : UInt8 × UInt8) : List Value := [bv r.1, bv r.2]
theorem rngC_len (r : UInt8 × UInt8) : (rngC r).length = 2 := rfl
/-- An item of a pattern. -/
structure Itm where
  text : ByteArray
  rng : List (UInt8 × UInt8)
  no : Bool
  least : Int
  most : Int
  h : SlH
def itmC (x : Itm) : List Value := [.string x.text, .slice x.h.A x.h.m x.h.c, .bool x.no, .int .i64 x.least, .int .i64 x.most]
theorem itmC_len (x : Itm) : (itmC x).length = 5 := rfl
abbrev RngsW (w : World) (h : SlH) (l : List (UInt8 × UInt8)) : Prop := HW rngC 2 2 (fun _ => True) w h l
structure ItmW (w : World) (x : Itm) : Prop where
  r : RngsW w x.h x.rng
  text : GoodStr x.text
  least : I64 x.least
  most : I64 x.most
abbrev ItmsW (w : World) (h : SlH) (l : List Itm) : Prop := HW itmC 5 64 (ItmW w) w h l
/-- A rule. -/
structure Rul where
  kind : ByteArray
  items : List Itm
  next : ByteArray
  h : SlH
def rulC (x : Rul) : List Value := [.string x.kind, .slice x.h.A x.h.m x.h.c, .string x.next]
theorem rulC_len (x : Rul) : (rulC x).length = 3 := rfl
structure RulW (w : World) (x : Rul) : Prop where
  i : ItmsW w x.h x.items
  kind : GoodStr x.kind
  next : GoodStr x.next
abbrev RulsW (w : World) (h : SlH) (l : List Rul) : Prop := HW rulC 3 56 (RulW w) w h l
/-- A state. -/
structure Sta where
  name : ByteArray
  rules : List Rul
  h : SlH
def staC (x : Sta) : List Value := [.string x.name, .slice x.h.A x.h.m x.h.c]
theorem staC_len (x : Sta) : (staC x).length = 2 := rfl
structure StaW (w : World) (x : Sta) : Prop where
  r : RulsW w x.h x.rules
  name : GoodStr x.name
abbrev ScrW (w : World) (h : SlH) (l : List Sta) : Prop := HW staC 2 40 (StaW w) w h l
/-- A call whose arguments name a message; a file. -/
structure Cll where
  name : ByteArray
  id : Int
  src : Int
def cllC (x : Cll) : List Value := [.string x.name, .int .i64 x.id, .int .i64 x.src]
theorem cllC_len (x : Cll) : (cllC x).length = 3 := rfl
def CllG (x : Cll) : Prop := GoodStr x.name ∧ I64 x.id ∧ I64 x.src
abbrev CllsW (w : World) (h : SlH) (l : List Cll) : Prop := HW cllC 3 32 CllG w h l
def filC (x : ByteArray × ByteArray) : List Value := [.string x.1, .string x.2]
theorem filC_len (x : ByteArray × ByteArray) : (filC x).length = 2 := rfl
def FilG (x : ByteArray × ByteArray) : Prop := GoodStr x.1 ∧ GoodStr x.2
abbrev FilsW (w : World) (h : SlH) (l : List (ByteArray × ByteArray)) : Prop := HW filC 2 32 FilG w h l
/-- A script with calls. -/
structure Stg where
  scr : List Sta
  calls : List Cll
  hs : SlH
  hc : SlH
def stgC (x : Stg) : List Value := [.slice x.hs.A x.hs.m x.hs.c, .slice x.hc.A x.hc.m x.hc.c]
structure StgW (w : World) (x : Stg) : Prop where
  s : ScrW w x.hs x.scr
  c : CllsW w x.hc x.calls
section
variable {w w' : World}
theorem HW.ext2 {α : Type} {cs : α → List Value} {k by_ : Nat} {good good' : α → Prop} {h : SlH} {l : List α} (hh : HW cs k by_ good w h l) (hE : Ext w w') (hg : ∀ x, good x → good' x) : HW cs k by_ good' w' h l := ⟨hh.sl.ext hE, hh.cap, hh.bd, fun x hx => hg x (hh.good x hx)⟩
theorem ItmW.ext {x : Itm} (h : ItmW w x) (hE : Ext w w') : ItmW w' x := ⟨HW.ext2 h.r hE fun _ e => e, h.text, h.least, h.most⟩
theorem ItmsW.ext {h : SlH} {l : List Itm} (hh : ItmsW w h l) (hE : Ext w w') : ItmsW w' h l := HW.ext2 hh hE fun _ e => e.ext hE
theorem RulW.ext {x : Rul} (h : RulW w x) (hE : Ext w w') : RulW w' x := ⟨ItmsW.ext h.i hE, h.kind, h.next⟩
theorem RulsW.ext {h : SlH} {l : List Rul} (hh : RulsW w h l) (hE : Ext w w') : RulsW w' h l := HW.ext2 hh hE fun _ e => e.ext hE
theorem StaW.ext {x : Sta} (h : StaW w x) (hE : Ext w w') : StaW w' x := ⟨RulsW.ext h.r hE, h.name⟩
theorem ScrW.ext {h : SlH} {l : List Sta} (hh : ScrW w h l) (hE : Ext w w') : ScrW w' h l := HW.ext2 hh hE fun _ e => e.ext hE
end
section
variable {H : Type} {enc : TypeId × Value → H} {W : World}
theorem cells_u8T : Tryz.prog.cellsOf 5 = 1 := by kernel_rfl
theorem cells_bT : Tryz.prog.cellsOf 4 = 1 := by kernel_rfl
theorem cells_rngT : Tryz.prog.cellsOf 145 = 2 := by kernel_rfl
theorem bytes_rngT : Tryz.prog.bytesOf 145 = 2 := by kernel_rfl
theorem cells_rngsT : Tryz.prog.cellsOf 71 = 1 := by kernel_rfl
theorem cells_itmT : Tryz.prog.cellsOf 73 = 5 := by kernel_rfl
theorem bytes_itmT : Tryz.prog.bytesOf 73 = 64 := by kernel_rfl
theorem cells_itmsT : Tryz.prog.cellsOf 68 = 1 := by kernel_rfl
theorem cells_rulT : Tryz.prog.cellsOf 70 = 3 := by kernel_rfl
theorem bytes_rulT : Tryz.prog.bytesOf 70 = 56 := by kernel_rfl
theorem cells_rulsT : Tryz.prog.cellsOf 65 = 1 := by kernel_rfl
theorem cells_staT : Tryz.prog.cellsOf 67 = 2 := by kernel_rfl
theorem bytes_staT : Tryz.prog.bytesOf 67 = 40 := by kernel_rfl
theorem cells_scrT : Tryz.prog.cellsOf 23 = 1 := by kernel_rfl
theorem cells_cllT : Tryz.prog.cellsOf 64 = 3 := by kernel_rfl
theorem bytes_cllT : Tryz.prog.bytesOf 64 = 32 := by kernel_rfl
theorem cells_cllsT : Tryz.prog.cellsOf 24 = 1 := by kernel_rfl
theorem cells_filT : Tryz.prog.cellsOf 62 = 2 := by kernel_rfl
theorem bytes_filT : Tryz.prog.bytesOf 62 = 32 := by kernel_rfl
theorem cells_stgT : Tryz.prog.cellsOf 26 = 2 := by kernel_rfl
theorem opn_rng : Opn enc W 145 rngC (fun _ => True) := by
  intro n cs x h hw
  obtain ⟨hl, hp⟩ := opn_part Tryz.underlying145 h hw
  rw [cells_rngT] at hl
  match cs, hl with
  | [a, b], _ =>
    obtain ⟨y0, e0, _⟩ := hp 0 _ rfl opn_byte
    obtain ⟨y1, e1, _⟩ := hp 1 _ rfl opn_byte
    simp [cells_u8T] at e0 e1
    subst e0 e1
    exact ⟨(y0, y1), rfl, trivial⟩
theorem opn_rngs : Opn enc W 71 slF (GoodSl W rngC 2 2 (fun _ => True)) :=
  opn_slice Tryz.underlying71 cells_rngT bytes_rngT (by omega) (by omega) rngC_len opn_rng
theorem opn_itm : Opn enc W 73 itmC (ItmW W) := by
  intro n cs x h hw
  obtain ⟨hl, hp⟩ := opn_part Tryz.underlying73 h hw
  rw [cells_itmT] at hl
  match cs, hl with
  | [a, b, c, d, e], _ =>
    obtain ⟨y0, e0, g0⟩ := hp 0 _ rfl (opn_string Tryz.underlying9)
    obtain ⟨y1, e1, g1⟩ := hp 1 _ rfl opn_rngs
    obtain ⟨y2, e2, _⟩ := hp 2 _ rfl (opn_bool Tryz.underlying4)
    obtain ⟨y3, e3, g3⟩ := hp 3 _ rfl (opn_int Tryz.underlying3)
    obtain ⟨y4, e4, g4⟩ := hp 4 _ rfl (opn_int Tryz.underlying3)
    simp [cells_sx, cells_ix, cells_bT, cells_rngsT, strF, intF, boolF, slF] at e0 e1 e2 e3 e4
    subst e0 e1 e2 e3 e4
    obtain ⟨l, h1⟩ := g1.hw
    exact ⟨⟨y0, l, y2, y3, y4, y1⟩, rfl, h1, g0, bounds_i64 g3, bounds_i64 g4⟩
theorem opn_itms : Opn enc W 68 slF (GoodSl W itmC 5 64 (ItmW W)) :=
  opn_slice Tryz.underlying68 cells_itmT bytes_itmT (by omega) (by omega) itmC_len opn_itm
theorem opn_rul : Opn enc W 70 rulC (RulW W) := by
  intro n cs x h hw
  obtain ⟨hl, hp⟩ := opn_part Tryz.underlying70 h hw
  rw [cells_rulT] at hl
  match cs, hl with
  | [a, b, c], _ =>
    obtain ⟨y0, e0, g0⟩ := hp 0 _ rfl (opn_string Tryz.underlying9)
    obtain ⟨y1, e1, g1⟩ := hp 1 _ rfl opn_itms
    obtain ⟨y2, e2, g2⟩ := hp 2 _ rfl (opn_string Tryz.underlying9)
    simp [cells_sx, cells_itmsT, strF, slF] at e0 e1 e2
    subst e0 e1 e2
    obtain ⟨l, h1⟩ := g1.hw
    exact ⟨⟨y0, l, y2, y1⟩, rfl, h1, g0, g2⟩
theorem opn_ruls : Opn enc W 65 slF (GoodSl W rulC 3 56 (RulW W)) :=
  opn_slice Tryz.underlying65 cells_rulT bytes_rulT (by omega) (by omega) rulC_len opn_rul
theorem opn_sta : Opn enc W 67 staC (StaW W) := by
  intro n cs x h hw
  obtain ⟨hl, hp⟩ := opn_part Tryz.underlying67 h hw
  rw [cells_staT] at hl
  match cs, hl with
  | [a, b], _ =>
    obtain ⟨y0, e0, g0⟩ := hp 0 _ rfl (opn_string Tryz.underlying9)
    obtain ⟨y1, e1, g1⟩ := hp 1 _ rfl opn_ruls
    simp [cells_sx, cells_rulsT, strF, slF] at e0 e1
    subst e0 e1
    obtain ⟨l, h1⟩ := g1.hw
    exact ⟨⟨y0, l, y1⟩, rfl, h1, g0⟩
theorem opn_scr : Opn enc W 23 slF (GoodSl W staC 2 40 (StaW W)) :=
  opn_slice Tryz.underlying23 cells_staT bytes_staT (by omega) (by omega) staC_len opn_sta
theorem opn_cll : Opn enc W 64 cllC CllG := by
  intro n cs x h hw
  obtain ⟨hl, hp⟩ := opn_part Tryz.underlying64 h hw
  rw [cells_cllT] at hl
  match cs, hl with
  | [a, b, c], _ =>
    obtain ⟨y0, e0, g0⟩ := hp 0 _ rfl (opn_string Tryz.underlying9)
    obtain ⟨y1, e1, g1⟩ := hp 1 _ rfl (opn_int Tryz.underlying3)
    obtain ⟨y2, e2, g2⟩ := hp 2 _ rfl (opn_int Tryz.underlying3)
    simp [cells_sx, cells_ix, strF, intF] at e0 e1 e2
    subst e0 e1 e2
    exact ⟨⟨y0, y1, y2⟩, rfl, g0, bounds_i64 g1, bounds_i64 g2⟩
theorem opn_clls : Opn enc W 24 slF (GoodSl W cllC 3 32 CllG) :=
  opn_slice Tryz.underlying24 cells_cllT bytes_cllT (by omega) (by omega) cllC_len opn_cll
theorem opn_fil : Opn enc W 62 filC FilG := by
  intro n cs x h hw
  obtain ⟨hl, hp⟩ := opn_part Tryz.underlying62 h hw
  rw [cells_filT] at hl
  match cs, hl with
  | [a, b], _ =>
    obtain ⟨y0, e0, g0⟩ := hp 0 _ rfl (opn_string Tryz.underlying9)
    obtain ⟨y1, e1, g1⟩ := hp 1 _ rfl (opn_string Tryz.underlying9)
    simp [cells_sx, strF] at e0 e1
    subst e0 e1
    exact ⟨(y0, y1), rfl, g0, g1⟩
theorem opn_fils : Opn enc W 27 slF (GoodSl W filC 2 32 FilG) :=
  opn_slice Tryz.underlying27 cells_filT bytes_filT (by omega) (by omega) filC_len opn_fil
theorem opn_stg : Opn enc W 26 stgC (StgW W) := by
  intro n cs x h hw
  obtain ⟨hl, hp⟩ := opn_part Tryz.underlying26 h hw
  rw [cells_stgT] at hl
  match cs, hl with
  | [a, b], _ =>
    obtain ⟨y0, e0, g0⟩ := hp 0 _ rfl opn_scr
    obtain ⟨y1, e1, g1⟩ := hp 1 _ rfl opn_clls
    simp [cells_scrT, cells_cllsT, slF] at e0 e1
    subst e0 e1
    obtain ⟨l0, h0⟩ := g0.hw
    obtain ⟨l1, h1⟩ := g1.hw
    exact ⟨⟨l0, l1, y0, y1⟩, rfl, h0, h1⟩
end
end Go.Proofs.YtgnchicipmomlaaGreatDoor

/- The reference's scripts: what is valid is small; its text is bounded. -/
namespace Go.Proofs.YtgnchicipmomlaaGreatDoor
open Go.RowKit
set_option maxRecDepth 100000
attribute [local go_sem] ext_refl_t ext_alloc_t ext_drew_t ext_drewN_t ext_alloc2_t ext_alloc3_t ext_alloc4_t ext_alloc5_t ext_alloc6_t ext_alloc7_t ext_alloc8_t ext_alloc1d_t ext_alloc2d_t ext_alloc3d_t ext_alloc4d_t
/-- The call returned an int of which P holds. -/
def RetZs (P : Int → Prop) (e : Ending) : Prop := ∃ z, e = .returned (.int .i64 z) ∧ P z
def RetStr (n : Nat) (e : Ending) : Prop := ∃ s : ByteArray, e = .returned (.string s) ∧ s.size ≤ n
/-- An item that is small. -/
def SmI (x : Itm) : Prop := x.text.size ≤ 40 ∧ x.rng.length ≤ 20
def itmV (x : Itm) : Value := .agg #[.string x.text, .slice x.h.A x.h.m x.h.c, .bool x.no, .int .i64 x.least, .int .i64 x.most]
def rulV (x : Rul) : Value := .agg #[.string x.kind, .slice x.h.A x.h.m x.h.c, .string x.next]
theorem enc_le (r : Int) : (Utf8.encode r).size ≤ 4 := by
  unfold Utf8.encode
  dsimp only
  repeat' split
  all_goals first | (show 1 ≤ 4; omega) | (show 2 ≤ 4; omega) | (show 3 ≤ 4; omega) | (show 4 ≤ 4; omega)
theorem tl_empty {s : ByteArray} (h : s.size = 0) : s.toList.isEmpty = true := by
  rw [ByteArray.toList_eq s, List.eq_nil_of_length_eq_zero (Array.length_toList.trans h)]; rfl
theorem tl_full {s : ByteArray} (h : ¬ s.size = 0) : s.toList.isEmpty = false := by
  rw [ByteArray.toList_eq s]
  cases h2 : s.data.toList with
  | nil => exact absurd (Array.length_toList.symm.trans (congrArg List.length h2)) h
  | cons a t => rfl
section
variable {w : World}
set_option maxHeartbeats 1600000 in
theorem word44_any (s : ByteArray) (hs : GoodStr s) :
    Calls Tryz.prog 18 #[.string s] w fun e w' => RetB (fun r => r = true → s.size ≤ 16) e ∧ Ext w w' := by
  unfold GoodStr at hs
  go_enter Tryz.func18, Tryz.ntmps18
  go_wp2
  go_loopw [3] (fun i wr => ∃ q : Nat, q ≤ s.size ∧ i = .int .i64 q ∧ Ext w wr) (fun i _ => s.size - (intOf i).toNat)
  case atStart => exact ⟨0, Nat.zero_le _, rfl, Ext.refl _⟩
  case round =>
    obtain ⟨q, hq, rfl, hE⟩ := hrel
    by_cases hlt : q < s.size
    · obtain ⟨z, hz⟩ : ∃ z : Nat, s[q].toNat = z := ⟨_, rfl⟩
      have hz256 : z < 256 := by rw [← hz]; exact UInt8.toNat_lt _
      have hi1 : (q : Int) < (s.size : Int) := by omega
      go_wp2
      all_goals first
        | (go_ret; exact ⟨⟨_, rfl, by first | (intro h; cases h; done) | (intro h; simp at h; omega) | (intro h; omega) | omega⟩, hE⟩)
        | (refine ⟨⟨q + 1, by omega, by go_num, hE⟩, ?_⟩; first | (simp [intOf]; omega) | (simp [intOf]) | omega)
        | (go_roundw; (case rel => exact ⟨q + 1, by omega, by go_num, hE⟩); (case measure => first | (simp [intOf]; omega) | (simp [intOf])))
    · have hi1 : ¬ (q : Int) < (s.size : Int) := by omega
      go_wp2
      all_goals first
        | (go_ret; exact ⟨⟨_, rfl, by first | (intro h; cases h; done) | (intro h; simp at h; omega) | (intro h; omega) | omega⟩, hE⟩)
        | (refine ⟨⟨q + 1, by omega, by go_num, hE⟩, ?_⟩; first | (simp [intOf]; omega) | (simp [intOf]) | omega)
        | (go_roundw; (case rel => exact ⟨q + 1, by omega, by go_num, hE⟩); (case measure => first | (simp [intOf]; omega) | (simp [intOf])))

set_option maxHeartbeats 1600000 in
theorem index44_any {h : SlH} {l : List Sta} (hs : ScrW w h l) (s : ByteArray) :
    Calls Tryz.prog 19 #[.slice h.A h.m h.c, .string s] w fun e w' => RetZs (fun z => -1 ≤ z ∧ z ≤ 140737488355328 ∧ (0 ≤ z → ∃ x ∈ l, x.name = s)) e ∧ Ext w w' := by
  obtain ⟨A, m, c⟩ := h
  have HL := Lib.hid hs.sl.len
  have hle := hs.sl.le
  dsimp only at HL hle ⊢
  go_enter Tryz.func19, Tryz.ntmps19
  go_wp2
  go_loopw [5] (fun i wr => ∃ q : Nat, q ≤ m ∧ i = .int .i64 q ∧ Ext w wr) (fun i _ => m - (intOf i).toNat)
  case atStart => exact ⟨0, Nat.zero_le _, rfl, Ext.refl _⟩
  case round =>
    obtain ⟨q, hq, rfl, hE⟩ := hrel
    by_cases hlt : q < m
    · obtain ⟨b, off, e0, hbl, hcs⟩ := (hs.sl.ext hE).at_ hlt (by omega)
      dsimp only at e0
      subst e0
      have hlt1 : q < l.length := by rw [← HL.out]; exact hlt
      have HM : Hid (l[q] ∈ l) := List.getElem_mem hlt1
      obtain ⟨y, hyq⟩ : ∃ y, y = l[q] := ⟨_, rfl⟩
      have y0 := hcs q hlt1 0 (by omega)
      simp only [← hyq, staC, List.getElem_cons_zero, Nat.add_zero] at y0
      have hi1 : (q : Int) < (m : Int) := by omega
      rw [← hyq] at HM
      clear hcs hyq
      by_cases hid : y.name = s
      · have hbq : (y.name.toList == s.toList) = true := by rw [hid]; simp
        have HF : Hid (∃ x ∈ l, x.name = s) := ⟨y, HM.out, hid⟩
        clear hid
        go_wp2
        all_goals first
          | (go_ret; exact ⟨⟨_, rfl, by omega, by omega, fun _ => HF.out⟩, hE⟩)
          | (refine ⟨⟨q + 1, by omega, by go_num, hE⟩, ?_⟩; first | (simp [intOf]; omega) | (simp [intOf]) | omega)
          | (go_roundw; (case rel => exact ⟨q + 1, by omega, by go_num, hE⟩); (case measure => first | (simp [intOf]; omega) | (simp [intOf])))
      · have hbq : (y.name.toList == s.toList) = false := by
          rw [beq_eq_false_iff_ne]
          exact fun hh => hid (toList_inj hh)
        clear hid
        go_wp2
        all_goals first
          | (go_ret; exact ⟨⟨_, rfl, by omega, by omega, fun h => absurd h (by omega)⟩, hE⟩)
          | (refine ⟨⟨q + 1, by omega, by go_num, hE⟩, ?_⟩; first | (simp [intOf]; omega) | (simp [intOf]) | omega)
          | (go_roundw; (case rel => exact ⟨q + 1, by omega, by go_num, hE⟩); (case measure => first | (simp [intOf]; omega) | (simp [intOf])))
    · have hi1 : ¬ (q : Int) < (m : Int) := by omega
      go_wp2
      all_goals first
        | (go_ret; exact ⟨⟨_, rfl, by omega, by omega, fun h => absurd h (by omega)⟩, hE⟩)
        | (refine ⟨⟨q + 1, by omega, by go_num, hE⟩, ?_⟩; first | (simp [intOf]; omega) | (simp [intOf]) | omega)
        | (go_roundw; (case rel => exact ⟨q + 1, by omega, by go_num, hE⟩); (case measure => first | (simp [intOf]; omega) | (simp [intOf])))

set_option maxHeartbeats 3200000 in
theorem Proper44_any {x : Itm} (hx : ItmW w x) :
    Calls Tryz.prog 39 #[itmV x] w fun e w' => RetB (fun r => r = true → SmI x) e ∧ Ext w w' := by
  obtain ⟨text, rng, no, least, most, ⟨A, m, c⟩⟩ := x
  have hr := hx.r
  have hgt := hx.text
  have hgl := hx.least
  have hgm := hx.most
  unfold itmV SmI
  unfold GoodStr at hgt
  unfold I64 at hgl hgm
  dsimp only at hr hgt hgl hgm ⊢
  have HL := Lib.hid hr.sl.len
  have hle := hr.sl.le
  dsimp only at HL hle
  obtain ⟨W0, hW0⟩ : ∃ W0, W0 = w.alloc (Obj.cells #[.string text, .slice A m c, .bool no, .int .i64 least, .int .i64 most] 73) := ⟨_, rfl⟩
  have hb : Blk W0 w.heap.size 73 #[.string text, .slice A m c, .bool no, .int .i64 least, .int .i64 most] := by rw [hW0]; exact Blk.new w _ _
  have hE0 : Ext w W0 := by rw [hW0]; exact (Ext.refl w).alloc _
  have hs := hr.sl.ext hE0
  clear hx hr
  go_enter Tryz.func39, Tryz.ntmps39
  by_cases h1 : least < 0 ∨ 1 < least ∨ (most ≠ 1 ∧ most ≠ -1)
  · rcases h1 with h1 | h1 | ⟨h1, h2⟩
    · go_wp2
      go_ret
      exact ⟨⟨_, rfl, by first | (intro h; cases h; done) | (intro h; simp at h; omega) | (intro h; omega) | omega⟩, (Ext.refl w).alloc _⟩
    · go_wp2
      go_ret
      exact ⟨⟨_, rfl, by first | (intro h; cases h; done) | (intro h; simp at h; omega) | (intro h; omega) | omega⟩, (Ext.refl w).alloc _⟩
    · have b1 : (most != 1) = true := by simp [h1]
      have b2 : (most != -1) = true := by simp [h2]
      go_wp2
      all_goals go_ret
      all_goals exact ⟨⟨_, rfl, by first | (intro h; cases h; done) | (intro h; simp at h; omega) | (intro h; omega) | omega⟩, (Ext.refl w).alloc _⟩
  · have h2 : ¬ least < 0 := by omega
    have h3 : ¬ 1 < least := by omega
    have h4 : most = 1 ∨ most = -1 := by omega
    clear h1
    by_cases ht : text.size = 0
    · have hte : text.toList.isEmpty = true := tl_empty ht
      have HT := Lib.hid ht
      clear ht
      rcases h4 with rfl | rfl <;>
      (go_wp2
       rw [← hW0]
       have H1 := laters (hb.cell 1)
       obtain ⟨g, hg⟩ : ∃ g, g = w.heap.size := ⟨_, rfl⟩
       rw [← hg] at hb H1 ⊢
       clear hW0 hg hb
       simp at H1
       go_loopw [3] (fun i wr => ∃ q : Nat, q ≤ m ∧ i = .int .i64 q ∧ Ext W0 wr) (fun i _ => m - (intOf i).toNat)
       case atStart => exact ⟨0, Nat.zero_le _, rfl, Ext.refl _⟩
       case round =>
         obtain ⟨q, hq, rfl, hE⟩ := hrel
         have h1 := H1 _ hE
         by_cases hlt : q < m
         · obtain ⟨b, off, e0, hbl, hcs⟩ := (hs.ext hE).at_ hlt (by omega)
           subst e0
           have hlt1 : q < rng.length := by rw [← HL.out]; exact hlt
           obtain ⟨⟨y, z⟩, hyq⟩ : ∃ y, y = rng[q] := ⟨_, rfl⟩
           have y0 := hcs q hlt1 0 (by omega)
           have y1 := hcs q hlt1 1 (by omega)
           simp only [← hyq, rngC, bv, List.getElem_cons_zero, List.getElem_cons_succ, Nat.add_zero, ← Nat.add_assoc] at y0 y1
           have hi1 : (q : Int) < (m : Int) := by omega
           clear hcs hyq
           obtain ⟨yn, hyn⟩ : ∃ yn, yn = y.toNat := ⟨_, rfl⟩
           obtain ⟨zn, hzn⟩ : ∃ zn, zn = z.toNat := ⟨_, rfl⟩
           rw [← hyn] at y0
           rw [← hzn] at y1
           clear hyn hzn
           have z0 := latersU y0
           have z1 := latersU y1
           have z2 := latersU h1
           go_wp2
           refine wp_region_ext_lit (by kernel_rfl) (by kernel_rfl) ?_
           try dsimp only [List.append]
           repeat (go_big_quiet_step (fail))
           refine wpQuiet_nil ?_
           rintro w5 ⟨⟨_, h5⟩, rfl⟩
           try dsimp only
           go_wp2
           all_goals first
             | (go_ret; exact ⟨⟨_, rfl, by first | (intro h; cases h; done) | (intro h; simp at h; omega) | (intro h; omega) | omega⟩, hE0.trans (hE.trans h5)⟩)
             | (refine ⟨⟨q + 1, by omega, by go_num, hE.trans h5⟩, ?_⟩; first | (simp [intOf]; omega) | (simp [intOf]) | omega)
             | (go_roundw; (case rel => exact ⟨q + 1, by omega, by go_num, hE.trans h5⟩); (case measure => first | (simp [intOf]; omega) | (simp [intOf])))
         · have hi1 : ¬ (q : Int) < (m : Int) := by omega
           go_wp2
           all_goals first
             | (go_ret; exact ⟨⟨_, rfl, fun h => by first | (cases h; done) | (exact ⟨by rw [HT.out]; omega, by rw [← HL.out]; simp at h; omega⟩)⟩, hE0.trans hE⟩)
             | (refine ⟨⟨q + 1, by omega, by go_num, hE⟩, ?_⟩; first | (simp [intOf]; omega) | (simp [intOf]) | omega)
             | (go_roundw; (case rel => exact ⟨q + 1, by omega, by go_num, hE⟩); (case measure => first | (simp [intOf]; omega) | (simp [intOf])))
      )
    · have hte : text.toList.isEmpty = false := tl_full ht
      rcases h4 with rfl | rfl <;>
      (go_wp2
       all_goals go_ret
       all_goals exact ⟨⟨_, rfl, fun h => by first | (cases h; done) | (rw [← HL.out]; constructor <;> omega) | (simp at h; rw [← HL.out]; constructor <;> omega)⟩, (Ext.refl w).alloc _⟩)

end
end Go.Proofs.YtgnchicipmomlaaGreatDoor

/- The reference's scripts: the text. -/
namespace Go.Proofs.YtgnchicipmomlaaGreatDoor
open Go.RowKit
set_option maxRecDepth 100000
attribute [local go_sem] ext_refl_t ext_alloc_t ext_drew_t ext_drewN_t ext_alloc2_t ext_alloc3_t ext_alloc4_t ext_alloc5_t ext_alloc6_t ext_alloc7_t ext_alloc8_t ext_alloc1d_t ext_alloc2d_t ext_alloc3d_t ext_alloc4d_t
section
variable {w : World}
set_option maxHeartbeats 3200000 in
theorem one44_any (z : Nat) (hz : z < 256) (br : Bool) :
    Calls Tryz.prog 98 #[.int .u8 (z : Int), .bool br] w fun e w' => RetStr 4 e ∧ Ext w w' := by
  cases br with
  | false =>
    by_cases h1 : z = 92
    · subst h1
      go_enter Tryz.func98, Tryz.ntmps98
      go_wp2
      go_ret
      exact ⟨⟨_, rfl, by decide⟩, Ext.refl _⟩
    have b92 : ((z : Int) == 92) = false := by simp; omega
    clear h1
    by_cases h1 : z = 34
    · subst h1
      go_enter Tryz.func98, Tryz.ntmps98
      go_wp2
      go_ret
      exact ⟨⟨_, rfl, by decide⟩, Ext.refl _⟩
    have b34 : ((z : Int) == 34) = false := by simp; omega
    clear h1
    go_enter Tryz.func98, Tryz.ntmps98
    go_upto_region 5 with fail
    clear b92 b34
    by_cases h1 : z < 32
    · have i1 : (z : Int) < 32 := by omega
      go_wp2
      refine wp_region_ext_lit (by kernel_rfl) (by kernel_rfl) ?_
      try dsimp only [List.append]
      repeat (go_big_quiet_step (fail))
      refine wpQuiet_nil ?_
      rintro w5 ⟨⟨_, h5⟩, rfl⟩
      try dsimp only
      go_wp2
      go_ret
      exact ⟨⟨_, rfl, by rw [ByteArray.size_append, ByteArray.size_append, ByteArray.size_extract, ByteArray.size_extract]; show 2 + _ + _ ≤ 4; omega⟩, h5⟩
    · have i1 : ¬ (z : Int) < 32 := by omega
      by_cases h2 : 126 < z
      · have i2 : 126 < (z : Int) := by omega
        go_wp2
        refine wp_region_ext_lit (by kernel_rfl) (by kernel_rfl) ?_
        try dsimp only [List.append]
        repeat (go_big_quiet_step (fail))
        refine wpQuiet_nil ?_
        rintro w5 ⟨⟨_, h5⟩, rfl⟩
        try dsimp only
        go_wp2
        go_ret
        exact ⟨⟨_, rfl, by rw [ByteArray.size_append, ByteArray.size_append, ByteArray.size_extract, ByteArray.size_extract]; show 2 + _ + _ ≤ 4; omega⟩, h5⟩
      · have i2 : ¬ 126 < (z : Int) := by omega
        go_wp2
        go_ret
        exact ⟨⟨_, rfl, enc_le _⟩, Ext.refl _⟩
  | true =>
    by_cases h1 : z = 92
    · subst h1
      go_enter Tryz.func98, Tryz.ntmps98
      go_wp2
      go_ret
      exact ⟨⟨_, rfl, by decide⟩, Ext.refl _⟩
    have b92 : ((z : Int) == 92) = false := by simp; omega
    clear h1
    by_cases h1 : z = 91
    · subst h1
      go_enter Tryz.func98, Tryz.ntmps98
      go_wp2
      go_ret
      exact ⟨⟨_, rfl, by decide⟩, Ext.refl _⟩
    have b91 : ((z : Int) == 91) = false := by simp; omega
    clear h1
    by_cases h1 : z = 93
    · subst h1
      go_enter Tryz.func98, Tryz.ntmps98
      go_wp2
      go_ret
      exact ⟨⟨_, rfl, by decide⟩, Ext.refl _⟩
    have b93 : ((z : Int) == 93) = false := by simp; omega
    clear h1
    by_cases h1 : z = 94
    · subst h1
      go_enter Tryz.func98, Tryz.ntmps98
      go_wp2
      go_ret
      exact ⟨⟨_, rfl, by decide⟩, Ext.refl _⟩
    have b94 : ((z : Int) == 94) = false := by simp; omega
    clear h1
    by_cases h1 : z = 45
    · subst h1
      go_enter Tryz.func98, Tryz.ntmps98
      go_wp2
      go_ret
      exact ⟨⟨_, rfl, by decide⟩, Ext.refl _⟩
    have b45 : ((z : Int) == 45) = false := by simp; omega
    clear h1
    by_cases h1 : z = 32
    · subst h1
      go_enter Tryz.func98, Tryz.ntmps98
      go_wp2
      refine wp_region_ext_lit (by kernel_rfl) (by kernel_rfl) ?_
      try dsimp only [List.append]
      repeat (go_big_quiet_step (fail))
      refine wpQuiet_nil ?_
      rintro w5 ⟨⟨_, h5⟩, rfl⟩
      try dsimp only
      go_wp2
      go_ret
      exact ⟨⟨_, rfl, by decide⟩, h5⟩
    have b32 : ((z : Int) == 32) = false := by simp; omega
    clear h1
    go_enter Tryz.func98, Tryz.ntmps98
    go_upto_region 5 with fail
    clear b92 b91 b93 b94 b45
    by_cases h1 : z < 32
    · have i1 : (z : Int) < 32 := by omega
      go_wp2
      refine wp_region_ext_lit (by kernel_rfl) (by kernel_rfl) ?_
      try dsimp only [List.append]
      repeat (go_big_quiet_step (fail))
      refine wpQuiet_nil ?_
      rintro w5 ⟨⟨_, h5⟩, rfl⟩
      try dsimp only
      go_wp2
      go_ret
      exact ⟨⟨_, rfl, by rw [ByteArray.size_append, ByteArray.size_append, ByteArray.size_extract, ByteArray.size_extract]; show 2 + _ + _ ≤ 4; omega⟩, h5⟩
    · have i1 : ¬ (z : Int) < 32 := by omega
      by_cases h2 : 126 < z
      · have i2 : 126 < (z : Int) := by omega
        go_wp2
        refine wp_region_ext_lit (by kernel_rfl) (by kernel_rfl) ?_
        try dsimp only [List.append]
        repeat (go_big_quiet_step (fail))
        refine wpQuiet_nil ?_
        rintro w5 ⟨⟨_, h5⟩, rfl⟩
        try dsimp only
        go_wp2
        go_ret
        exact ⟨⟨_, rfl, by rw [ByteArray.size_append, ByteArray.size_append, ByteArray.size_extract, ByteArray.size_extract]; show 2 + _ + _ ≤ 4; omega⟩, h5⟩
      · have i2 : ¬ 126 < (z : Int) := by omega
        go_wp2
        go_ret
        exact ⟨⟨_, rfl, enc_le _⟩, Ext.refl _⟩
end
end Go.Proofs.YtgnchicipmomlaaGreatDoor

/- The reference's scripts: an item, a line. -/
namespace Go.Proofs.YtgnchicipmomlaaGreatDoor
open Go.RowKit
set_option maxRecDepth 100000
attribute [local go_sem] ext_refl_t ext_alloc_t ext_drew_t ext_drewN_t ext_alloc2_t ext_alloc3_t ext_alloc4_t ext_alloc5_t ext_alloc6_t ext_alloc7_t ext_alloc8_t ext_alloc1d_t ext_alloc2d_t ext_alloc3d_t ext_alloc4d_t
theorem bsz1 (a : UInt8) : (⟨#[a]⟩ : ByteArray).size = 1 := rfl
theorem bsz4 (a b c d : UInt8) : (⟨#[a, b, c, d]⟩ : ByteArray).size = 4 := rfl
theorem bsz6 (a b c d e f : UInt8) : (⟨#[a, b, c, d, e, f]⟩ : ByteArray).size = 6 := rfl
section
variable {w : World}
set_option maxHeartbeats 6400000 in
theorem item44_any {x : Itm} (hx : ItmW w x) (hsm : SmI x) :
    Calls Tryz.prog 68 #[itmV x] w fun e w' => RetStr 200 e ∧ Ext w w' := by
  unfold SmI at hsm
  unfold itmV
  obtain ⟨text, rng, no, least, most, ⟨A, m, c⟩⟩ := x
  have hr := hx.r
  have hgt := hx.text
  have hgl := hx.least
  have hgm := hx.most
  unfold GoodStr at hgt
  unfold I64 at hgl hgm
  dsimp only at hr hgt hgl hgm ⊢
  have HL := Lib.hid hr.sl.len
  have hle := hr.sl.le
  dsimp only at HL hle
  dsimp only at hsm
  obtain ⟨hsm1, hsm2⟩ := hsm
  have hm20 : m ≤ 20 := by rw [HL.out]; exact hsm2
  clear hsm2
  obtain ⟨W0, hW0⟩ : ∃ W0, W0 = w.alloc (Obj.cells #[.string text, .slice A m c, .bool no, .int .i64 least, .int .i64 most] 73) := ⟨_, rfl⟩
  have hb : Blk W0 w.heap.size 73 #[.string text, .slice A m c, .bool no, .int .i64 least, .int .i64 most] := by rw [hW0]; exact Blk.new w _ _
  have hE0 : Ext w W0 := by rw [hW0]; exact (Ext.refl w).alloc _
  have hs := hr.sl.ext hE0
  clear hx hr
  go_enter Tryz.func68, Tryz.ntmps68
  by_cases ht : text.size = 0
  · have hte : text.toList.isEmpty = true := tl_empty ht
    clear ht
    cases no <;>
    (go_wp2
     rw [← hW0]
     have H1 := laters (hb.cell 1)
     have H3 := laters (hb.cell 3)
     have H4 := laters (hb.cell 4)
     obtain ⟨g, hg⟩ : ∃ g, g = w.heap.size := ⟨_, rfl⟩
     rw [← hg] at hb H1 H3 H4 ⊢
     clear hW0 hg hb
     simp at H1 H3 H4
     go_loopw [3, 5] (fun s i wr => ∃ (q : Nat) (t : ByteArray), q ≤ m ∧ i = .int .i64 q ∧ s = .string t ∧ t.size ≤ 2 + 9 * q ∧ Ext W0 wr) (fun _ i _ => m - (intOf i).toNat)
     case atStart => exact ⟨0, _, Nat.zero_le _, rfl, rfl, by decide, Ext.refl _⟩
     case round =>
       obtain ⟨q, t, hq, rfl, rfl, hts, hE⟩ := hrel
       have h1 := H1 _ hE
       by_cases hlt : q < m
       · obtain ⟨b, off, e0, hbl, hcs⟩ := (hs.ext hE).at_ hlt (by omega)
         subst e0
         have hlt1 : q < rng.length := by rw [← HL.out]; exact hlt
         obtain ⟨⟨y, z⟩, hyq⟩ : ∃ y, y = rng[q] := ⟨_, rfl⟩
         have y0 := hcs q hlt1 0 (by omega)
         have y1 := hcs q hlt1 1 (by omega)
         simp only [← hyq, rngC, bv, List.getElem_cons_zero, List.getElem_cons_succ, Nat.add_zero, ← Nat.add_assoc] at y0 y1
         have hi1 : (q : Int) < (m : Int) := by omega
         clear hcs hyq
         have by1 : y.toNat < 256 := y.toNat_lt
         have bz1 : z.toNat < 256 := z.toNat_lt
         obtain ⟨yn, hyn⟩ : ∃ yn, yn = y.toNat := ⟨_, rfl⟩
         obtain ⟨zn, hzn⟩ : ∃ zn, zn = z.toNat := ⟨_, rfl⟩
         rw [← hyn] at y0 by1
         rw [← hzn] at y1 bz1
         clear hyn hzn
         go_wp2_with (first
           | (go_at_call 98; refine Hid.out ?_))
         refine Hid.mk_ ((one44_any yn by1 true).mono ?_)
         rintro e w2 ⟨⟨t2, rfl, ht2⟩, hE2⟩
         have k0 := later hE2 y0
         have k1 := later hE2 y1
         have k2 := later hE2 h1
         have z0 := latersU k0
         have z1 := latersU k1
         have z2 := latersU k2
         go_wp2
         refine wp_region_ext_lit (by kernel_rfl) (by kernel_rfl) ?_
         try dsimp only [List.append]
         repeat (go_big_quiet_step (fail))
         refine wpQuiet_nil ?_
         rintro w5 ⟨⟨_, h5⟩, rfl⟩
         try dsimp only
         have j1 := later h5 k1
         have j2 := later h5 k2
         by_cases hyz : zn = yn
         · have c1 : ((zn : Int) != (yn : Int)) = false := by simp [hyz]
           have c2 : ((zn : Int) == (yn : Int)) = true := by simp [hyz]
           clear hyz
           go_wp2
           all_goals first
             | (go_ret; exact ⟨⟨_, rfl, by first | (intro h; cases h; done) | (intro h; simp at h; omega) | (intro h; omega) | omega⟩, hE0.trans hE⟩)
             | (refine ⟨⟨q + 1, _, by omega, by go_num, rfl, by rw [ByteArray.size_append]; omega, (hE.trans hE2).trans h5⟩, ?_⟩; first | (simp [intOf]; omega) | (simp [intOf]) | omega)
             | (go_roundw; (case rel => exact ⟨q + 1, _, by omega, by go_num, rfl, by rw [ByteArray.size_append]; omega, (hE.trans hE2).trans h5⟩); (case measure => first | (simp [intOf]; omega) | (simp [intOf])))
         · have c1 : ((zn : Int) != (yn : Int)) = true := by simp; omega
           have c2 : ((zn : Int) == (yn : Int)) = false := by simp; omega
           clear hyz
           go_wp2_with (first
             | (go_at_call 98; refine Hid.out ?_))
           refine Hid.mk_ ((one44_any zn bz1 true).mono ?_)
           rintro e w6 ⟨⟨t3, rfl, ht3⟩, hE6⟩
           go_wp2
           all_goals first
             | (go_ret; exact ⟨⟨_, rfl, by first | (intro h; cases h; done) | (intro h; simp at h; omega) | (intro h; omega) | omega⟩, hE0.trans hE⟩)
             | (refine ⟨⟨q + 1, _, by omega, by go_num, rfl, by simp only [ByteArray.size_append, bsz1]; omega, ((hE.trans hE2).trans h5).trans hE6⟩, ?_⟩; first | (simp [intOf]; omega) | (simp [intOf]) | omega)
             | (go_roundw; (case rel => exact ⟨q + 1, _, by omega, by go_num, rfl, by simp only [ByteArray.size_append, bsz1]; omega, ((hE.trans hE2).trans h5).trans hE6⟩); (case measure => first | (simp [intOf]; omega) | (simp [intOf])))
       · have hi1 : ¬ (q : Int) < (m : Int) := by omega
         have h3 := H3 _ hE
         have h4 := H4 _ hE
         have hE9 := hE0.trans hE
         by_cases e1 : least = 0
         · have c1 : (least == 0) = true := by simp [e1]
           by_cases e2 : most = 1
           · have c2 : (most == 1) = true := by simp [e2]
             go_wp2
             go_ret
             exact ⟨⟨_, rfl, by simp only [ByteArray.size_append, bsz1]; omega⟩, hE9⟩
           · have c2 : (most == 1) = false := by simp [e2]
             go_wp2
             go_ret
             exact ⟨⟨_, rfl, by simp only [ByteArray.size_append, bsz1]; omega⟩, hE9⟩
         · have c1 : (least == 0) = false := by simp [e1]
           by_cases e2 : most = 1
           · have c2 : (most != 1) = false := by simp [e2]
             go_wp2
             go_ret
             exact ⟨⟨_, rfl, by simp only [ByteArray.size_append, bsz1]; omega⟩, hE9⟩
           · have c2 : (most != 1) = true := by simp [e2]
             go_wp2
             go_ret
             exact ⟨⟨_, rfl, by simp only [ByteArray.size_append, bsz1]; omega⟩, hE9⟩
    )
  · have hte : text.toList.isEmpty = false := tl_full ht
    clear ht
    go_wp2
    rw [← hW0]
    have H0 := laters (hb.cell 0)
    have H3 := laters (hb.cell 3)
    have H4 := laters (hb.cell 4)
    obtain ⟨g, hg⟩ : ∃ g, g = w.heap.size := ⟨_, rfl⟩
    rw [← hg] at hb H0 H3 H4 ⊢
    clear hW0 hg hb
    simp at H0 H3 H4
    go_loopw [3, 4] (fun s i wr => ∃ (q : Nat) (t : ByteArray), q ≤ text.size ∧ i = .int .i64 q ∧ s = .string t ∧ t.size ≤ 1 + 4 * q ∧ Ext W0 wr) (fun _ i _ => text.size - (intOf i).toNat)
    case atStart => exact ⟨0, _, Nat.zero_le _, rfl, rfl, by decide, Ext.refl _⟩
    case round =>
      obtain ⟨q, t, hq, rfl, rfl, hts, hE⟩ := hrel
      have h0 := H0 _ hE
      by_cases hlt : q < text.size
      · obtain ⟨z, hz⟩ : ∃ z : Nat, text[q].toNat = z := ⟨_, rfl⟩
        have hz256 : z < 256 := by rw [← hz]; exact UInt8.toNat_lt _
        have hi1 : (q : Int) < (text.size : Int) := by omega
        go_wp2_with (first
          | (go_at_call 98; refine Hid.out ?_))
        refine Hid.mk_ ((one44_any z hz256 false).mono ?_)
        rintro e w2 ⟨⟨t2, rfl, ht2⟩, hE2⟩
        go_wp2
        all_goals first
          | (go_ret; exact ⟨⟨_, rfl, by first | (intro h; cases h; done) | (intro h; simp at h; omega) | (intro h; omega) | omega⟩, hE0.trans hE⟩)
          | (refine ⟨⟨q + 1, _, by omega, by go_num, rfl, by rw [ByteArray.size_append]; omega, hE.trans hE2⟩, ?_⟩; first | (simp [intOf]; omega) | (simp [intOf]) | omega)
          | (go_roundw; (case rel => exact ⟨q + 1, _, by omega, by go_num, rfl, by rw [ByteArray.size_append]; omega, hE.trans hE2⟩); (case measure => first | (simp [intOf]; omega) | (simp [intOf])))
      · have hi1 : ¬ (q : Int) < (text.size : Int) := by omega
        have h3 := H3 _ hE
        have h4 := H4 _ hE
        have hE9 := hE0.trans hE
        by_cases e1 : least = 0
        · have c1 : (least == 0) = true := by simp [e1]
          by_cases e2 : most = 1
          · have c2 : (most == 1) = true := by simp [e2]
            go_wp2
            go_ret
            exact ⟨⟨_, rfl, by simp only [ByteArray.size_append, bsz1]; omega⟩, hE9⟩
          · have c2 : (most == 1) = false := by simp [e2]
            go_wp2
            go_ret
            exact ⟨⟨_, rfl, by simp only [ByteArray.size_append, bsz1]; omega⟩, hE9⟩
        · have c1 : (least == 0) = false := by simp [e1]
          by_cases e2 : most = 1
          · have c2 : (most != 1) = false := by simp [e2]
            go_wp2
            go_ret
            exact ⟨⟨_, rfl, by simp only [ByteArray.size_append, bsz1]; omega⟩, hE9⟩
          · have c2 : (most != 1) = true := by simp [e2]
            go_wp2
            go_ret
            exact ⟨⟨_, rfl, by simp only [ByteArray.size_append, bsz1]; omega⟩, hE9⟩
end
end Go.Proofs.YtgnchicipmomlaaGreatDoor

/- The reference's scripts: lines, the text, what is valid. -/
namespace Go.Proofs.YtgnchicipmomlaaGreatDoor
open Go.RowKit
set_option maxRecDepth 100000
attribute [local go_sem] ext_refl_t ext_alloc_t ext_drew_t ext_drewN_t ext_alloc2_t ext_alloc3_t ext_alloc4_t ext_alloc5_t ext_alloc6_t ext_alloc7_t ext_alloc8_t ext_alloc1d_t ext_alloc2d_t ext_alloc3d_t ext_alloc4d_t
def SmR (x : Rul) : Prop := x.kind.size ≤ 16 ∧ x.items.length ≤ 20 ∧ ∀ i ∈ x.items, SmI i
def SmRn (x : Rul) : Prop := SmR x ∧ x.next.size ≤ 16
def SmT (x : Sta) : Prop := x.name.size ≤ 16 ∧ x.rules.length ≤ 40 ∧ ∀ r ∈ x.rules, SmRn r
def SmS (l : List Sta) : Prop := 1 ≤ l.length ∧ l.length ≤ 20 ∧ ∀ x ∈ l, SmT x
section
variable {w : World}
set_option maxHeartbeats 6400000 in
theorem line44_any {x : Rul} (hx : RulW w x) (hsm : SmRn x) :
    Calls Tryz.prog 40 #[rulV x] w fun e w' => RetStr 4100 e ∧ Ext w w' := by
  obtain ⟨⟨hk, hi, hI⟩, hn⟩ := hsm
  unfold rulV
  obtain ⟨kind, items, next, ⟨A, m, c⟩⟩ := x
  have hr := hx.i
  have hgk := hx.kind
  have hgn := hx.next
  unfold GoodStr at hgk hgn
  dsimp only at hr hgk hgn ⊢
  have HL := Lib.hid hr.sl.len
  have hle := hr.sl.le
  dsimp only at HL hle
  dsimp only at hk hi hI hn
  have HG := Lib.hid hr.good
  have HI := Lib.hid hI
  have hm20 : m ≤ 20 := by rw [HL.out]; exact hi
  have hr := hr.sl
  clear hi hI
  obtain ⟨W0, hW0⟩ : ∃ W0, W0 = w.alloc (Obj.cells #[.string kind, .slice A m c, .string next] 70) := ⟨_, rfl⟩
  have hb : Blk W0 w.heap.size 70 #[.string kind, .slice A m c, .string next] := by rw [hW0]; exact Blk.new w _ _
  have hE0 : Ext w W0 := by rw [hW0]; exact (Ext.refl w).alloc _
  have hs := hr.ext hE0
  clear hx hr
  go_enter Tryz.func40, Tryz.ntmps40
  go_wp2
  rw [← hW0]
  have H0 := laters (hb.cell 0)
  have H1 := laters (hb.cell 1)
  have H2 := laters (hb.cell 2)
  obtain ⟨g, hg⟩ : ∃ g, g = w.heap.size := ⟨_, rfl⟩
  rw [← hg] at hb H0 H1 H2 ⊢
  clear hW0 hg hb
  simp at H0 H1 H2
  have h0 := H0 _ (Ext.refl _)
  try go_wp2
  go_loopw [3, 4] (fun s i wr => ∃ (q : Nat) (t : ByteArray), q ≤ m ∧ i = .int .i64 q ∧ s = .string t ∧ t.size ≤ 16 + 201 * q ∧ Ext W0 wr) (fun _ i _ => m - (intOf i).toNat)
  case atStart => exact ⟨0, _, Nat.zero_le _, rfl, rfl, by omega, Ext.refl _⟩
  case round =>
    obtain ⟨q, t, hq, rfl, rfl, hts, hE⟩ := hrel
    have h1 := H1 _ hE
    by_cases hlt : q < m
    ·
      obtain ⟨b, off, e0, hbl, hcs⟩ := (hs.ext hE).at_ hlt (by omega)
      try dsimp only at e0
      subst e0
      have hlt1 : q < (items).length := by rw [← HL.out]; exact hlt
      have HM : Hid ((items)[q] ∈ items) := List.getElem_mem hlt1
      obtain ⟨y, hyq⟩ : ∃ y, y = (items)[q] := ⟨_, rfl⟩
      have y0 := hcs q hlt1 0 (by omega)
      have y1 := hcs q hlt1 1 (by omega)
      have y2 := hcs q hlt1 2 (by omega)
      have y3 := hcs q hlt1 3 (by omega)
      have y4 := hcs q hlt1 4 (by omega)
      simp only [← hyq, itmC, List.getElem_cons_zero, List.getElem_cons_succ, Nat.add_zero, ← Nat.add_assoc] at y0 y1 y2 y3 y4
      have hi1 : (q : Int) < (m : Int) := by omega
      rw [← hyq] at HM
      have HY := Lib.hid hyq
      clear hcs hyq
      go_wp2_with (first
        | (go_at_call 68; refine Hid.out ?_))
      refine Hid.mk_ ((item44_any (x := y) ((HG.out y HM.out).ext (hE0.trans hE)) (HI.out y HM.out)).mono ?_)
      rintro e w2 ⟨⟨t2, rfl, ht2⟩, hE2⟩
      go_wp2
      all_goals first
        | (go_ret; exact ⟨⟨_, rfl, by first | (intro h; cases h; done) | (intro h; simp at h; omega) | (intro h; omega) | omega⟩, hE0.trans hE⟩)
        | (refine ⟨⟨q + 1, _, by omega, by go_num, rfl, by simp only [ByteArray.size_append, bsz1]; omega, hE.trans hE2⟩, ?_⟩; first | (simp [intOf]; omega) | (simp [intOf]) | omega)
        | (go_roundw; (case rel => exact ⟨q + 1, _, by omega, by go_num, rfl, by simp only [ByteArray.size_append, bsz1]; omega, hE.trans hE2⟩); (case measure => first | (simp [intOf]; omega) | (simp [intOf])))
    · have hi1 : ¬ (q : Int) < (m : Int) := by omega
      have h2 := H2 _ hE
      go_wp2
      all_goals go_ret
      all_goals exact ⟨⟨_, rfl, by first | omega | (simp only [ByteArray.size_append, bsz4]; omega)⟩, hE0.trans hE⟩

set_option maxHeartbeats 6400000 in
theorem proper44_any {x : Rul} (hx : RulW w x) :
    Calls Tryz.prog 20 #[rulV x] w fun e w' => RetB (fun r => r = true → SmR x) e ∧ Ext w w' := by
  unfold rulV SmR
  obtain ⟨kind, items, next, ⟨A, m, c⟩⟩ := x
  have hr := hx.i
  have hgk := hx.kind
  have hgn := hx.next
  unfold GoodStr at hgk hgn
  dsimp only at hr hgk hgn ⊢
  have HL := Lib.hid hr.sl.len
  have hle := hr.sl.le
  dsimp only at HL hle
  have HG := Lib.hid hr.good
  have hr := hr.sl
  obtain ⟨W0, hW0⟩ : ∃ W0, W0 = w.alloc (Obj.cells #[.string kind, .slice A m c, .string next] 70) := ⟨_, rfl⟩
  have hb : Blk W0 w.heap.size 70 #[.string kind, .slice A m c, .string next] := by rw [hW0]; exact Blk.new w _ _
  have hE0 : Ext w W0 := by rw [hW0]; exact (Ext.refl w).alloc _
  have hs := hr.ext hE0
  clear hx hr
  go_enter Tryz.func20, Tryz.ntmps20
  go_wp2
  rw [← hW0]
  have H0 := laters (hb.cell 0)
  have H1 := laters (hb.cell 1)
  obtain ⟨g, hg⟩ : ∃ g, g = w.heap.size := ⟨_, rfl⟩
  rw [← hg] at hb H0 H1 ⊢
  clear hW0 hg hb
  simp at H0 H1
  go_loopw [3] (fun i wr => ∃ (q : Nat), q ≤ m ∧ i = .int .i64 q ∧ Hid (∀ j (_ : j < q) (h : j < items.length), SmI items[j]) ∧ Ext W0 wr) (fun i _ => m - (intOf i).toNat)
  case atStart => exact ⟨0, Nat.zero_le _, rfl, fun j hj => absurd hj (by omega), Ext.refl _⟩
  case round =>
    obtain ⟨q, hq, rfl, HC, hE⟩ := hrel
    have h1 := H1 _ hE
    by_cases hlt : q < m
    ·
      obtain ⟨b, off, e0, hbl, hcs⟩ := (hs.ext hE).at_ hlt (by omega)
      try dsimp only at e0
      subst e0
      have hlt1 : q < (items).length := by rw [← HL.out]; exact hlt
      have HM : Hid ((items)[q] ∈ items) := List.getElem_mem hlt1
      obtain ⟨y, hyq⟩ : ∃ y, y = (items)[q] := ⟨_, rfl⟩
      have y0 := hcs q hlt1 0 (by omega)
      have y1 := hcs q hlt1 1 (by omega)
      have y2 := hcs q hlt1 2 (by omega)
      have y3 := hcs q hlt1 3 (by omega)
      have y4 := hcs q hlt1 4 (by omega)
      simp only [← hyq, itmC, List.getElem_cons_zero, List.getElem_cons_succ, Nat.add_zero, ← Nat.add_assoc] at y0 y1 y2 y3 y4
      have hi1 : (q : Int) < (m : Int) := by omega
      rw [← hyq] at HM
      have HY := Lib.hid hyq
      clear hcs hyq
      go_wp2_with (first
        | (go_at_call 39; refine Hid.out ?_))
      refine Hid.mk_ ((Proper44_any (x := y) ((HG.out y HM.out).ext (hE0.trans hE))).mono ?_)
      rintro e w2 ⟨⟨r, rfl, hr⟩, hE2⟩
      cases r with
      | false =>
        clear hr
        go_wp2
        go_ret
        exact ⟨⟨_, rfl, by first | (intro h; cases h; done) | (intro h; simp at h; omega) | (intro h; omega) | omega⟩, (hE0.trans hE).trans hE2⟩
      | true =>
        have HN : Hid (∀ j (_ : j < q + 1) (h : j < items.length), SmI items[j]) := fun j hj h => by
          rcases Nat.lt_or_ge j q with h2 | h2
          · exact HC.out j h2 h
          · obtain rfl : j = q := by omega
            rw [← HY.out]; exact hr rfl
        clear hr
        go_wp2
        all_goals first
          | (go_ret; exact ⟨⟨_, rfl, by first | (intro h; cases h; done) | (intro h; simp at h; omega) | (intro h; omega) | omega⟩, hE0.trans hE⟩)
          | (refine ⟨⟨q + 1, by omega, by go_num, HN, hE.trans hE2⟩, ?_⟩; first | (simp [intOf]; omega) | (simp [intOf]) | omega)
          | (go_roundw; (case rel => exact ⟨q + 1, by omega, by go_num, HN, hE.trans hE2⟩); (case measure => first | (simp [intOf]; omega) | (simp [intOf])))
    · have hi1 : ¬ (q : Int) < (m : Int) := by omega
      have h0 := H0 _ hE
      go_wp2_with (first
        | (go_at_call 18; refine Hid.out ?_))
      refine Hid.mk_ ((word44_any kind hgk).mono ?_)
      rintro e w2 ⟨⟨r, rfl, hr⟩, hE2⟩
      have h1 := later hE2 h1
      cases r with
      | false =>
        clear hr
        go_wp2
        go_ret
        exact ⟨⟨_, rfl, by first | (intro h; cases h; done) | (intro h; simp at h; omega) | (intro h; omega) | omega⟩, (hE0.trans hE).trans hE2⟩
      | true =>
        have hk := hr rfl
        have HA : Hid (∀ i ∈ items, SmI i) := fun i hi => by
          obtain ⟨j, hj, rfl⟩ := List.mem_iff_getElem.1 hi
          exact HC.out j (by rw [← HL.out] at hj; omega) hj
        clear hr
        go_wp2
        all_goals go_ret
        all_goals exact ⟨⟨_, rfl, fun h => by first | (cases h; done) | (simp at h; exact ⟨hk, by rw [← HL.out]; omega, HA.out⟩)⟩, (hE0.trans hE).trans hE2⟩
end
end Go.Proofs.YtgnchicipmomlaaGreatDoor
