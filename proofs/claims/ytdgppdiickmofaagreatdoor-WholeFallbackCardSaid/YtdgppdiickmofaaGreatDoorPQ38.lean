/- The program's effective locales: what Effective holds; what its calls do. -/
import Derived.Test.YtdgppdiickmofaaGreatDoorPQ32
import Derived.Test.YtdgppdiickmofaaGreatDoorPQ33
import Derived.Test.YtdgppdiickmofaaGreatDoorPQ34
import Derived.Test.YtdgppdiickmofaaGreatDoorPQ35
import Derived.Test.YtdgppdiickmofaaGreatDoorPQ36
import Derived.Test.YtdgppdiickmofaaGreatDoorPQ27
import Derived.Test.YtdgppdiickmofaaGreatDoorPQ37
namespace Go.Proofs.YtdgppdiickmofaaGreatDoor
open Go.RowKit
set_option maxRecDepth 100000
attribute [local go_sem] ext_refl_t ext_alloc_t ext_drew_t ext_drewN_t ext_alloc2_t ext_alloc3_t ext_alloc4_t ext_alloc5_t ext_alloc6_t ext_alloc7_t ext_alloc8_t ext_alloc1d_t ext_alloc2d_t ext_alloc3d_t ext_alloc4d_t
theorem firstP_mem {α : Type} : ∀ {L : List (List α)} {x : α}, x ∈ firstP L → ∃ l ∈ L, x ∈ l
  | [], _, h => by cases h
  | [] :: r', x, h => by
    obtain ⟨l, h1, h2⟩ := firstP_mem (L := r') (show x ∈ firstP r' from h)
    exact ⟨l, List.mem_cons_of_mem _ h1, h2⟩
  | (a :: l) :: _, _, h => ⟨a :: l, List.mem_cons_self .., h⟩
theorem firstP_len {α : Type} {n : Nat} : ∀ {L : List (List α)}, (∀ l ∈ L, l.length ≤ n) → (firstP L).length ≤ n
  | [], _ => Nat.zero_le _
  | [] :: r, h => firstP_len (L := r) fun l hl => h l (List.mem_cons_of_mem _ hl)
  | (a :: l) :: _, h => h (a :: l) (List.mem_cons_self ..)
theorem firstP_map {α β : Type} (f : α → β) : ∀ L : List (List α), firstP (L.map (List.map f)) = (firstP L).map f
  | [] => rfl
  | [] :: r => firstP_map f r
  | (_ :: _) :: _ => rfl
structure SzX (x : LxH) : Prop where
  card : x.card.length ≤ 120
  ord : x.ord.length ≤ 120
  lst : x.lst.length ≤ 120
  unt : x.unt.length ≤ 120
  dat : x.dat.length ≤ 120
  mon : x.mon.length ≤ 120
  day : x.day.length ≤ 120
/-- What Effective holds while it gathers: the locales of the chain, and the block of its result, which it writes. -/
structure EfS (wb w wr : World) (g : Nat) (lx : List LxH) (A : Option Addr) (m : Nat) : Prop where
  bx : Ext wb w
  ext : Ext w wr
  sl : SlC lcC 16 wr A m (lx.map LxH.lc)
  ne : ob A ≠ some g
  ge : w.heap.size ≤ g
  lt : g < wr.heap.size
  dl : ∀ x ∈ lx, DLx wb x ∧ SzX x
  len : lx.length ≤ 12
/-- The blocks from the world's end to g. -/
abbrev SB (w : World) (g : Nat) : Nat → Prop := fun j => w.heap.size ≤ j ∧ j ≤ g
/-- What stores into these blocks do not touch. -/
def Stb (w : World) (g : Nat) (P : World → Prop) : Prop := ∀ {W W' : World}, P W → KpS (SB w g) W W' → P W'
theorem Stb.triv (w : World) (g : Nat) : Stb w g fun _ => True := fun _ _ => trivial
theorem Stb.and {w : World} {g : Nat} {P Q : World → Prop} (h : Stb w g P) (k : Stb w g Q) : Stb w g fun W => P W ∧ Q W := fun h1 h2 => ⟨h h1.1 h2, k h1.2 h2⟩
theorem Stb.drs (w : World) (g : Nat) (h : SlH) (l : List RxH) : Stb w g fun W => DRs W (SB w g) h l := fun h1 h2 => h1.kp h2
theorem Stb.hw {α : Type} {cs : α → List Value} {k by_ : Nat} {good : α → Prop} (w : World) (g : Nat) (h : SlH) (l : List α) : Stb w g fun W => HW cs k by_ good W h l ∧ ApS (SB w g) h := fun h1 h2 => ⟨HW.kp h2 h1.1 h1.2, h1.2⟩
section
variable {wb w W W' : World} {g : Nat} {lx : List LxH} {A : Option Addr} {m : Nat}
theorem EfS.ext_ (h : EfS wb w W g lx A m) (hE : Ext W W') : EfS wb w W' g lx A m := ⟨h.bx, h.ext.trans hE, h.sl.ext hE, h.ne, h.ge, Nat.lt_of_lt_of_le h.lt hE.size_le, h.dl, h.len⟩
theorem EfS.set_ (h : EfS wb w W g lx A m) (i : Nat) (u : Value) : EfS wb w (W.setCell ⟨g, i, none⟩ u) g lx A m :=
  ⟨h.bx, h.ext.grown (grownSet W ⟨g, i, none⟩ u) (fun j hj => by injection hj with hj; rw [← hj]; exact h.ge), (KpS.setCell W g i u).slc h.sl (.inr fun j hj e => h.ne (by rw [hj, e])), h.ne, h.ge, by rw [World.size_setCell]; exact h.lt, h.dl, h.len⟩
theorem DRs.less {w : World} {S S' : Nat → Prop} {h : SlH} {l : List RxH} (hh : DRs w S h l) (hs : ∀ j, S' j → S j) : DRs w S' h l := ⟨hh.1, ApS.less hh.2.1 hs, fun y hy => (hh.2.2 y hy).less hs⟩
/-- A locale with all that it holds, nothing of it in the blocks S. -/
structure DLy (w : World) (S : Nat → Prop) (x : LxH) : Prop where
  card : DRs w S x.lc.card x.card
  ord : DRs w S x.lc.ord x.ord
  lst : HW lpC 5 80 GdL w x.lc.lst x.lst ∧ ApS S x.lc.lst
  unt : HW upC 3 48 GdU w x.lc.unt x.unt ∧ ApS S x.lc.unt
  dat : HW dpC 2 32 GdD w x.lc.dat x.dat ∧ ApS S x.lc.dat
  mon : HW strF 1 16 (fun _ => True) w x.lc.mon x.mon ∧ ApS S x.lc.mon
  day : HW strF 1 16 (fun _ => True) w x.lc.day x.day ∧ ApS S x.lc.day
theorem DLy.kp {w w' : World} {S : Nat → Prop} {x : LxH} (h : DLy w S x) (hk : KpS S w w') : DLy w' S x := ⟨h.card.kp hk, h.ord.kp hk, ⟨HW.kp hk h.lst.1 h.lst.2, h.lst.2⟩, ⟨HW.kp hk h.unt.1 h.unt.2, h.unt.2⟩, ⟨HW.kp hk h.dat.1 h.dat.2, h.dat.2⟩, ⟨HW.kp hk h.mon.1 h.mon.2, h.mon.2⟩, ⟨HW.kp hk h.day.1 h.day.2, h.day.2⟩⟩
theorem DLy.less {w : World} {S S' : Nat → Prop} {x : LxH} (h : DLy w S x) (hs : ∀ j, S' j → S j) : DLy w S' x := ⟨h.card.less hs, h.ord.less hs, ⟨h.lst.1, h.lst.2.less hs⟩, ⟨h.unt.1, h.unt.2.less hs⟩, ⟨h.dat.1, h.dat.2.less hs⟩, ⟨h.mon.1, h.mon.2.less hs⟩, ⟨h.day.1, h.day.2.less hs⟩⟩
theorem DLy.dl {w : World} {S : Nat → Prop} {x : LxH} (h : DLy w S x) : DLx w x := ⟨h.card.less fun _ e => e.elim, h.ord.less fun _ e => e.elim, h.lst.1, h.unt.1, h.dat.1, h.mon.1, h.day.1⟩
def efZ (tag d : List UInt8) (s : SymP) (card ord lst unt dat mon day : SlH) : LcH := ⟨tag, [], d, card, ord, s.1, s.2.1, s.2.2.1, s.2.2.2.1, s.2.2.2.2.1, s.2.2.2.2.2, lst, unt, dat, mon, day⟩
abbrev lcZs : Array Value := #[.string ⟨#[]⟩, .string ⟨#[]⟩, .string ⟨#[]⟩, .slice none 0 0, .slice none 0 0, .string ⟨#[]⟩, .string ⟨#[]⟩, .string ⟨#[]⟩, .string ⟨#[]⟩, .int .i64 0, .int .i64 0, .slice none 0 0, .slice none 0 0, .slice none 0 0, .slice none 0 0, .slice none 0 0]
/-- The same with the two blocks of its result, and what is gathered. -/
structure EfT (wb w W : World) (g g4 : Nat) (lx : List LxH) (A : Option Addr) (m : Nat) (y : LcH) (P : World → Prop) : Prop where
  s : EfS wb w W g lx A m
  b : Blk W g 38 (lcC y).toArray
  b4 : Blk W g4 38 lcZs
  p : P W
  st : Stb wb g P
  g4 : w.heap.size ≤ g4 ∧ g4 < g
theorem EfT.ext_ {g4 : Nat} {y : LcH} {P : World → Prop} (h : EfT wb w W g g4 lx A m y P) (hE : Ext W W') : EfT wb w W' g g4 lx A m y P :=
  ⟨h.s.ext_ hE, h.b.below hE h.b.lt, h.b4.below hE h.b4.lt, h.st h.p (KpS.of_ext _ hE), h.st, h.g4⟩
theorem EfT.set_ {g4 : Nat} {y : LcH} {P : World → Prop} (h : EfT wb w W g g4 lx A m y P) (i : Nat) (u : Value) (y' : LcH) (hy : (lcC y).toArray.setIfInBounds i u = (lcC y').toArray) (Q : World → Prop) (hq : Q W) (hQ : Stb wb g Q) : EfT wb w (W.setCell ⟨g, i, none⟩ u) g g4 lx A m y' fun W => P W ∧ Q W := by
  have hk := (KpS.setCell W g i u)
  have hk2 : KpS (SB wb g) W (W.setCell ⟨g, i, none⟩ u) := hk.mono fun j _ e => by rw [e]; exact ⟨Nat.le_trans h.s.bx.size h.s.ge, Nat.le_refl _⟩
  exact ⟨h.s.set_ i u, by rw [← hy]; exact h.b.set_ i u, hk.blk h.b4 (fun e => by have := h.g4.2; omega), ⟨h.st h.p hk2, hQ hq hk2⟩, Stb.and h.st hQ, h.g4⟩
theorem stE1 (h : EfS wb w W g lx A m) (c : Nat) : Calls Tryz.prog 19 #[.slice A m c, .func (.func 20) #[] #[]] W fun e w' => (∃ h : SlH, e = .returned (.slice h.A h.m h.c) ∧ SlC shC 1 w' h.A h.m ((lx.map fun x => (x.lc.card, x.card)).map Prod.fst)) ∧ Ext W w' :=
  (each1_any (c := c) h.sl (by rw [List.length_map]; exact h.len)).mono fun e w' ⟨⟨h, h1, h2⟩, h3⟩ => ⟨⟨h, h1, by have h4 := h2.sl; rw [List.map_map] at h4; rw [List.map_map]; exact h4⟩, h3⟩
theorem stE2 (h : EfS wb w W g lx A m) (c : Nat) : Calls Tryz.prog 19 #[.slice A m c, .func (.func 21) #[] #[]] W fun e w' => (∃ h : SlH, e = .returned (.slice h.A h.m h.c) ∧ SlC shC 1 w' h.A h.m ((lx.map fun x => (x.lc.ord, x.ord)).map Prod.fst)) ∧ Ext W w' :=
  (each2_any (c := c) h.sl (by rw [List.length_map]; exact h.len)).mono fun e w' ⟨⟨h, h1, h2⟩, h3⟩ => ⟨⟨h, h1, by have h4 := h2.sl; rw [List.map_map] at h4; rw [List.map_map]; exact h4⟩, h3⟩
theorem stE3 (h : EfS wb w W g lx A m) (c : Nat) : Calls Tryz.prog 23 #[.slice A m c, .func (.func 24) #[] #[]] W fun e w' => (∃ h : SlH, e = .returned (.slice h.A h.m h.c) ∧ SlC shC 1 w' h.A h.m ((lx.map fun x => (x.lc.mon, x.mon)).map Prod.fst)) ∧ Ext W w' :=
  (each3_any (c := c) h.sl (by rw [List.length_map]; exact h.len)).mono fun e w' ⟨⟨h, h1, h2⟩, h3⟩ => ⟨⟨h, h1, by have h4 := h2.sl; rw [List.map_map] at h4; rw [List.map_map]; exact h4⟩, h3⟩
theorem stE4 (h : EfS wb w W g lx A m) (c : Nat) : Calls Tryz.prog 23 #[.slice A m c, .func (.func 25) #[] #[]] W fun e w' => (∃ h : SlH, e = .returned (.slice h.A h.m h.c) ∧ SlC shC 1 w' h.A h.m ((lx.map fun x => (x.lc.day, x.day)).map Prod.fst)) ∧ Ext W w' :=
  (each4_any (c := c) h.sl (by rw [List.length_map]; exact h.len)).mono fun e w' ⟨⟨h, h1, h2⟩, h3⟩ => ⟨⟨h, h1, by have h4 := h2.sl; rw [List.map_map] at h4; rw [List.map_map]; exact h4⟩, h3⟩
theorem stE5 (h : EfS wb w W g lx A m) (c : Nat) : Calls Tryz.prog 27 #[.slice A m c, .func (.func 28) #[] #[]] W fun e w' => (∃ h : SlH, e = .returned (.slice h.A h.m h.c) ∧ SlC shC 1 w' h.A h.m ((lx.map fun x => (x.lc.lst, x.lst)).map Prod.fst)) ∧ Ext W w' :=
  (each5_any (c := c) h.sl (by rw [List.length_map]; exact h.len)).mono fun e w' ⟨⟨h, h1, h2⟩, h3⟩ => ⟨⟨h, h1, by have h4 := h2.sl; rw [List.map_map] at h4; rw [List.map_map]; exact h4⟩, h3⟩
theorem stE7 (h : EfS wb w W g lx A m) (c : Nat) : Calls Tryz.prog 32 #[.slice A m c, .func (.func 33) #[] #[]] W fun e w' => (∃ h : SlH, e = .returned (.slice h.A h.m h.c) ∧ SlC shC 1 w' h.A h.m ((lx.map fun x => (x.lc.unt, x.unt)).map Prod.fst)) ∧ Ext W w' :=
  (each7_any (c := c) h.sl (by rw [List.length_map]; exact h.len)).mono fun e w' ⟨⟨h, h1, h2⟩, h3⟩ => ⟨⟨h, h1, by have h4 := h2.sl; rw [List.map_map] at h4; rw [List.map_map]; exact h4⟩, h3⟩
theorem stE10 (h : EfS wb w W g lx A m) (c : Nat) : Calls Tryz.prog 38 #[.slice A m c, .func (.func 39) #[] #[]] W fun e w' => (∃ h : SlH, e = .returned (.slice h.A h.m h.c) ∧ SlC shC 1 w' h.A h.m ((lx.map fun x => (x.lc.dat, x.dat)).map Prod.fst)) ∧ Ext W w' :=
  (each10_any (c := c) h.sl (by rw [List.length_map]; exact h.len)).mono fun e w' ⟨⟨h, h1, h2⟩, h3⟩ => ⟨⟨h, h1, by have h4 := h2.sl; rw [List.map_map] at h4; rw [List.map_map]; exact h4⟩, h3⟩
theorem stF1 (h : EfS wb w W g lx A m) {hh : SlH} (hs : SlC shC 1 W hh.A hh.m ((lx.map fun x => (x.lc.card, x.card)).map Prod.fst)) :
    Calls Tryz.prog 18 #[.slice hh.A hh.m hh.c] W fun e w' => (∃ h : SlH, e = .returned (.slice h.A h.m h.c) ∧ SlC rxC 2 w' h.A h.m (firstP (lx.map LxH.card))) ∧ Ext W w' :=
  (first1_any (c := hh.c) hs (by rw [List.length_map]; exact h.len) (fun x hx => by
    obtain ⟨y, hy, rfl⟩ := List.mem_map.1 hx
    have h1 := ((h.dl y hy).1.card.ext (h.bx.trans h.ext)).1
    exact ⟨h1.sl, h1.bd⟩)).mono fun e w' ⟨⟨h, h1, h2⟩, h3⟩ => ⟨⟨h, h1, by have h4 := h2.sl; rw [List.map_map] at h4; exact h4⟩, h3⟩
theorem stR1 (h : EfS wb w W g lx A m) {hh : SlH} (hs : SlC rxC 2 W hh.A hh.m (firstP (lx.map LxH.card))) :
    Calls Tryz.prog 17 #[.slice hh.A hh.m hh.c] W fun e w' => (∃ (h : SlH) (L' : List RxH), e = .returned (.slice h.A h.m h.c) ∧ DRs w' (SB wb g) h L' ∧ L'.length ≤ 120 ∧ L'.map plRx = firstP (lx.map fun x => x.card.map plRx)) ∧ Ext W w' := by
  have hlen : (firstP (lx.map LxH.card)).length ≤ 120 := firstP_len fun l hl => by obtain ⟨y, hy, rfl⟩ := List.mem_map.1 hl; exact (h.dl y hy).2.card
  have hm : hh.m ≤ 120 := by rw [hs.len]; exact hlen
  refine (rules_any (c := hh.c) hs (by omega) (S0 := SB wb g) (fun j e => Nat.lt_of_le_of_lt e.2 h.lt) (fun x hx => by
    obtain ⟨l, hl, hx2⟩ := firstP_mem hx
    obtain ⟨y, hy, rfl⟩ := List.mem_map.1 hl
    exact (((h.dl y hy).1.card.2.2 x hx2).more (S' := SB wb g) (fun j e => .inr e.1)).ext (h.bx.trans h.ext))).mono ?_
  rintro e w' ⟨⟨h7, L', rfl, ho, hp, hd⟩, hE⟩
  have h8 : L'.length ≤ 120 := by have := congrArg List.length hp; rw [List.length_map, List.length_map] at this; omega
  have h9 := ho.len
  refine ⟨⟨h7, L', rfl, ⟨⟨ho.sl, ho.cap, by omega, fun _ _ => trivial⟩, .inr fun j hj e => ?_, fun x hx => (hd x hx).less fun j e => .inl e⟩, h8, ?_⟩, hE⟩
  · have h1 := ho.ge j hj
    have h2 := h.lt
    have h3 := e.2
    omega
  · rw [hp, ← firstP_map, List.map_map]
    rfl
theorem stF2 (h : EfS wb w W g lx A m) {hh : SlH} (hs : SlC shC 1 W hh.A hh.m ((lx.map fun x => (x.lc.ord, x.ord)).map Prod.fst)) :
    Calls Tryz.prog 18 #[.slice hh.A hh.m hh.c] W fun e w' => (∃ h : SlH, e = .returned (.slice h.A h.m h.c) ∧ SlC rxC 2 w' h.A h.m (firstP (lx.map LxH.ord))) ∧ Ext W w' :=
  (first1_any (c := hh.c) hs (by rw [List.length_map]; exact h.len) (fun x hx => by
    obtain ⟨y, hy, rfl⟩ := List.mem_map.1 hx
    have h1 := ((h.dl y hy).1.ord.ext (h.bx.trans h.ext)).1
    exact ⟨h1.sl, h1.bd⟩)).mono fun e w' ⟨⟨h, h1, h2⟩, h3⟩ => ⟨⟨h, h1, by have h4 := h2.sl; rw [List.map_map] at h4; exact h4⟩, h3⟩
theorem stR2 (h : EfS wb w W g lx A m) {hh : SlH} (hs : SlC rxC 2 W hh.A hh.m (firstP (lx.map LxH.ord))) :
    Calls Tryz.prog 17 #[.slice hh.A hh.m hh.c] W fun e w' => (∃ (h : SlH) (L' : List RxH), e = .returned (.slice h.A h.m h.c) ∧ DRs w' (SB wb g) h L' ∧ L'.length ≤ 120 ∧ L'.map plRx = firstP (lx.map fun x => x.ord.map plRx)) ∧ Ext W w' := by
  have hlen : (firstP (lx.map LxH.ord)).length ≤ 120 := firstP_len fun l hl => by obtain ⟨y, hy, rfl⟩ := List.mem_map.1 hl; exact (h.dl y hy).2.ord
  have hm : hh.m ≤ 120 := by rw [hs.len]; exact hlen
  refine (rules_any (c := hh.c) hs (by omega) (S0 := SB wb g) (fun j e => Nat.lt_of_le_of_lt e.2 h.lt) (fun x hx => by
    obtain ⟨l, hl, hx2⟩ := firstP_mem hx
    obtain ⟨y, hy, rfl⟩ := List.mem_map.1 hl
    exact (((h.dl y hy).1.ord.2.2 x hx2).more (S' := SB wb g) (fun j e => .inr e.1)).ext (h.bx.trans h.ext))).mono ?_
  rintro e w' ⟨⟨h7, L', rfl, ho, hp, hd⟩, hE⟩
  have h8 : L'.length ≤ 120 := by have := congrArg List.length hp; rw [List.length_map, List.length_map] at this; omega
  have h9 := ho.len
  refine ⟨⟨h7, L', rfl, ⟨⟨ho.sl, ho.cap, by omega, fun _ _ => trivial⟩, .inr fun j hj e => ?_, fun x hx => (hd x hx).less fun j e => .inl e⟩, h8, ?_⟩, hE⟩
  · have h1 := ho.ge j hj
    have h2 := h.lt
    have h3 := e.2
    omega
  · rw [hp, ← firstP_map, List.map_map]
    rfl
theorem stF3 (h : EfS wb w W g lx A m) {hh : SlH} (hs : SlC shC 1 W hh.A hh.m ((lx.map fun x => (x.lc.mon, x.mon)).map Prod.fst)) :
    Calls Tryz.prog 22 #[.slice hh.A hh.m hh.c] W fun e w' => (∃ h : SlH, e = .returned (.slice h.A h.m h.c) ∧ HW strF 1 16 (fun _ => True) w' h (firstP (lx.map LxH.mon)) ∧ ApS (SB wb g) h) ∧ Ext W w' := by
  have hlen : (firstP (lx.map LxH.mon)).length ≤ 120 := firstP_len fun l hl => by obtain ⟨y, hy, rfl⟩ := List.mem_map.1 hl; exact (h.dl y hy).2.mon
  refine (first2_any (c := hh.c) hs (by rw [List.length_map]; exact h.len) (fun x hx => by
    obtain ⟨y, hy, rfl⟩ := List.mem_map.1 hx
    have h1 := HW.ext (h.dl y hy).1.mon (h.bx.trans h.ext)
    exact ⟨h1.sl, h1.bd⟩)).mono ?_
  rintro e w' ⟨⟨h7, rfl, ho⟩, hE⟩
  rw [List.map_map] at ho
  have ho' : OsC strF 9 1 w' W.heap.size h7.A h7.m h7.c (firstP (lx.map LxH.mon)) := ho
  have h9 := ho'.len
  exact ⟨⟨h7, rfl, ⟨ho'.sl, ho'.cap, by omega, fun _ _ => trivial⟩, .inr fun j hj e => by have h1 := ho'.ge j hj; have h2 := h.lt; have h3 := e.2; omega⟩, hE⟩
theorem stF4 (h : EfS wb w W g lx A m) {hh : SlH} (hs : SlC shC 1 W hh.A hh.m ((lx.map fun x => (x.lc.day, x.day)).map Prod.fst)) :
    Calls Tryz.prog 22 #[.slice hh.A hh.m hh.c] W fun e w' => (∃ h : SlH, e = .returned (.slice h.A h.m h.c) ∧ HW strF 1 16 (fun _ => True) w' h (firstP (lx.map LxH.day)) ∧ ApS (SB wb g) h) ∧ Ext W w' := by
  have hlen : (firstP (lx.map LxH.day)).length ≤ 120 := firstP_len fun l hl => by obtain ⟨y, hy, rfl⟩ := List.mem_map.1 hl; exact (h.dl y hy).2.day
  refine (first2_any (c := hh.c) hs (by rw [List.length_map]; exact h.len) (fun x hx => by
    obtain ⟨y, hy, rfl⟩ := List.mem_map.1 hx
    have h1 := HW.ext (h.dl y hy).1.day (h.bx.trans h.ext)
    exact ⟨h1.sl, h1.bd⟩)).mono ?_
  rintro e w' ⟨⟨h7, rfl, ho⟩, hE⟩
  rw [List.map_map] at ho
  have ho' : OsC strF 9 1 w' W.heap.size h7.A h7.m h7.c (firstP (lx.map LxH.day)) := ho
  have h9 := ho'.len
  exact ⟨⟨h7, rfl, ⟨ho'.sl, ho'.cap, by omega, fun _ _ => trivial⟩, .inr fun j hj e => by have h1 := ho'.ge j hj; have h2 := h.lt; have h3 := e.2; omega⟩, hE⟩
theorem stM5 (h : EfS wb w W g lx A m) {hh : SlH} (hs : SlC shC 1 W hh.A hh.m ((lx.map fun x => (x.lc.lst, x.lst)).map Prod.fst)) :
    Calls Tryz.prog 26 #[.slice hh.A hh.m hh.c, .func (.func 29) #[] #[], .func (.func 30) #[] #[]] W fun e w' => (∃ (h : SlH) (r : List LpP), e = .returned (.slice h.A h.m h.c) ∧ (HW lpC 5 80 GdL w' h r ∧ ApS (SB wb g) h) ∧ MgP LpP.st cmpL (lx.map LxH.lst).flatten r) ∧ Ext W w' := by
  refine (mergedL_any (c := hh.c) hs (by rw [List.length_map]; exact h.len) (fun x hx => by
    obtain ⟨y, hy, rfl⟩ := List.mem_map.1 hx
    exact ⟨HW.ext (h.dl y hy).1.lst (h.bx.trans h.ext), (h.dl y hy).2.lst⟩)).mono ?_
  rintro e w' ⟨⟨h7, r, rfl, hge, hw, hm⟩, hE⟩
  rw [List.map_map] at hm
  exact ⟨⟨h7, r, rfl, ⟨hw, .inr fun j hj e => by have h1 := hge j hj; have h2 := h.lt; have h3 := e.2; omega⟩, hm⟩, hE⟩
theorem stM7 (h : EfS wb w W g lx A m) {hh : SlH} (hs : SlC shC 1 W hh.A hh.m ((lx.map fun x => (x.lc.unt, x.unt)).map Prod.fst)) :
    Calls Tryz.prog 31 #[.slice hh.A hh.m hh.c, .func (.func 34) #[] #[], .func (.func 35) #[] #[]] W fun e w' => (∃ (h : SlH) (r : List UpP), e = .returned (.slice h.A h.m h.c) ∧ (HW upC 3 48 GdU w' h r ∧ ApS (SB wb g) h) ∧ MgP upK cmpQ (lx.map LxH.unt).flatten r) ∧ Ext W w' := by
  refine (mergedU_any (c := hh.c) hs (by rw [List.length_map]; exact h.len) (fun x hx => by
    obtain ⟨y, hy, rfl⟩ := List.mem_map.1 hx
    exact ⟨HW.ext (h.dl y hy).1.unt (h.bx.trans h.ext), (h.dl y hy).2.unt⟩)).mono ?_
  rintro e w' ⟨⟨h7, r, rfl, hge, hw, hm⟩, hE⟩
  rw [List.map_map] at hm
  exact ⟨⟨h7, r, rfl, ⟨hw, .inr fun j hj e => by have h1 := hge j hj; have h2 := h.lt; have h3 := e.2; omega⟩, hm⟩, hE⟩
theorem stM10 (h : EfS wb w W g lx A m) {hh : SlH} (hs : SlC shC 1 W hh.A hh.m ((lx.map fun x => (x.lc.dat, x.dat)).map Prod.fst)) :
    Calls Tryz.prog 37 #[.slice hh.A hh.m hh.c, .func (.func 40) #[] #[], .func (.func 30) #[] #[]] W fun e w' => (∃ (h : SlH) (r : List DpP), e = .returned (.slice h.A h.m h.c) ∧ (HW dpC 2 32 GdD w' h r ∧ ApS (SB wb g) h) ∧ MgP DpP.sk cmpL (lx.map LxH.dat).flatten r) ∧ Ext W w' := by
  refine (mergedD_any (c := hh.c) hs (by rw [List.length_map]; exact h.len) (fun x hx => by
    obtain ⟨y, hy, rfl⟩ := List.mem_map.1 hx
    exact ⟨HW.ext (h.dl y hy).1.dat (h.bx.trans h.ext), (h.dl y hy).2.dat⟩)).mono ?_
  rintro e w' ⟨⟨h7, r, rfl, hge, hw, hm⟩, hE⟩
  rw [List.map_map] at hm
  exact ⟨⟨h7, r, rfl, ⟨hw, .inr fun j hj e => by have h1 := hge j hj; have h2 := h.lt; have h3 := e.2; omega⟩, hm⟩, hE⟩
end
end Go.Proofs.YtdgppdiickmofaaGreatDoor
