/- The updater in memory: its maps, its report; add. -/
import Derived.Test.YtgnchicipmomlaaGreatDoorPK27
import Derived.Test.YtgnchicipmomlaaGreatDoorPK21
namespace Go.Proofs.YtgnchicipmomlaaGreatDoor
open Go.RowKit
set_option maxRecDepth 100000
attribute [local go_sem] ext_refl_t ext_alloc_t ext_drew_t ext_drewN_t ext_alloc2_t ext_alloc3_t ext_alloc4_t ext_alloc5_t ext_alloc6_t ext_alloc7_t ext_alloc8_t ext_alloc1d_t ext_alloc2d_t ext_alloc3d_t ext_alloc4d_t
theorem lt_heap {w : World} {g : Nat} {o : Obj} (h : w.heap[g]? = some o) : g < w.heap.size := (Array.getElem?_eq_some_iff.1 h).1
/-- All blocks but those of S are as they were. -/
structure KpS (S : Nat → Prop) (w w' : World) : Prop where
  below : Below 0 w w'
  block : ∀ k, k < w.heap.size → ¬ S k → w'.heap[k]? = w.heap[k]?
section
variable {S S' : Nat → Prop} {w w' w1 w2 : World}
theorem KpS.refl (S : Nat → Prop) (w : World) : KpS S w w := ⟨Below.refl _ _, fun _ _ _ => rfl⟩
theorem KpS.of_ext (S : Nat → Prop) (h : Ext w w') : KpS S w w' := ⟨Below.mono h (Nat.zero_le _), fun k hk _ => h.block k hk⟩
theorem KpS.size (h : KpS S w w') : w.heap.size ≤ w'.heap.size := h.below.size
theorem KpS.trans (h : KpS S w w1) (k : KpS S' w1 w2) (hS : ∀ j, j < w.heap.size → S' j → S j) : KpS S w w2 :=
  ⟨h.below.trans k.below, fun j hj hn => (k.block j (Nat.lt_of_lt_of_le hj h.size) (fun e => hn (hS j hj e))).trans (h.block j hj hn)⟩
theorem KpS.ext (h : KpS S w w1) (k : Ext w1 w2) : KpS S w w2 := h.trans (KpS.of_ext (fun _ => False) k) (fun _ _ e => e.elim)
theorem KpS.mono (h : KpS S w w') (hS : ∀ j, j < w.heap.size → S j → S' j) : KpS S' w w' := ⟨h.below, fun j hj hn => h.block j hj fun e => hn (hS j hj e)⟩
theorem KpS.toBelow {B : Nat} (h : KpS S w w') (hB : B ≤ w.heap.size) (hS : ∀ j, S j → B ≤ j) : Below B w w' :=
  ⟨h.below.os, h.below.tape, h.below.output, h.below.size, fun k hk => h.block k (by omega) fun e => by have := hS k e; omega⟩
theorem KpS.cell (h : KpS S w w') {p : Addr} {v : Value} (hp : ¬ S p.block) (hv : w.cell? p = some v) : w'.cell? p = some v := by
  have hlt : p.block < w.heap.size := World.block_lt_of_cell? w _ hv
  rw [← hv]
  exact World.cell?_of_block (h.block p.block hlt hp)
theorem KpS.grown {r : Option Nat} (h : w.grownBy w' r) : KpS (fun k => r = some k) w w' := ⟨⟨h.os, h.tape, h.output, h.size, fun _ hk => absurd hk (Nat.not_lt_zero _)⟩, fun k hk hn => h.block k hk fun e => hn e.symm⟩
theorem KpS.setCell (w : World) (b i : Nat) (v : Value) : KpS (fun k => k = b) w (w.setCell ⟨b, i, none⟩ v) :=
  ⟨(Below.refl 0 w).setCell (p := ⟨b, i, none⟩) (Nat.zero_le _) _, fun k _ hn => Below.heap_setCell w _ v k hn⟩
theorem KpS.blk {g : Nat} {t : TypeId} {cs : Array Value} (h : KpS S w w') (hb : Blk w g t cs) (hg : ¬ S g) : Blk w' g t cs := (h.block g hb.lt hg).trans hb
theorem KpS.slc {α : Type} {cs : α → List Value} {k : Nat} {A : Option Addr} {m : Nat} {l : List α} (hk : KpS S w w') (hs : SlC cs k w A m l) (hA : m = 0 ∨ ∀ g, ob A = some g → ¬ S g) : SlC cs k w' A m l := by
  rcases hA with rfl | hA
  · have hl : l = [] := List.eq_nil_of_length_eq_zero hs.len.symm
    subst hl
    exact ⟨⟨by simp, fun hn => absurd hn (by omega)⟩, hs.one, rfl, by omega⟩
  · refine ⟨⟨hs.rd.1, fun hn => ?_⟩, hs.one, hs.len, hs.le⟩
    obtain ⟨ad, e, hb, hc⟩ := hs.rd.2 hn
    refine ⟨ad, e, Nat.lt_of_lt_of_le hb hk.size, fun j u hu => hk.cell ?_ (hc j u hu)⟩
    rw [block_of_add]
    exact hA _ (by rw [e]; rfl)
theorem KpS.osc {α : Type} {cs : α → List Value} {e : TypeId} {k : Nat} {base : Nat} {A : Option Addr} {m c : Nat} {l : List α} (hk : KpS S w w') (h : OsC cs e k w base A m c l) (hA : ∀ g, ob A = some g → ¬ S g) : OsC cs e k w' base A m c l := by
  cases ha : ob A with
  | none =>
    refine ⟨⟨h.own.1, ?_⟩, h.one, h.cell, h.len, h.le⟩
    rcases h.own.2 with hv | ⟨g', cap, cur, hv, _⟩
    · exact .inl hv
    · injection hv with hv
      rw [hv] at ha
      cases ha
  | some g =>
    refine ⟨⟨h.own.1, ?_⟩, h.one, h.cell, h.len, h.le⟩
    rcases h.own.2 with hv | ⟨g', cap, cur, hv, hbg, hb, r⟩
    · exact .inl hv
    · have hv2 := hv
      injection hv2 with hv2
      exact .inr ⟨g', cap, cur, hv, hbg, (hk.block g' (lt_heap hb) (hA g' (by rw [hv2]; rfl))).trans hb, r⟩
/-- A slice does not lie in S. -/
def ApS (S : Nat → Prop) (h : SlH) : Prop := h.m = 0 ∨ ∀ g, ob h.A = some g → ¬ S g
theorem ApS.of_apart {h : SlH} (ha : ∀ g, S g → Apart (some g) h) : ApS S h := by
  rcases Nat.eq_zero_or_pos h.m with h0 | h0
  · exact .inl h0
  · refine .inr fun g hg hS => ?_
    rcases ha g hS with h1 | h1 | h1
    · omega
    · rw [h1] at hg; cases hg
    · exact h1 hg
theorem ApS.of_ge {h : SlH} {B : Nat} (hn : ∀ k, ob h.A = some k → B ≤ k) (hS : ∀ g, S g → g < B) : ApS S h := .inr fun g hg hs => by
  have h1 := hn g hg
  have h2 := hS g hs
  omega
theorem ApS.mono {h : SlH} (ha : ApS S h) (hS : ∀ g, (∀ m, h.m = m + 1 → ob h.A = some g) → S' g → S g) : ApS S' h := by
  rcases ha with ha | ha
  · exact .inl ha
  · refine .inr fun g hg hs => ha g hg (hS g (fun _ _ => hg) hs)
theorem HW.kp {α : Type} {cs : α → List Value} {k by_ : Nat} {good : α → Prop} {h : SlH} {l : List α} (hk : KpS S w w') (hh : HW cs k by_ good w h l) (ha : ApS S h) : HW cs k by_ good w' h l := ⟨hk.slc hh.sl ha, hh.cap, hh.bd, hh.good⟩
def EntS (S : Nat → Prop) (x : Ent) : Prop := ApS S x.c ∧ ApS S x.f ∧ ApS S x.d
theorem EntW.kp {x : Ent} (hk : KpS S w w') (h : EntW w x) (ha : EntS S x) : EntW w' x := ⟨HW.kp hk h.c ha.1, HW.kp hk h.f ha.2.1, HW.kp hk h.d ha.2.2, h.id, h.src, h.tgt, h.st⟩
theorem ApS.lt {α : Type} {cs : α → List Value} {k by_ : Nat} {good : α → Prop} {h : SlH} {l : List α} (hh : HW cs k by_ good w h l) (ha : ApS S h) (hS : ∀ g, S' g → S g ∨ w.heap.size ≤ g) : ApS S' h := by
  rcases Nat.eq_zero_or_pos h.m with h0 | h0
  · exact .inl h0
  · rcases ha with ha | ha
    · exact .inl ha
    · refine .inr fun g hg hs => ?_
      rcases hS g hs with h1 | h1
      · exact ha g hg h1
      · obtain ⟨ad, hA, hb, _⟩ := hh.sl.rd.2 h0
        rw [hA] at hg
        injection hg with hg
        omega
theorem EntS.lt {x : Ent} (h : EntW w x) (ha : EntS S x) (hS : ∀ g, S' g → S g ∨ w.heap.size ≤ g) : EntS S' x := ⟨ApS.lt h.c ha.1 hS, ApS.lt h.f ha.2.1 hS, ApS.lt h.d ha.2.2 hS⟩
theorem EntS.of_ent {x : Ent} (h : ∀ g, S g → EntA (some g) x) : EntS S x := ⟨.of_apart fun g hg => (h g hg).1, .of_apart fun g hg => (h g hg).2.1, .of_apart fun g hg => (h g hg).2.2⟩
end
open Go.Maps
/-- Block bm is a map of at most n numbers, F. -/
def IM (w : World) (bm n : Nat) (F : ByteArray → Option Nat) : Prop :=
  ∃ D : DataW Unit, w.ownsMap Tryz.prog 9 (plainElem Tryz.prog 3) bm n D ∧ ∀ s : ByteArray, s.size ≤ maxLen → Maps.has D (.string s.data.toList) = (F s).isSome ∧ D.atKey (.string s.data.toList) (.lit (.int .i64 0)) = .lit (.int .i64 (((F s).getD 0 : Nat) : Int))
theorem zero_i (w : World) : (zeroValue 3).run Tryz.prog w = .ok (.int .i64 0) w := by kernel_rfl
open Classical in
noncomputable def updI (F : ByteArray → Option Nat) (s : ByteArray) (n : Nat) : ByteArray → Option Nat := fun t => if t = s then some n else F t
section
variable {w w' : World} {bm n : Nat} {F : ByteArray → Option Nat}
theorem IM.lt (h : IM w bm n F) : bm < w.heap.size := by obtain ⟨D, ho, _⟩ := h; exact ho.lt
theorem IM.kept {r : Option Nat} (h : IM w bm n F) (hg : w.grownBy w' r) (hr : some bm ≠ r) : IM w' bm n F := by
  obtain ⟨D, ho, hv⟩ := h
  exact ⟨D, ho.kept hg hr, hv⟩
theorem IM.ext (h : IM w bm n F) (hE : Ext w w') : IM w' bm n F := h.kept (hE.grownBy none) (by simp)
theorem IM.made (w : World) : IM (w.alloc (.map #[] 0)) w.heap.size 0 fun _ => none :=
  ⟨.map [], World.ownsMap_made _ _ _ _, fun _ _ => ⟨rfl, rfl⟩⟩
theorem IM.look (h : IM w bm n F) (s : ByteArray) (hs : s.size ≤ maxLen) : (Instr.lookup 49 (.map (some bm)) (.string s) true).run Tryz.prog w = .ok (.tuple #[.int .i64 (((F s).getD 0 : Nat) : Int), .bool (F s).isSome]) w := by
  obtain ⟨D, ho, hv⟩ := h
  obtain ⟨v, ps, hrun, hR⟩ := ho.look_ok keyedS Tryz.underlying49 (zero_i w) (plainElem_int Tryz.underlying3 (a := 0) (by decide)) (keyS s hs)
  obtain ⟨h1, h2⟩ := hv s hs
  rw [h2] at hR
  have e : v = .int .i64 (((F s).getD 0 : Nat) : Int) := by
    unfold plainElem at hR
    rw [Tryz.underlying3] at hR
    cases v <;> simp at hR
    rw [hR.1.1, hR.2.1]
  rw [← e, ← h1]
  exact hrun
theorem wf_nat {x : Nat} (h : x ≤ 1000000000000) : (Lit.int .i64 (x : Int)).wf = true := by
  simp [Lit.wf, IntKind.min, IntKind.max, IntKind.signed, IntKind.bits]
  omega
theorem IM.store (h : IM w bm n F) (hn : n < maxLen) (s : ByteArray) (hs : s.size ≤ maxLen) (x : Nat) (hx : x ≤ 1000000000000) :
    ∃ w', (Instr.mapUpdate 49 (.map (some bm)) (.string s) (.int .i64 (x : Int))).run Tryz.prog w = .ok () w' ∧ IM w' bm (n + 1) (updI F s x) ∧ w.grownBy w' (some bm) := by
  obtain ⟨D, ho, hv⟩ := h
  obtain ⟨w', hrun, ho', hg⟩ := ho.update keyedS Tryz.underlying49 hn (keyS s hs) (plainElem_int Tryz.underlying3 (a := (x : Int)) (wf_nat hx))
  refine ⟨w', hrun, ⟨_, ho', fun t ht => ?_⟩, hg⟩
  unfold updI
  by_cases hk : t = s
  · subst hk
    rw [if_pos rfl]
    exact ⟨has_put_same ho.isMap (keyedS.key (keyS t hs)) _, atKey_put_same ho.isMap (keyedS.key (keyS t hs)) _ _⟩
  · rw [if_neg hk]
    have hne : (Lit.string t.data.toList) ≠ Lit.string s.data.toList := fun e => by
      injection e with e
      exact hk (bys_inj e)
    rw [has_put_other hne, atKey_put_other hne]
    exact hv t ht
end
open Classical in
theorem SM.stores {w : World} {bm n : Nat} {S : List ByteArray} (h : SM w bm n S) (hn : n < maxLen) (s : ByteArray) (hs : s.size ≤ maxLen) :
    ∃ w', (Instr.mapUpdate 50 (.map (some bm)) (.string s) (.bool true)).run Tryz.prog w = .ok () w' ∧ SM w' bm (n + 1) (S ++ [s]) ∧ w.grownBy w' (some bm) := h.store hn s hs
/-- The lists of a report, by index. -/
def repL (r : Rep) : Nat → List ByteArray
  | 0 => r.kept
  | 1 => r.changed
  | 2 => r.revived
  | 3 => r.reused
  | 4 => r.added
  | 5 => r.obs
  | 6 => r.removed
  | _ => []
/-- A report with an ID added to list i. -/
def addR (r : Rep) (i : Nat) (s : ByteArray) : Rep :=
  match i with
  | 0 => { r with kept := r.kept ++ [s] }
  | 1 => { r with changed := r.changed ++ [s] }
  | 2 => { r with revived := r.revived ++ [s] }
  | 3 => { r with reused := r.reused ++ [s] }
  | 4 => { r with added := r.added ++ [s] }
  | 5 => { r with obs := r.obs ++ [s] }
  | 6 => { r with removed := r.removed ++ [s] }
  | _ => r
theorem repL_add (r : Rep) (i : Nat) (s : ByteArray) (hi : i < 7) (j : Nat) (hj : j < 7) : repL (addR r i s) j = if j = i then repL r i ++ [s] else repL r j := by
  rcases (by omega : i = 0 ∨ i = 1 ∨ i = 2 ∨ i = 3 ∨ i = 4 ∨ i = 5 ∨ i = 6) with rfl | rfl | rfl | rfl | rfl | rfl | rfl <;>
  rcases (by omega : j = 0 ∨ j = 1 ∨ j = 2 ∨ j = 3 ∨ j = 4 ∨ j = 5 ∨ j = 6) with rfl | rfl | rfl | rfl | rfl | rfl | rfl <;> rfl
/-- The cells of an updater. -/
def updA (x : Cat) (R : Nat → SlH) (bi bt : Nat) : Array Value :=
  #[.string x.tag, .slice x.c.A x.c.m x.c.c, .slice x.d.A x.d.m x.d.c, .slice x.e.A x.e.m x.e.c, .slice (R 0).A (R 0).m (R 0).c, .slice (R 1).A (R 1).m (R 1).c, .slice (R 2).A (R 2).m (R 2).c, .slice (R 3).A (R 3).m (R 3).c, .slice (R 4).A (R 4).m (R 4).c, .slice (R 5).A (R 5).m (R 5).c, .slice (R 6).A (R 6).m (R 6).c, .map (some bi), .map (some bt)]
theorem updA_set (x : Cat) (R : Nat → SlH) (bi bt i : Nat) (hi : i < 7) (h : SlH) : (updA x R bi bt).setIfInBounds (4 + i) (.slice h.A h.m h.c) = updA x (fun j => if j = i then h else R j) bi bt := by
  rcases (by omega : i = 0 ∨ i = 1 ∨ i = 2 ∨ i = 3 ∨ i = 4 ∨ i = 5 ∨ i = 6) with rfl | rfl | rfl | rfl | rfl | rfl | rfl <;> rfl
theorem updA_at (x : Cat) (R : Nat → SlH) (bi bt i : Nat) (hi : i < 7) : (updA x R bi bt)[4 + i]? = some (.slice (R i).A (R i).m (R i).c) := by
  rcases (by omega : i = 0 ∨ i = 1 ∨ i = 2 ∨ i = 3 ∨ i = 4 ∨ i = 5 ∨ i = 6) with rfl | rfl | rfl | rfl | rfl | rfl | rfl <;> rfl
/-- The updater's blocks. -/
def UpB (U bi bt : Nat) (R : Nat → SlH) (g : Nat) : Prop := g = U ∨ g = bi ∨ g = bt ∨ ∃ i, i < 7 ∧ ob (R i).A = some g
/-- An updater in block U; its blocks are not below B. -/
structure UpS (w : World) (B U : Nat) (x : Cat) (R : Nat → SlH) (bi ni bt nt : Nat) (F : ByteArray → Option Nat) (r : Rep) (tk : List ByteArray) : Prop where
  blk : Blk w U 52 (updA x R bi bt)
  rows : ∀ i, i < 7 → OsC strF 9 1 w B (R i).A (R i).m (R i).c (repL r i)
  dist : ∀ i j, i < 7 → j < 7 → i ≠ j → ∀ g, ob (R i).A = some g → ob (R j).A ≠ some g
  im : IM w bi ni F
  sm : SM w bt nt tk
  ne : bi ≠ bt
  geU : B ≤ U
  geI : B ≤ bi
  geT : B ≤ bt
theorem IM.ne_blk {w : World} {g bm n : Nat} {F : ByteArray → Option Nat} {t : TypeId} {cs : Array Value} (h : IM w bm n F) (hb : Blk w g t cs) : g ≠ bm := by
  intro e
  obtain ⟨D, ⟨es, clock, h1, _⟩, _⟩ := h
  unfold Blk at hb
  rw [e, h1] at hb
  cases hb
theorem SM.ne_blk {w : World} {g bm n : Nat} {S : List ByteArray} {t : TypeId} {cs : Array Value} (h : SM w bm n S) (hb : Blk w g t cs) : g ≠ bm := by
  intro e
  obtain ⟨D, ⟨es, clock, h1, _⟩, _⟩ := h
  unfold Blk at hb
  rw [e, h1] at hb
  cases hb
theorem OsC.blk_ {α : Type} {cs : α → List Value} {e : TypeId} {k : Nat} {w : World} {base : Nat} {A : Option Addr} {m c : Nat} {l : List α} (h : OsC cs e k w base A m c l) {g : Nat} (hg : ob A = some g) : ∃ xs, Blk w g e xs := by
  rcases h.own.2 with ⟨hv, _⟩ | ⟨g', cap, cur, hv, _, hh, _⟩
  · injection hv with hv
    rw [hv] at hg
    cases hg
  · injection hv with hv
    rw [hv] at hg
    injection hg with hg
    subst hg
    exact ⟨cur, hh⟩
theorem IM.kp {S : Nat → Prop} {w w' : World} {bm n : Nat} {F : ByteArray → Option Nat} (hk : KpS S w w') (h : IM w bm n F) (hb : ¬ S bm) : IM w' bm n F := by
  have hlt := h.lt
  obtain ⟨D, ⟨es, clock, h1, h2⟩, hv⟩ := h
  exact ⟨D, ⟨es, clock, (hk.block bm hlt hb).trans h1, h2⟩, hv⟩
theorem SM.kp {S : Nat → Prop} {w w' : World} {bm n : Nat} {L : List ByteArray} (hk : KpS S w w') (h : SM w bm n L) (hb : ¬ S bm) : SM w' bm n L := by
  have hlt := h.lt
  obtain ⟨D, ⟨es, clock, h1, h2⟩, hv⟩ := h
  exact ⟨D, ⟨es, clock, (hk.block bm hlt hb).trans h1, h2⟩, hv⟩
section
variable {w w' : World} {B U : Nat} {x : Cat} {R : Nat → SlH} {bi ni bt nt : Nat} {F : ByteArray → Option Nat} {r : Rep} {tk : List ByteArray}
theorem UpS.lt (h : UpS w B U x R bi ni bt nt F r tk) {g : Nat} (hg : UpB U bi bt R g) : g < w.heap.size := by
  rcases hg with rfl | rfl | rfl | ⟨i, hi, hg⟩
  · exact h.blk.lt
  · exact h.im.lt
  · exact h.sm.lt
  · exact (h.rows i hi).lt g hg
theorem UpS.ge (h : UpS w B U x R bi ni bt nt F r tk) {g : Nat} (hg : UpB U bi bt R g) : B ≤ g := by
  rcases hg with rfl | rfl | rfl | ⟨i, hi, hg⟩
  · exact h.geU
  · exact h.geI
  · exact h.geT
  · exact (h.rows i hi).ge g hg
theorem UpS.kp {S : Nat → Prop} (h : UpS w B U x R bi ni bt nt F r tk) (hk : KpS S w w') (hS : ∀ g, UpB U bi bt R g → ¬ S g) : UpS w' B U x R bi ni bt nt F r tk :=
  ⟨hk.blk h.blk (hS _ (.inl rfl)), fun i hi => hk.osc (h.rows i hi) fun g hg => hS g (.inr (.inr (.inr ⟨i, hi, hg⟩))), h.dist, h.im.kp hk (hS _ (.inr (.inl rfl))), h.sm.kp hk (hS _ (.inr (.inr (.inl rfl)))), h.ne, h.geU, h.geI, h.geT⟩
theorem UpS.ext (h : UpS w B U x R bi ni bt nt F r tk) (hE : Ext w w') : UpS w' B U x R bi ni bt nt F r tk := h.kp (KpS.of_ext (fun _ => False) hE) fun _ _ e => e
/-- A list of the report has grown. -/
theorem UpS.added (h : UpS w B U x R bi ni bt nt F r tk) {i : Nat} (hi : i < 7) {id : ByteArray} {A' : Option Addr} {m' c' : Nat} (ho : OsC strF 9 1 w' B A' m' c' (repL r i ++ [id])) (hg : w.grownBy w' (ob (R i).A)) (hN : NewOr w.heap.size (ob (R i).A) (ob A')) :
    UpS (w'.setCell ⟨U, 4 + i, none⟩ (.slice A' m' c')) B U x (fun j => if j = i then ⟨A', m', c'⟩ else R j) bi ni bt nt F (addR r i id) tk ∧
    (∀ g, UpB U bi bt (fun j => if j = i then ⟨A', m', c'⟩ else R j) g → UpB U bi bt R g ∨ w.heap.size ≤ g) ∧ KpS (UpB U bi bt R) w (w'.setCell ⟨U, 4 + i, none⟩ (.slice A' m' c')) := by
  have hk := KpS.grown hg
  have hUr : ¬ ob (R i).A = some U := fun e => by
    obtain ⟨xs, hb⟩ := (h.rows i hi).blk_ e
    exact hb.ne_ h.blk (by decide) rfl
  have hbI : ¬ ob (R i).A = some bi := fun e => by
    obtain ⟨xs, hb⟩ := (h.rows i hi).blk_ e
    exact h.im.ne_blk hb rfl
  have hbT : ¬ ob (R i).A = some bt := fun e => by
    obtain ⟨xs, hb⟩ := (h.rows i hi).blk_ e
    exact h.sm.ne_blk hb rfl
  have hbU := hk.blk h.blk hUr
  have hk2 := KpS.setCell w' U (4 + i) (.slice A' m' c')
  have him := h.im.kp hk hbI
  have hsm := h.sm.kp hk hbT
  have hUI : ¬ bi = U := Ne.symm (him.ne_blk hbU)
  have hUT : ¬ bt = U := Ne.symm (hsm.ne_blk hbU)
  have hrows : ∀ j, j < 7 → j ≠ i → OsC strF 9 1 w' B (R j).A (R j).m (R j).c (repL r j) := fun j hj hji => hk.osc (h.rows j hj) fun g hg e => h.dist i j hi hj (Ne.symm hji) g e hg
  have hnew : ∀ g, ob A' = some g → w.heap.size ≤ g ∨ ob (R i).A = some g := hN
  refine ⟨⟨?_, fun j hj => ?_, fun a b ha hb hab g hga hgb => ?_, him.kp hk2 hUI, hsm.kp hk2 hUT, h.ne, h.geU, h.geI, h.geT⟩, fun g hg => ?_, ?_⟩
  · have h1 := hbU.set_ (4 + i) (.slice A' m' c')
    rw [updA_set x R bi bt i hi ⟨A', m', c'⟩] at h1
    exact h1
  · rw [repL_add r i id hi j hj]
    by_cases hji : j = i
    · subst hji
      rw [if_pos rfl, if_pos rfl]
      refine hk2.osc ho fun g hg e => ?_
      obtain ⟨xs, hb⟩ := ho.blk_ hg
      exact hb.ne_ hbU (by decide) e
    · rw [if_neg hji, if_neg hji]
      refine hk2.osc (hrows j hj hji) fun g hg e => ?_
      obtain ⟨xs, hb⟩ := (hrows j hj hji).blk_ hg
      exact hb.ne_ hbU (by decide) e
  · by_cases hai : a = i
    · subst hai
      rw [if_pos rfl] at hga
      rw [if_neg (Ne.symm hab)] at hgb
      rcases hnew g hga with h1 | h1
      · have h2 := (h.rows b hb).lt g hgb; omega
      · exact h.dist a b ha hb hab g h1 hgb
    · rw [if_neg hai] at hga
      by_cases hbi : b = i
      · subst hbi
        rw [if_pos rfl] at hgb
        rcases hnew g hgb with h1 | h1
        · have h2 := (h.rows a ha).lt g hga; omega
        · exact h.dist a b ha hb hab g hga h1
      · rw [if_neg hbi] at hgb
        exact h.dist a b ha hb hab g hga hgb
  · rcases hg with rfl | rfl | rfl | ⟨j, hj, hg⟩
    · exact .inl (.inl rfl)
    · exact .inl (.inr (.inl rfl))
    · exact .inl (.inr (.inr (.inl rfl)))
    · dsimp only at hg
      by_cases hji : j = i
      · subst hji
        rw [if_pos rfl] at hg
        rcases hnew g hg with h1 | h1
        · exact .inr h1
        · exact .inl (.inr (.inr (.inr ⟨j, hj, h1⟩)))
      · rw [if_neg hji] at hg
        exact .inl (.inr (.inr (.inr ⟨j, hj, hg⟩)))
  · refine (hk.mono fun g _ e => ?_).trans hk2 fun g _ e => .inl e
    exact .inr (.inr (.inr ⟨i, hi, e⟩))
/-- The set of taken IDs has grown. -/
theorem UpS.take_ (h : UpS w B U x R bi ni bt nt F r tk) {tk' : List ByteArray} {nt' : Nat} (hm : SM w' bt nt' tk') (hg : w.grownBy w' (some bt)) : UpS w' B U x R bi ni bt nt' F r tk' ∧ KpS (UpB U bi bt R) w w' := by
  have hk : KpS (fun g => g = bt) w w' := (KpS.grown hg).mono fun g _ e => (Option.some.inj e).symm
  refine ⟨⟨hk.blk h.blk (fun e => h.sm.ne_blk h.blk e), fun i hi => hk.osc (h.rows i hi) fun g hg e => ?_, h.dist, h.im.kp hk h.ne, hm, h.ne, h.geU, h.geI, h.geT⟩, hk.mono fun g _ e => .inr (.inr (.inl e))⟩
  obtain ⟨xs, hb⟩ := (h.rows i hi).blk_ hg
  exact h.sm.ne_blk hb e
/-- The index has grown. -/
theorem UpS.index (h : UpS w B U x R bi ni bt nt F r tk) {F' : ByteArray → Option Nat} {ni' : Nat} (hm : IM w' bi ni' F') (hg : w.grownBy w' (some bi)) : UpS w' B U x R bi ni' bt nt F' r tk ∧ KpS (UpB U bi bt R) w w' := by
  have hk : KpS (fun g => g = bi) w w' := (KpS.grown hg).mono fun g _ e => (Option.some.inj e).symm
  refine ⟨⟨hk.blk h.blk (fun e => h.im.ne_blk h.blk e), fun i hi => hk.osc (h.rows i hi) fun g hg e => ?_, h.dist, hm, h.sm.kp hk (Ne.symm h.ne), h.ne, h.geU, h.geI, h.geT⟩, hk.mono fun g _ e => .inr (.inl e)⟩
  obtain ⟨xs, hb⟩ := (h.rows i hi).blk_ hg
  exact h.im.ne_blk hb e
set_option maxHeartbeats 1600000 in
theorem add_any (h : UpS w B U x R bi ni bt nt F r tk) {i : Nat} (hi : i < 7) {o : Nat} (ho : o = 4 + i) (id : ByteArray) (hl : (repL r i).length ≤ 100000) (hB : B ≤ w.heap.size) :
    Calls Tryz.prog 32 #[.pointer (some ⟨U, o, none⟩), .string id] w fun e w' => e = .returned (.tuple #[]) ∧ ∃ R', UpS w' B U x R' bi ni bt nt F (addR r i id) tk ∧ (∀ g, UpB U bi bt R' g → UpB U bi bt R g ∨ w.heap.size ≤ g) ∧ KpS (UpB U bi bt R) w w' := by
  subst ho
  have HU := Lib.hid h
  have c0 : w.cell? ⟨U, 4 + i, none⟩ = some (.slice (R i).A (R i).m (R i).c) := (h.blk.cell _).trans (updA_at x R bi bt i hi)
  have hm : (R i).m ≤ 100000 := by rw [(h.rows i hi).len]; exact hl
  obtain ⟨h0, hh0⟩ : ∃ h0, h0 = R i := ⟨_, rfl⟩
  have hrow := h.rows i hi
  rw [← hh0] at c0 hm hrow
  obtain ⟨A0, m0, cc0⟩ := h0
  dsimp only at c0 hm hrow
  have hE1 : Ext w (w.alloc (Obj.cells #[.string id] 9)) := (Ext.refl w).alloc _
  have hsx : SlC strF 1 (w.alloc (Obj.cells #[.string id] 9)) (some ⟨w.heap.size, 0, none⟩) 1 [id] := SlC.new_ w [id] strF_len (by simp) _ rfl (0, 0) 1 rfl _
  have HH := Lib.hid hh0
  have HHI : Hid (i < 7) := hi
  clear hh0 hl h
  go_enter Tryz.func32, Tryz.ntmps32
  go_wp2_with (first
    | (at_builtin; refine Hid.out ?_))
  refine Hid.mk_ ?_
  refine appC einfo_ss rfl _ _ rfl (hrow.ext hE1) rfl hsx rfl (by omega) (Nat.le_trans hB hE1.size_le) ?_
  intro A7 m7 c7 w7 ho7 hg7 hN7
  have hg : (w.alloc (Obj.cells #[.string id] 9)).grownBy w7 (ob (R i).A) := by rw [← HH.out]; exact hg7
  have hN : NewOr (w.alloc (Obj.cells #[.string id] 9)).heap.size (ob (R i).A) (ob A7) := by rw [← HH.out]; exact hN7
  have HF := Lib.hid ((HU.out.ext hE1).added HHI.out ho7 hg hN)
  have hb7 := (KpS.grown hg).blk (HU.out.ext hE1).blk (fun e => by
    obtain ⟨xs, hb⟩ := ((HU.out.ext hE1).rows i HHI.out).blk_ e
    exact hb.ne_ (HU.out.ext hE1).blk (by decide) rfl)
  have d0 : w7.cell? ⟨U, 4 + i, none⟩ = some (.slice (R i).A (R i).m (R i).c) := (hb7.cell _).trans (updA_at x R bi bt i HHI.out)
  have f0 := hb7.frozen (4 + i)
  have HE1 := Lib.hid hE1
  clear c0 hrow hsx ho7 hg7 hN7 hg hN hb7 hE1
  go_wp2
  go_end0
  obtain ⟨a1, a2, a3⟩ := HF.out
  refine ⟨rfl, _, a1, fun g hg => (a2 g hg).imp_right fun e => Nat.le_trans HE1.out.size_le e, (KpS.of_ext _ HE1.out).trans a3 fun _ _ e => e⟩
end
end Go.Proofs.YtgnchicipmomlaaGreatDoor

/- An entry that is being made in a block, and the block for the result. -/
namespace Go.Proofs.YtgnchicipmomlaaGreatDoor
open Go.RowKit
set_option maxRecDepth 100000
def entA (p : Ep) (hc hf hd : SlH) : Array Value := #[.string p.id, .string p.src, .string p.tgt, .slice hc.A hc.m hc.c, .slice hf.A hf.m hf.c, .int .i64 p.st, .slice hd.A hd.m hd.c]
def entZ : Array Value := #[.string ⟨#[]⟩, .string ⟨#[]⟩, .string ⟨#[]⟩, .slice none 0 0, .slice none 0 0, .int .i64 0, .slice none 0 0]
/-- A slice apart from the two blocks and from S. -/
structure Aps (S : Nat → Prop) (g7 gr : Nat) (h : SlH) : Prop where
  a : Apart (some g7) h
  r : Apart (some gr) h
  s : ∀ g, S g → Apart (some g) h
theorem Aps.of_ge {S : Nat → Prop} {g7 gr B : Nat} {h : SlH} (hn : ∀ k, ob h.A = some k → B ≤ k) (h7 : g7 < B) (hr : gr < B) (hS : ∀ g, S g → g < B) : Aps S g7 gr h :=
  ⟨Apart.of_ge hn h7, Apart.of_ge hn hr, fun g hg => Apart.of_ge hn (hS g hg)⟩
structure OutS (w wr : World) (S : Nat → Prop) (g7 gr : Nat) (p : Ep) (hc hf hd : SlH) : Prop where
  blk : Blk wr g7 39 (entA p hc hf hd)
  res : Blk wr gr 39 entZ
  ne : g7 ≠ gr
  W : EntW wr ⟨p, hc, hf, hd⟩
  ac : Aps (fun g => g < w.heap.size) g7 gr hc
  af : Aps (fun g => g < w.heap.size) g7 gr hf
  ad : Aps (fun g => g < w.heap.size) g7 gr hd
  sS : ∀ g, S g → g < w.heap.size
  ge7 : w.heap.size ≤ g7
  ger : w.heap.size ≤ gr
  n7 : ¬ S g7
  nr : ¬ S gr
  kp : KpS S w wr
section
variable {w wr w' : World} {S : Nat → Prop} {g7 gr : Nat} {p : Ep} {hc hf hd : SlH}
theorem OutS.more (h : OutS w wr S g7 gr p hc hf hd) (hE : Ext wr w') : OutS w w' S g7 gr p hc hf hd :=
  ⟨h.blk.below hE h.blk.lt, h.res.below hE h.res.lt, h.ne, h.W.ext hE, h.ac, h.af, h.ad, h.sS, h.ge7, h.ger, h.n7, h.nr, h.kp.ext hE⟩
theorem OutS.keep (h : OutS w wr S g7 gr p hc hf hd) (hk : KpS S wr w') : OutS w w' S g7 gr p hc hf hd :=
  ⟨hk.blk h.blk h.n7, hk.blk h.res h.nr, h.ne, EntW.kp hk h.W (EntS.of_ent fun g hg => ⟨h.ac.s g (h.sS g hg), h.af.s g (h.sS g hg), h.ad.s g (h.sS g hg)⟩), h.ac, h.af, h.ad, h.sS, h.ge7, h.ger, h.n7, h.nr, h.kp.trans hk fun _ _ e => e⟩
theorem OutS.ents (h : OutS w wr S g7 gr p hc hf hd) : EntS S ⟨p, hc, hf, hd⟩ := EntS.of_ent fun g hg => ⟨h.ac.s g (h.sS g hg), h.af.s g (h.sS g hg), h.ad.s g (h.sS g hg)⟩
/-- Its slices lie in no block that was there before. -/
theorem OutS.old (h : OutS w wr S g7 gr p hc hf hd) : ∀ g, g < w.heap.size → EntA (some g) ⟨p, hc, hf, hd⟩ := fun g hg => ⟨h.ac.s g hg, h.af.s g hg, h.ad.s g hg⟩
theorem KpS.set7 (h : KpS S w wr) {g : Nat} (hg : w.heap.size ≤ g) (i : Nat) (u : Value) : KpS S w (wr.setCell ⟨g, i, none⟩ u) :=
  h.trans (KpS.setCell wr g i u) fun j hj e => by omega
/-- A cell of the entry is stored into. -/
theorem OutS.setC (h : OutS w wr S g7 gr p hc hf hd) (i : Nat) (u : Value) {p' : Ep} (he : (entA p hc hf hd).setIfInBounds i u = entA p' hc hf hd) (hw : EntW (wr.setCell ⟨g7, i, none⟩ u) ⟨p', hc, hf, hd⟩) : OutS w (wr.setCell ⟨g7, i, none⟩ u) S g7 gr p' hc hf hd := by
  have h1 := h.blk.set_ i u
  rw [he] at h1
  exact ⟨h1, h.res.far (p := ⟨g7, i, none⟩) (Ne.symm h.ne) u, h.ne, hw, h.ac, h.af, h.ad, h.sS, h.ge7, h.ger, h.n7, h.nr, h.kp.set7 h.ge7 i u⟩
theorem OutS.ent7 (h : OutS w wr S g7 gr p hc hf hd) (i : Nat) (u : Value) : StrsW (wr.setCell ⟨g7, i, none⟩ u) hc p.com ∧ StrsW (wr.setCell ⟨g7, i, none⟩ u) hf p.fl ∧ FdsW (wr.setCell ⟨g7, i, none⟩ u) hd p.fd :=
  ⟨h.W.c.set_ (p := ⟨g7, i, none⟩) h.ac.a u, h.W.f.set_ (p := ⟨g7, i, none⟩) h.af.a u, h.W.d.set_ (p := ⟨g7, i, none⟩) h.ad.a u⟩
theorem OutS.setSt (h : OutS w wr S g7 gr p hc hf hd) (n : Int) (hn : 0 ≤ n ∧ n ≤ 4) : OutS w (wr.setCell ⟨g7, 5, none⟩ (.int .i64 n)) S g7 gr { p with st := n } hc hf hd := by
  obtain ⟨a1, a2, a3⟩ := h.ent7 5 (.int .i64 n)
  exact h.setC 5 _ rfl ⟨a1, a2, a3, h.W.id, h.W.src, h.W.tgt, by show -9223372036854775808 ≤ n ∧ n ≤ 9223372036854775807; omega⟩
theorem OutS.setTgt (h : OutS w wr S g7 gr p hc hf hd) (s : ByteArray) (hs : GoodStr s) : OutS w (wr.setCell ⟨g7, 2, none⟩ (.string s)) S g7 gr { p with tgt := s } hc hf hd := by
  obtain ⟨a1, a2, a3⟩ := h.ent7 2 (.string s)
  exact h.setC 2 _ rfl ⟨a1, a2, a3, h.W.id, h.W.src, hs, h.W.st⟩
/-- Its fields are replaced. -/
theorem OutS.setD (h : OutS w wr S g7 gr p hc hf hd) {hd' : SlH} {l : List Fd} (hw : FdsW wr hd' l) (ha : Aps (fun g => g < w.heap.size) g7 gr hd') : OutS w (wr.setCell ⟨g7, 6, none⟩ (.slice hd'.A hd'.m hd'.c)) S g7 gr { p with fd := l } hc hf hd' := by
  have h1 := h.blk.set_ 6 (.slice hd'.A hd'.m hd'.c)
  obtain ⟨a1, a2, _⟩ := h.ent7 6 (.slice hd'.A hd'.m hd'.c)
  exact ⟨h1, h.res.far (p := ⟨g7, 6, none⟩) (Ne.symm h.ne) _, h.ne, ⟨a1, a2, hw.set_ (p := ⟨g7, 6, none⟩) ha.a _, h.W.id, h.W.src, h.W.tgt, h.W.st⟩, h.ac, h.af, ha, h.sS, h.ge7, h.ger, h.n7, h.nr, h.kp.set7 h.ge7 6 _⟩
/-- Its flags are replaced. -/
theorem OutS.setF (h : OutS w wr S g7 gr p hc hf hd) {hf' : SlH} {l : List ByteArray} (hw : StrsW wr hf' l) (ha : Aps (fun g => g < w.heap.size) g7 gr hf') : OutS w (wr.setCell ⟨g7, 4, none⟩ (.slice hf'.A hf'.m hf'.c)) S g7 gr { p with fl := l } hc hf' hd := by
  have h1 := h.blk.set_ 4 (.slice hf'.A hf'.m hf'.c)
  obtain ⟨a1, _, a3⟩ := h.ent7 4 (.slice hf'.A hf'.m hf'.c)
  exact ⟨h1, h.res.far (p := ⟨g7, 4, none⟩) (Ne.symm h.ne) _, h.ne, ⟨a1, hw.set_ (p := ⟨g7, 4, none⟩) ha.a _, a3, h.W.id, h.W.src, h.W.tgt, h.W.st⟩, h.ac, ha, h.ad, h.sS, h.ge7, h.ger, h.n7, h.nr, h.kp.set7 h.ge7 4 _⟩
/-- The entry as a result. -/
def entR (wr : World) (gr : Nat) (p : Ep) (hc hf hd : SlH) : World :=
  ((((((wr.setCell ⟨gr, 0, none⟩ (.string p.id)).setCell ⟨gr, 1, none⟩ (.string p.src)).setCell ⟨gr, 2, none⟩ (.string p.tgt)).setCell ⟨gr, 3, none⟩ (.slice hc.A hc.m hc.c)).setCell ⟨gr, 4, none⟩ (.slice hf.A hf.m hf.c)).setCell ⟨gr, 5, none⟩ (.int .i64 p.st)).setCell ⟨gr, 6, none⟩ (.slice hd.A hd.m hd.c)
theorem OutS.fin (h : OutS w wr S g7 gr p hc hf hd) : Blk (entR wr gr p hc hf hd) gr 39 (entA p hc hf hd) ∧ EntW (entR wr gr p hc hf hd) ⟨p, hc, hf, hd⟩ ∧ KpS S w (entR wr gr p hc hf hd) ∧ KpS (fun g => g = gr) wr (entR wr gr p hc hf hd) := by
  have hk : KpS (fun g => g = gr) wr (entR wr gr p hc hf hd) :=
    (((((((KpS.setCell wr gr 0 _).trans (KpS.setCell _ gr 1 _) fun _ _ e => e).trans (KpS.setCell _ gr 2 _) fun _ _ e => e).trans (KpS.setCell _ gr 3 _) fun _ _ e => e).trans (KpS.setCell _ gr 4 _) fun _ _ e => e).trans (KpS.setCell _ gr 5 _) fun _ _ e => e).trans (KpS.setCell _ gr 6 _) fun _ _ e => e)
  refine ⟨?_, EntW.kp hk h.W (EntS.of_ent fun g hg => ?_), h.kp.trans hk fun j hj e => by have := h.ger; omega, hk⟩
  · exact ((((((h.res.set_ 0 (.string p.id)).set_ 1 (.string p.src)).set_ 2 (.string p.tgt)).set_ 3 (.slice hc.A hc.m hc.c)).set_ 4 (.slice hf.A hf.m hf.c)).set_ 5 (.int .i64 p.st)).set_ 6 (.slice hd.A hd.m hd.c)
  · subst hg
    exact ⟨h.ac.r, h.af.r, h.ad.r⟩
end
end Go.Proofs.YtgnchicipmomlaaGreatDoor
