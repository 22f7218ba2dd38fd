/- bytes.Buffer as a field of a struct: Write and WriteString, with frames by blocks. -/
import Derived.Test.YtoghaehcmbonnaaGreatDoorBytes
import Derived.Test.YtoghaehcmbonnaaGreatDoorMem
import Derived.Test.YtoghaehcmbonnaaGreatDoorLayBuf
import Derived.Shelf.Bytes.GrowSlice
import Derived.Shelf.Bytes.TryGrowAt
import Derived.Shelf.Bytes.LenAt
import Derived.Lib.BufferAt
import Derived.Lib.BufferWrite
import Derived.Lib.BufferSrc
import Derived.Laws.CopyRow
import Derived.Laws.IdiomCopy
import Derived.Deep.RegionWith
namespace Go.Proofs.YtoghaehcmbonnaaGreatDoor
open Go.RowKit
set_option maxRecDepth 100000
attribute [local go_sem] eql_nil_u8

/-- All blocks but those of S are as they were. -/
structure KeepS (S : Nat → Prop) (w w' : World) : Prop where
  below : Below 0 w w'
  block : ∀ k, k < w.heap.size → ¬ S k → w'.heap[k]? = w.heap[k]?
section
variable {S S' : Nat → Prop} {w w' w1 w2 : World}
theorem KeepS.refl (S : Nat → Prop) (w : World) : KeepS S w w := ⟨Below.refl _ _, fun _ _ _ => rfl⟩
theorem KeepS.of_ext (S : Nat → Prop) (h : Ext w w') : KeepS S w w' := ⟨Below.mono h (Nat.zero_le _), fun k hk _ => h.block k hk⟩
theorem KeepS.size (h : KeepS S w w') : w.heap.size ≤ w'.heap.size := h.below.size
theorem KeepS.trans (h : KeepS S w w1) (k : KeepS S' w1 w2) (hS : ∀ j, j < w.heap.size → S' j → S j) : KeepS S w w2 :=
  ⟨h.below.trans k.below, fun j hj hn => (k.block j (Nat.lt_of_lt_of_le hj h.size) (fun e => hn (hS j hj e))).trans (h.block j hj hn)⟩
theorem KeepS.ext (h : KeepS S w w1) (k : Ext w1 w2) : KeepS S w w2 := h.trans (KeepS.of_ext (fun _ => False) k) (fun _ _ e => e.elim)
theorem KeepS.mono (h : KeepS S w w') (hS : ∀ j, j < w.heap.size → S j → S' j) : KeepS S' w w' := ⟨h.below, fun j hj hn => h.block j hj fun e => hn (hS j hj e)⟩
theorem KeepS.toBelow {B : Nat} (h : KeepS S w w') (hB : B ≤ w.heap.size) (hS : ∀ j, S j → B ≤ j) : Below B w w' :=
  ⟨h.below.os, h.below.tape, h.below.output, h.below.size, fun k hk => h.block k (by omega) fun e => by have := hS k e; omega⟩
theorem KeepS.cell (h : KeepS S w w') {p : Addr} {v : Value} (hp : ¬ S p.block) (hv : w.cell? p = some v) : w'.cell? p = some v := by
  have hlt : p.block < w.heap.size := by
    rcases Nat.lt_or_ge p.block w.heap.size with h1 | h1
    · exact h1
    · unfold World.cell? at hv
      rw [Array.getElem?_eq_none h1] at hv
      cases hv
  rw [← hv]
  exact World.cell?_of_block (h.block p.block hlt hp)
theorem KeepS.slb {A : Option Addr} {m : Nat} {l : List UInt8} (h : KeepS S w w') (hs : SlB w A m l) (hA : ∀ k, ob A = some k → ¬ S k) : SlB w' A m l := by
  refine ⟨⟨hs.rd.1, fun hn => ?_⟩, hs.len, hs.le⟩
  obtain ⟨ad, e, hb, hc⟩ := hs.rd.2 hn
  refine ⟨ad, e, Nat.lt_of_lt_of_le hb h.size, fun j u hu => h.cell ?_ (hc j u hu)⟩
  rw [block_of_add]
  exact hA _ (by rw [e]; rfl)
theorem KeepS.setCell (w : World) (b i : Nat) (v : Value) : KeepS (fun k => k = b) w (w.setCell ⟨b, i, none⟩ v) :=
  ⟨(Below.refl 0 w).setCell (p := ⟨b, i, none⟩) (Nat.zero_le _) _, fun k _ hn => Below.heap_setCell w _ v k hn⟩
theorem KeepS.setRow (w : World) (g : Nat) (cs : Array Value) : KeepS (fun k => k = g) w (w.setRow g cs) :=
  ⟨⟨rfl, rfl, rfl, by simp, fun _ hk => absurd hk (Nat.not_lt_zero _)⟩, fun k _ hn => setRow_other _ _ _ _ hn⟩
theorem KeepS.grown {r : Option Nat} (h : w.grownBy w' r) : KeepS (fun k => r = some k) w w' := ⟨⟨h.os, h.tape, h.output, h.size, fun _ hk => absurd hk (Nat.not_lt_zero _)⟩, fun k hk hn => h.block k hk fun e => hn e.symm⟩
end

/-- A buffer at offset q of block b, with its row G. -/
structure Bf (w : World) (T : TypeId) (R : Nat → Option Value) (b q : Nat) (G : Option Nat) (l : List UInt8) : Prop where
  isb : LibA.IsBuffer T R 5 0 b q (l.map bv) w
  row : ∃ v, w.cell? ⟨b, q, none⟩ = some v ∧ v.ownBlock = G
/-- The buffer has made room for n bytes behind bs. -/
def Rm (w w' : World) (T : TypeId) (R : Nat → Option Value) (b q : Nat) (G : Option Nat) (l : List UInt8) (n : Nat) : Prop :=
  ∃ g cap cur lr, LibA.Three w' b q T R (.slice (some ⟨g, 0, none⟩) (l.length + n) cap) (.int .i64 0) (.int .i8 lr) ∧ w'.heap[g]? = some (.cells cur 5 (0, 0)) ∧ l.length + n ≤ cap ∧ cap ≤ maxLen ∧ cur.size = cap ∧
    cur.toList.take l.length = l.map bv ∧ g ≠ b ∧ (G = some g ∨ w.heap.size ≤ g) ∧ KeepS (fun k => k = b) w w'
section
variable {w w' : World} {T : TypeId} {R : Nat → Option Value} {b q : Nat} {G : Option Nat} {l : List UInt8}
theorem Bf.lt (h : Bf w T R b q G l) : b < w.heap.size := h.isb.lt
theorem Bf.cases (h : Bf w T R b q G l) : ∃ lr, (G = none ∧ l = [] ∧ LibA.Three w b q T R (.slice none 0 0) (.int .i64 0) (.int .i8 lr)) ∨
    ∃ g cap cur, G = some g ∧ LibA.Three w b q T R (.slice (some ⟨g, 0, none⟩) l.length cap) (.int .i64 0) (.int .i8 lr) ∧ w.heap[g]? = some (.cells cur 5 (0, 0)) ∧ l.length ≤ cap ∧ cap ≤ maxLen ∧ cur.size = cap ∧ cur.toList.take l.length = l.map bv ∧ g ≠ b := by
  obtain ⟨_, lr, hc⟩ := h.isb.cases
  obtain ⟨v, hv, hG⟩ := h.row
  refine ⟨lr, ?_⟩
  rcases hc with ⟨h0, h3⟩ | ⟨g, cap, cur, h3, _, hg, hnc, hcm, hcs, htk, hgb⟩
  · rw [h3.c0] at hv
    injection hv with hv
    subst hv
    exact .inl ⟨hG.symm, by simpa using h0, h3⟩
  · rw [h3.c0] at hv
    injection hv with hv
    subst hv
    rw [List.length_map] at h3 hnc htk
    exact .inr ⟨g, cap, cur, hG.symm, h3, hg, hnc, hcm, hcs, htk, hgb⟩
theorem Bf.setLast (h : Bf w T R b q G l) (x : Int) : Bf (w.setCell ⟨b, q + 2, none⟩ (.int .i8 x)) T R b q G l := by
  refine ⟨h.isb.setLast x, ?_⟩
  obtain ⟨v, hv, hG⟩ := h.row
  exact ⟨v, (World.cell?_setCell_other w _ _ _ (fun e => by injection e with _ e _; omega)).trans hv, hG⟩
theorem Bf.keep {S : Nat → Prop} (h : Bf w T R b q G l) (hk : KeepS S w w') (hb : ¬ S b) (hG : ∀ k, G = some k → ¬ S k) : Bf w' T R b q G l := by
  obtain ⟨lr, ⟨rfl, rfl, h3⟩ | ⟨g, cap, cur, rfl, h3, hg, hnc, hcm, hcs, htk, hgb⟩⟩ := h.cases
  · have h3' := h3.of_heap (hk.block b h.lt hb)
    exact ⟨LibA.zero_isBuffer (Nat.zero_le _) h3', _, h3'.c0, rfl⟩
  · have h3' := h3.of_heap (hk.block b h.lt hb)
    have hg' := (hk.block g (Lib.lt_of_heap hg) (hG g rfl)).trans hg
    have h4 := LibA.isBuffer_mk (B := 0) (Nat.zero_le _) h3' (Nat.zero_le _) hg' hnc hcm hcs hgb
    rw [htk] at h4
    exact ⟨h4, _, h3'.c0, rfl⟩
theorem Bf.setOther (h : Bf w T R b q G l) (i : Nat) (hi : i < q ∨ q + 3 ≤ i) {old : Value} (hold : R i = some old) (x : Value) : Bf (w.setCell ⟨b, i, none⟩ x) T (fun j => if j = i then some x else R j) b q G l := by
  refine ⟨h.isb.setOther i hi hold x, ?_⟩
  obtain ⟨v, hv, hG⟩ := h.row
  exact ⟨v, (World.cell?_setCell_other w _ _ _ (fun e => by injection e with _ e _; omega)).trans hv, hG⟩
/-- Behind the copy into the room. -/
theorem Rm.copied {n g cap : Nat} {cur : Array Value} {lr : Int} {x : List UInt8} (h3 : LibA.Three w' b q T R (.slice (some ⟨g, 0, none⟩) (l.length + n) cap) (.int .i64 0) (.int .i8 lr)) (hg : w'.heap[g]? = some (.cells cur 5 (0, 0))) (hnc : l.length + n ≤ cap) (hcm : cap ≤ maxLen) (hcs : cur.size = cap)
    (htk : cur.toList.take l.length = l.map bv) (hgb : g ≠ b) (hG : G = some g ∨ w.heap.size ≤ g) (hk : KeepS (fun k => k = b) w w') (hx : x.length = n) :
    ∃ G', Bf (w'.setRow g (cur.toList.take l.length ++ x.map bv ++ cur.toList.drop (l.length + n)).toArray) T R b q G' (l ++ x) ∧ NewOr w.heap.size G G' ∧
      KeepS (fun k => k = b ∨ G = some k) w (w'.setRow g (cur.toList.take l.length ++ x.map bv ++ cur.toList.drop (l.length + n)).toArray) := by
  have hxl : (x.map bv).length = n := by rw [List.length_map, hx]
  obtain ⟨r1, _⟩ := LibA.written_end (B := 0) (news := x.map bv) (l := l.length) (Nat.zero_le _) (by rw [hxl]; exact h3) (Nat.zero_le _) hg hcm hcs hgb (by rw [hxl]; exact hnc)
  rw [htk, hxl, ← List.map_append] at r1
  refine ⟨some g, ⟨by rw [htk, ← List.map_append]; exact r1, ?_⟩, ?_, ?_⟩
  · refine ⟨.slice (some ⟨g, 0, none⟩) (l.length + n) cap, ?_, rfl⟩
    exact (World.cell?_of_block (setRow_other _ _ _ _ (Ne.symm hgb))).trans h3.c0
  · intro k hk
    injection hk with hk
    subst hk
    rcases hG with e | e
    · exact .inr e
    · exact .inl e
  · refine (hk.mono fun _ _ e => .inl e).trans (KeepS.setRow _ g _) fun j hj e => ?_
    subst e
    rcases hG with e | e
    · exact .inr e
    · omega
end
theorem infoS_u8 : (Tryz.prog.info? 5).map (·.size) = some 1 := by kernel_rfl

section
variable {w : World} {T : TypeId} {R : Nat → Option Value} {b q : Nat} {G : Option Nat} {l : List UInt8}
/-- tryGrowByReslice and grow, behind each other: there is room. -/
theorem rm_room {g cap : Nat} {cur : Array Value} {lr : Int} {n : Nat} (h3 : LibA.Three w b q T R (.slice (some ⟨g, 0, none⟩) l.length cap) (.int .i64 0) (.int .i8 lr)) (hg : w.heap[g]? = some (.cells cur 5 (0, 0))) (hnc : l.length + n ≤ cap) (hcm : cap ≤ maxLen) (hcs : cur.size = cap)
    (htk : cur.toList.take l.length = l.map bv) (hgb : g ≠ b) : Rm w (w.setCell ⟨b, q, none⟩ (.slice (some ⟨g, 0, none⟩) (l.length + n) cap)) T R b q (some g) l n :=
  ⟨g, cap, cur, lr, h3.set0 _, (Below.heap_setCell w _ _ _ hgb).trans hg, hnc, hcm, hcs, htk, hgb, .inl rfl, KeepS.setCell w b q _⟩
set_option maxHeartbeats 3200000 in
theorem bufgrow_nil {n : Nat} {lr : Int} (h3 : LibA.Three w b q T R (.slice none 0 0) (.int .i64 0) (.int .i8 lr)) (hn : 1 ≤ n) (hn2 : n ≤ 64) :
    Calls Tryz.prog 54 #[.pointer (some ⟨b, q, none⟩), .int .i64 n] w fun e w' => e = .returned (.int .i64 (([] : List UInt8).length : Nat)) ∧ Rm w w' T R b q none [] n := by
  have c0 := h3.c0
  have c1 := h3.c1
  have f0 := h3.f q
  have f1 := h3.f (q + 1)
  have hI : LibA.IsBuffer T R 5 0 b q [] w := LibA.zero_isBuffer (Nat.zero_le _) h3
  obtain ⟨i0, hi, hz0, hz1, hz2⟩ := info_parts info_u8
  obtain ⟨M, hM⟩ : ∃ M, M = madeCells (Value.int .u8 0).cells ((64 : Int).toNat * i0.size) := ⟨_, rfl⟩
  have hMs : M.size = 64 := by rw [hM, size_madeCells, hz1]; rfl
  have hmk : ∀ W : World, (Instr.makeSlice 22 (.int .i64 (n : Int)) (.int .i64 64)).run Tryz.prog W = .ok (.slice (some ⟨W.heap.size, 0, none⟩) n 64) (W.alloc (.cells M 5)) := fun W => by
    have h := run_makeSlice (P := Tryz.prog) W 22 5 i0 (.int .u8 0) Tryz.underlying22 hi hz0 .i64 .i64 (n : Int) 64 (by omega) (by omega) (by rw [hz1]; decide) (by rw [hz2]; decide) (by decide)
    rw [← hM] at h
    simpa using h
  clear hM
  have hbl := h3.lt
  have c0a : ∀ k o, ((w.drewN k).alloc o).cell? ⟨b, q, none⟩ = some (.slice none 0 0) := fun k o => (World.cell?_of_block (a := ⟨b, q, none⟩) (Below.heap_alloc (w.drewN k) o b hbl)).trans c0
  have f0a : ∀ k o, ((w.drewN k).alloc o).frozen? ⟨b, q, none⟩ = false := fun k o => (World.frozen?_of_block (a := ⟨b, q, none⟩) (Below.heap_alloc (w.drewN k) o b hbl)).trans f0
  have hn64 : (n : Int) ≤ 64 := by omega
  go_enter Tryz.func54, Tryz.ntmps54
  go_wp2_with (first
    | (go_at_call 23; refine Hid.out ?_))
  refine Hid.mk_ ((Any.Buffer_Len_at Tryz.laysBLen T R 0 b q [] _ hI).mono ?_)
  rintro e w1 ⟨rfl, k, rfl⟩
  go_wp2_with (first
    | (go_at_call 53; refine Hid.out ?_))
  refine Hid.mk_ ((Any.Buffer_tryGrow_none_at { Tryz.laysWrite with } b q none 0 0 n _ (by simpa using c0) (Nat.le_refl _) (by unfold maxLen; omega) (by omega)).mono ?_)
  rintro e w1 ⟨rfl, rfl⟩
  go_wp2
  go_ret
  have hws : (w.drewN k).heap.size = w.heap.size := rfl
  have h3a : LibA.Three ((w.drewN k).alloc (Obj.cells M 5)) b q T R (.slice none 0 0) (.int .i64 0) (.int .i8 lr) := h3.of_heap (Below.heap_alloc (w.drewN k) _ b hbl)
  refine ⟨by simp, w.heap.size, 64, M, lr, ?_, ?_, by simpa using hn2, by unfold maxLen; omega, hMs, rfl, by omega, .inr (Nat.le_refl _), ?_⟩
  · simpa using h3a.set0 (.slice (some ⟨w.heap.size, 0, none⟩) n 64)
  · exact (Below.heap_setCell _ _ _ _ (by show w.heap.size ≠ b; omega)).trans (heap_alloc_new (w.drewN k) _)
  · exact ((KeepS.of_ext (fun k => k = b) (((Ext.refl w).drewN k).alloc _)).trans (KeepS.setCell _ b q _) fun _ _ e => e)
theorem rm_grown {n m g cap cap2 : Nat} {cur cells : Array Value} {lr : Int} {w2 : World} (hm : m = l.length) (htk : cur.toList.take l.length = l.map bv) (hbk2 : LibA.Three w2 b q T R (.slice (some ⟨g, 0, none⟩) m cap) (.int .i64 0) (.int .i8 lr))
    (hN : w2.heap[w.heap.size]? = some (.cells cells 5 (0, 0))) (hNb : w.heap.size ≠ b) (hcsz : cells.size = cap2) (htk2 : cells.toList.take m = cur.toList.take m) (hcap2 : m + n ≤ cap2) (hcm2 : cap2 ≤ maxLen) (hE : Ext w w2) :
    Ending.returned (.int .i64 (m : Nat)) = Ending.returned (.int .i64 (l.length : Nat)) ∧ Rm w (((w2.setCell ⟨b, q, none⟩ (.slice (some ⟨w.heap.size, 0, none⟩) m cap2)).setCell ⟨b, q + 1, none⟩ (.int .i64 0)).setCell ⟨b, q, none⟩ (.slice (some ⟨w.heap.size, 0, none⟩) (m + n) cap2)) T R b q (some g) l n := by
  subst hm
  refine ⟨rfl, w.heap.size, cap2, cells, lr, ((hbk2.set0 _).set1 _).set0 _, ?_, hcap2, hcm2, hcsz, htk2.trans htk, hNb, .inr (Nat.le_refl _), ?_⟩
  · exact (Below.heap_setCell _ _ _ _ hNb).trans ((Below.heap_setCell _ _ _ _ hNb).trans ((Below.heap_setCell _ _ _ _ hNb).trans hN))
  · refine KeepS.trans (S' := fun k => k = b) (KeepS.trans (S' := fun k => k = b) (KeepS.trans (S' := fun k => k = b) (KeepS.of_ext (fun k => k = b) hE) (KeepS.setCell _ b q _) fun _ _ e => e) (KeepS.setCell _ b (q + 1) _) fun _ _ e => e) (KeepS.setCell _ b q _) fun _ _ e => e
set_option maxHeartbeats 3200000 in
theorem bufgrow_row {g cap n : Nat} {cur : Array Value} {lr : Int} (h3 : LibA.Three w b q T R (.slice (some ⟨g, 0, none⟩) l.length cap) (.int .i64 0) (.int .i8 lr)) (hg : w.heap[g]? = some (.cells cur 5 (0, 0))) (hnc : l.length ≤ cap) (hcm : cap ≤ maxLen) (hcs : cur.size = cap)
    (htk : cur.toList.take l.length = l.map bv) (hgb : g ≠ b) (hl : 1 ≤ l.length) (hn : 1 ≤ n) (hroom : cap - l.length < n) (hlim : l.length + n ≤ 140737488355328) :
    Calls Tryz.prog 54 #[.pointer (some ⟨b, q, none⟩), .int .i64 n] w fun e w' => e = .returned (.int .i64 (l.length : Nat)) ∧ Rm w w' T R b q (some g) l n := by
  have c0 := h3.c0
  have c1 := h3.c1
  have hI : LibA.IsBuffer T R 5 0 b q (l.map bv) w := by
    have h4 := LibA.isBuffer_mk (B := 0) (Nat.zero_le _) h3 (Nat.zero_le _) hg hnc hcm hcs hgb
    rw [htk] at h4
    exact h4
  have hbl := h3.lt
  have h1' : ∀ v ∈ cur.toList.take l.length, v.oneCell' = true := by rw [htk]; exact bv_one l
  obtain ⟨m, hm⟩ : ∃ m, m = l.length := ⟨_, rfl⟩
  have hcm' := hcm
  unfold maxLen at hcm'
  have hc2 : cap ≤ 140737488355328 := by omega
  have hd1 : ¬ (n : Int) ≤ (cap : Int) / 2 - (m : Int) := by omega
  have hd2 : ¬ (9223372036854775807 - (cap : Int) - (n : Int)) < (cap : Int) := by omega
  have hwn : IntKind.i64.wrap (n : Int) = n := by rw [IntKind.wrap_i64]; omega
  have HM := Lib.hid hm
  rw [← hm] at c0 h1' hnc hroom hlim hl
  have mixed := (Tryz.laysWrite).mixed
  clear hm
  go_enter Tryz.func54, Tryz.ntmps54
  go_wp2_with (first
    | (go_at_call 23; refine Hid.out ?_))
  refine Hid.mk_ ((Any.Buffer_Len_at Tryz.laysBLen T R 0 b q _ _ hI).mono ?_)
  rintro e w1 ⟨rfl, k, rfl⟩
  rw [List.length_map, ← HM.out]
  go_wp2_with (first
    | (go_at_call 53; refine Hid.out ?_))
  refine Hid.mk_ ((Any.Buffer_tryGrow_none_at { Tryz.laysWrite with } b q (some ⟨g, 0, none⟩) m cap n _ (by simpa using c0) hnc hcm hroom).mono ?_)
  rintro e w1 ⟨rfl, rfl⟩
  go_wp2
  go_region_with_o (
    go_at_call 73
    refine (Any.bytes_growSlice_row { Tryz.laysWrite with } g m cap n cur _ ?_ hcs hnc hn hlim hc2 h1').mono ?_
    exact hg
    rintro e w2 ⟨cap2, cells, rfl, hN, hcsz, htk2, hcap2, hcm2, hbel⟩
    have hbk2 : LibA.Three w2 b q T R (.slice (some ⟨g, 0, none⟩) m cap) (.int .i64 0) (.int .i8 lr) := by
      rw [HM.out]
      exact h3.of_heap (hbel.block b hbl)
    have d0 : w2.cell? ⟨b, q, none⟩ = some (.slice (some ⟨g, 0, none⟩) m cap) := hbk2.c0
    have d1 : w2.cell? ⟨b, q + 1, none⟩ = some (.int .i64 0) := hbk2.c1
    have e0 : w2.frozen? ⟨b, q, none⟩ = false := hbk2.f q
    have e1 : w2.frozen? ⟨b, q + 1, none⟩ = false := hbk2.f (q + 1))
  all_goals (
    go_wp2
    go_ret
    exact rm_grown HM.out htk hbk2 hN (by show w.heap.size ≠ b; omega) hcsz htk2 hcap2 hcm2 (((Ext.refl w).drewN (k + 1)).trans hbel))
end

end Go.Proofs.YtoghaehcmbonnaaGreatDoor
