/- journal.Decode. -/
import Derived.Test.YtoghaehcmbonnaaGreatDoorJrnJ
import Derived.Test.YtoghaehcmbonnaaGreatDoorRStrs
import Derived.Test.YtoghaehcmbonnaaGreatDoorJrnI
namespace Go.Proofs.YtoghaehcmbonnaaGreatDoor
open Go.RowKit
set_option maxRecDepth 100000
attribute [local go_sem] ext_refl_t ext_alloc_t ext_drew_t ext_drewN_t ext_alloc2_t ext_alloc3_t ext_alloc4_t ext_alloc5_t ext_alloc6_t ext_alloc7_t ext_alloc8_t ext_alloc1d_t ext_alloc2d_t ext_alloc3d_t ext_alloc4d_t
/-- The event that is being read, the reader, and the block of pointers. -/
structure DSt (w0 w : World) (g gx gp : Nat) (T : TypeId) (ps cs : Array Value) (A : Option Addr) (m c : Nat) (bs : List UInt8) (p : Nat) (f : Bool) : Prop where
  blk : Blk w gx 46 cs
  ptr : Blk w gp T ps
  rd : Rdr w g A m c bs p f
  ext : Ext w0 w
  ne : gx ≠ g
  np : gp ≠ g
  nx : gp ≠ gx
  alt : obm m A = none ∨ obm m A ≠ some gx
  ge : w0.heap.size ≤ g ∧ w0.heap.size ≤ gx
theorem grown_setD (w : World) (b i : Nat) (u : Value) : w.grownBy (w.setCell ⟨b, i, none⟩ u) (some b) :=
  ⟨rfl, rfl, rfl, by simp [World.setCell], fun k _ hk => Below.heap_setCell w ⟨b, i, none⟩ u k (fun e => hk (by rw [e]))⟩
section
variable {w0 w w' : World} {g gx gp : Nat} {T : TypeId} {ps cs : Array Value} {A : Option Addr} {m c : Nat} {bs : List UInt8} {p p' : Nat} {f f' : Bool}
theorem DSt.call (h : DSt w0 w g gx gp T ps cs A m c bs p f) (hR : Rdr w' g A m c bs p' f') (hg : w.grownBy w' (some g)) : DSt w0 w' g gx gp T ps cs A m c bs p' f' :=
  ⟨h.blk.grown hg (fun e => by injection e with e; exact h.ne e), h.ptr.grown hg (fun e => by injection e with e; exact h.np e), hR, h.ext.grown hg (fun k hk => by cases hk; exact h.ge.1), h.ne, h.np, h.nx, h.alt, h.ge⟩
theorem DSt.set_ (h : DSt w0 w g gx gp T ps cs A m c bs p f) (k : Nat) (v : Value) : DSt w0 (w.setCell ⟨gx, k, none⟩ v) g gx gp T ps (cs.setIfInBounds k v) A m c bs p f :=
  ⟨h.blk.set_ k v, h.ptr.far h.nx v, h.rd.kept (grown_setD w gx k v) (fun e => by injection e with e; exact h.ne e) h.alt, h.ext.set_ h.ge.2 v, h.ne, h.np, h.nx, h.alt, h.ge⟩
end
/-- The strings in turn, the integers in turn. -/
def sS (bs : List UInt8) (s : List UInt8 × Nat × Bool) : Nat → List UInt8 × Nat × Bool
  | 0 => s
  | q + 1 => stepS bs (sS bs s q).2.1 (sS bs s q).2.2
def sI (bs : List UInt8) (s : Int × Nat × Bool) : Nat → Int × Nat × Bool
  | 0 => s
  | q + 1 => stepI bs (sI bs s q).2.1 (sI bs s q).2.2
def cS (bs : List UInt8) (s : List UInt8 × Nat × Bool) (c0 : Array Value) : Nat → Array Value
  | 0 => c0
  | q + 1 => (cS bs s c0 q).setIfInBounds (q + 1) (.string (str (sS bs s (q + 1)).1))
def cI (bs : List UInt8) (s : Int × Nat × Bool) (c0 : Array Value) : Nat → Array Value
  | 0 => c0
  | q + 1 => (cI bs s c0 q).setIfInBounds (q + 5) (.int .i64 (sI bs s (q + 1)).1)
theorem cS_size (bs : List UInt8) (s : List UInt8 × Nat × Bool) (c0 : Array Value) (q : Nat) : (cS bs s c0 q).size = c0.size := by
  induction q with
  | zero => rfl
  | succ q ih => rw [cS, Array.size_setIfInBounds, ih]
theorem cI_size (bs : List UInt8) (s : Int × Nat × Bool) (c0 : Array Value) (q : Nat) : (cI bs s c0 q).size = c0.size := by
  induction q with
  | zero => rfl
  | succ q ih => rw [cI, Array.size_setIfInBounds, ih]
theorem rdE_s (bs : List UInt8) (n : Int) (p : Nat) (f : Bool) (h : stepI bs 0 false = (n, p, f)) :
    rdE bs = (⟨n, str (sS bs ([], p, f) 1).1, str (sS bs ([], p, f) 2).1, str (sS bs ([], p, f) 3).1, str (sS bs ([], p, f) 4).1,
      (sI bs (0, (sS bs ([], p, f) 4).2.1, (sS bs ([], p, f) 4).2.2) 1).1, (sI bs (0, (sS bs ([], p, f) 4).2.1, (sS bs ([], p, f) 4).2.2) 2).1, (sI bs (0, (sS bs ([], p, f) 4).2.1, (sS bs ([], p, f) 4).2.2) 3).1⟩,
      (sI bs (0, (sS bs ([], p, f) 4).2.1, (sS bs ([], p, f) 4).2.2) 3).2.1, (sI bs (0, (sS bs ([], p, f) 4).2.1, (sS bs ([], p, f) 4).2.2) 3).2.2) := by
  unfold rdE
  rw [h]
  rfl
section
variable {w : World}
set_option maxHeartbeats 3200000 in
theorem jdec_any {A : Option Addr} {m : Nat} (c : Nat) {l : List UInt8} (hs : SlB w A m l) :
    Calls Tryz.prog 38 #[.slice A m c] w fun e w' => e = .returned (.tuple #[evV (decE l).1, .int .i64 (decE l).2]) ∧ Ext w w' := by
  have HL := Lib.hid hs.len
  have hE0 : Ext w (w.alloc (Obj.cells #[.int .i64 0, .string ⟨#[]⟩, .string ⟨#[]⟩, .string ⟨#[]⟩, .string ⟨#[]⟩, .int .i64 0, .int .i64 0, .int .i64 0] 46)) := (Ext.refl w).alloc _
  have hb0 := Blk.new w 46 #[.int .i64 0, .string ⟨#[]⟩, .string ⟨#[]⟩, .string ⟨#[]⟩, .string ⟨#[]⟩, .int .i64 0, .int .i64 0, .int .i64 0]
  go_enter Tryz.func38, Tryz.ntmps38
  go_wp2_with (first
    | (go_at_call 58; refine Hid.out ?_))
  refine Hid.mk_ ((read_any c (hs.ext hE0)).mono ?_)
  rintro e w1 ⟨g, A1, m1, c1, rfl, hR1, hE1, hg1, hA1⟩
  have hb1 := hb0.below hE1 hb0.lt
  have hE01 := hE0.trans hE1
  go_wp2_with (first
    | (go_at_call 59; refine Hid.out ?_))
  refine Hid.mk_ ((rInt hR1).mono ?_)
  rintro e w2 ⟨rfl, hR2, hg2⟩
  obtain ⟨n0, p0, f0, hS0⟩ : ∃ n p f, stepI l 0 false = (n, p, f) := ⟨_, _, _, rfl⟩
  rw [hS0] at hR2 ⊢
  have HRD := Lib.hid (rdE_s l n0 p0 f0 hS0)
  dsimp only at hR2 ⊢
  have hlg : g < w1.heap.size := hR1.blk.lt
  have hz0 : (w.alloc (Obj.cells #[.int .i64 0, .string ⟨#[]⟩, .string ⟨#[]⟩, .string ⟨#[]⟩, .string ⟨#[]⟩, .int .i64 0, .int .i64 0, .int .i64 0] 46)).heap.size = w.heap.size + 1 := by simp
  have hg0 : w.heap.size < g := by omega
  have hb2 := hb1.grown hg2 (by intro e; injection e with e; omega)
  have hE02 : Ext w w2 := hE01.grown hg2 (fun k hk => by cases hk; omega)
  have HE02 := Lib.hid hE02
  have HB2 : Hid (Blk w2 w.heap.size 46 #[.int .i64 0, .string ⟨#[]⟩, .string ⟨#[]⟩, .string ⟨#[]⟩, .string ⟨#[]⟩, .int .i64 0, .int .i64 0, .int .i64 0]) := hb2
  have hgz : g < w2.heap.size := Nat.lt_of_lt_of_le hlg hg2.size
  have halt : ∀ k, obm m1 A1 = some k → k < w2.heap.size := fun k hk => hR2.alt k hk
  have HR2 := Lib.hid hR2
  clear hs hE0 hb0 hb1 hE1 hg1 hA1 hE01 hR1 hg2 hS0 hb2 hE02 hR2 hz0
  go_wp2
  obtain ⟨cs, hcs⟩ : ∃ cs : Array Value, cs = #[.int .i64 n0, .string ⟨#[]⟩, .string ⟨#[]⟩, .string ⟨#[]⟩, .string ⟨#[]⟩, .int .i64 0, .int .i64 0, .int .i64 0] := ⟨_, rfl⟩
  obtain ⟨gx, hgx⟩ : ∃ gx, gx = w2.heap.size := ⟨_, rfl⟩
  obtain ⟨ps, hps⟩ : ∃ ps : Array Value, ps = #[.pointer (some ⟨gx, 1, none⟩), .pointer (some ⟨gx, 2, none⟩), .pointer (some ⟨gx, 3, none⟩), .pointer (some ⟨gx, 4, none⟩)] := ⟨_, rfl⟩
  obtain ⟨W3, hW3⟩ : ∃ W3, W3 = (w2.alloc (Obj.cells cs 46)).alloc (Obj.cells ps 98) := ⟨_, rfl⟩
  obtain ⟨gp, hgp⟩ : ∃ gp, gp = gx + 1 := ⟨_, rfl⟩
  have hz1 : (w2.alloc (Obj.cells cs 46)).heap.size = gp := by rw [hgp, hgx]; simp
  have hD3 : DSt w W3 g gx gp 98 ps (cS l ([], p0, f0) cs 0) A1 m1 c1 l (sS l ([], p0, f0) 0).2.1 (sS l ([], p0, f0) 0).2.2 := by
    refine ⟨?_, ?_, ?_, ?_, by omega, by omega, by omega, ?_, by omega, by rw [hgx]; exact HE02.out.size_le⟩
    · rw [hW3, hgx]
      exact (Blk.new w2 _ _).alloc _
    · rw [hW3, ← hz1]
      exact Blk.new _ _ _
    · rw [hW3]
      exact HR2.out.ext (((Ext.refl w2).alloc _).alloc _)
    · rw [hW3]
      exact (HE02.out.alloc _).alloc _
    · cases hk : obm m1 A1 with
      | none => exact .inl rfl
      | some k => exact .inr (fun e => by injection e with e; have := halt k hk; omega)
  rw [← hgx, ← hps, ← hcs, ← hW3, ← hgp]
  have HB3 : Hid (Blk W3 w.heap.size 46 #[.int .i64 0, .string ⟨#[]⟩, .string ⟨#[]⟩, .string ⟨#[]⟩, .string ⟨#[]⟩, .int .i64 0, .int .i64 0, .int .i64 0]) := by
    show Blk _ _ _ _
    rw [hW3]
    exact (HB2.out.alloc _).alloc _
  have HPS : Hid (∀ q, q < 4 → ps[q]? = some (.pointer (some ⟨gx, q + 1, none⟩))) := fun q hq => by
    rw [hps]
    match q, hq with
    | 0, _ => rfl
    | 1, _ => rfl
    | 2, _ => rfl
    | 3, _ => rfl
  have HCS := Lib.hid hcs
  have hcz : cs.size = 8 := by rw [hcs]; rfl
  have HCZ := Lib.hid hcz
  have hgw : w.heap.size < gx := by omega
  have hgw2 : w.heap.size < g := hg0
  clear HB2 HR2 HE02 halt hps hcs hW3 hgp hz1 hgx hgz hcz
  go_loopw [21] (fun i wr => ∃ q : Nat, q ≤ 4 ∧ i = .int .i64 q ∧ Hid (DSt w wr g gx gp 98 ps (cS l ([], p0, f0) cs q) A1 m1 c1 l (sS l ([], p0, f0) q).2.1 (sS l ([], p0, f0) q).2.2) ∧ Hid (Blk wr w.heap.size 46 #[.int .i64 0, .string ⟨#[]⟩, .string ⟨#[]⟩, .string ⟨#[]⟩, .string ⟨#[]⟩, .int .i64 0, .int .i64 0, .int .i64 0])) (fun i _ => 4 - (intOf i).toNat)
  case atStart => exact ⟨0, Nat.zero_le _, rfl, hD3, HB3.out⟩
  case round =>
    obtain ⟨q, hq, rfl, HD, HB⟩ := hrel
    by_cases hlt : q < 4
    · have x0 : wr.cell? ⟨gp, q, none⟩ = some (.pointer (some ⟨gx, q + 1, none⟩)) := (HD.out.ptr.cell q).trans (HPS.out q hlt)
      have hi1 : (q : Int) < 4 := by omega
      go_wp2_with (first
        | (go_at_call 60; refine Hid.out ?_))
      refine Hid.mk_ ((rString HD.out.rd).mono ?_)
      rintro e w4 ⟨rfl, hR4, hg4⟩
      have hD4 := HD.out.call hR4 hg4
      have hB4 : Blk w4 w.heap.size 46 #[.int .i64 0, .string ⟨#[]⟩, .string ⟨#[]⟩, .string ⟨#[]⟩, .string ⟨#[]⟩, .int .i64 0, .int .i64 0, .int .i64 0] := HB.out.grown hg4 (by intro e; injection e with e; omega)
      have hq8 : q + 1 < (cS l ([], p0, f0) cs q).size := by rw [cS_size, HCZ.out]; omega
      have z0 : w4.cell? ⟨gx, q + 1, none⟩ = some (cS l ([], p0, f0) cs q)[q + 1] := (hD4.blk.cell (q + 1)).trans (Array.getElem?_eq_getElem hq8)
      obtain ⟨old, hold⟩ : ∃ old, old = (cS l ([], p0, f0) cs q)[q + 1] := ⟨_, rfl⟩
      rw [← hold] at z0
      have z1 : w4.frozen? ⟨gx, q + 1, none⟩ = false := hD4.blk.frozen (q + 1)
      obtain ⟨sv, hsv⟩ : ∃ sv, sv = str (stepS l (sS l ([], p0, f0) q).2.1 (sS l ([], p0, f0) q).2.2).1 := ⟨_, rfl⟩
      have hD5 : DSt w (w4.setCell ⟨gx, q + 1, none⟩ (.string sv)) g gx gp 98 ps (cS l ([], p0, f0) cs (q + 1)) A1 m1 c1 l (sS l ([], p0, f0) (q + 1)).2.1 (sS l ([], p0, f0) (q + 1)).2.2 := by
        have h := hD4.set_ (q + 1) (.string sv)
        rw [hsv] at h ⊢
        exact h
      have HD5 := Lib.hid hD5
      have HB5 : Hid (Blk (w4.setCell ⟨gx, q + 1, none⟩ (.string sv)) w.heap.size 46 #[.int .i64 0, .string ⟨#[]⟩, .string ⟨#[]⟩, .string ⟨#[]⟩, .string ⟨#[]⟩, .int .i64 0, .int .i64 0, .int .i64 0]) := hB4.far (show w.heap.size ≠ gx by omega) _
      rw [← hsv]
      clear hold hsv hq8 hD4 hB4 hD5 hR4 hg4
      go_wp2
      go_roundw
      case rel => exact ⟨q + 1, by omega, by go_num, HD5, HB5⟩
      case measure => simp [intOf]; omega
    · obtain rfl : q = 4 := by omega
      obtain ⟨c4, hc4⟩ : ∃ c4, c4 = cS l ([], p0, f0) cs 4 := ⟨_, rfl⟩
      obtain ⟨s4, hs4⟩ : ∃ s4, s4 = ((0 : Int), (sS l ([], p0, f0) 4).2.1, (sS l ([], p0, f0) 4).2.2) := ⟨_, rfl⟩
      have hc4z : c4.size = 8 := by rw [hc4, cS_size, HCZ.out]
      have HC4Z := Lib.hid hc4z
      have HC4 := Lib.hid hc4
      have HS4 : Hid (s4 = ((0 : Int), (sS l ([], p0, f0) 4).2.1, (sS l ([], p0, f0) 4).2.2)) := hs4
      have hD4 : DSt w wr g gx gp 98 ps c4 A1 m1 c1 l s4.2.1 s4.2.2 := by rw [hc4, hs4]; exact HD.out
      have HD4 := Lib.hid hD4
      obtain ⟨wo, rfl⟩ : ∃ wo : World, wo = wr := ⟨_, rfl⟩
      have hi1 : ¬ ((4 : Nat) : Int) < 4 := by omega
      have hi2 : ¬ (4 : Int) < 4 := by omega
      clear hc4 hs4 hc4z hD4 HD HPS
      go_wp2
      obtain ⟨qs, hqs⟩ : ∃ qs : Array Value, qs = #[.pointer (some ⟨gx, 5, none⟩), .pointer (some ⟨gx, 6, none⟩), .pointer (some ⟨gx, 7, none⟩)] := ⟨_, rfl⟩
      obtain ⟨gq, hgq⟩ : ∃ gq, gq = wo.heap.size := ⟨_, rfl⟩
      obtain ⟨W5, hW5⟩ : ∃ W5, W5 = wo.alloc (Obj.cells qs 101) := ⟨_, rfl⟩
      have hEq : Ext wo W5 := by rw [hW5]; exact (Ext.refl wo).alloc _
      have hgqx : gx < gq := by rw [hgq]; exact HD4.out.blk.lt
      have hgqg : g < gq := by rw [hgq]; exact HD4.out.rd.blk.lt
      have hD5 : DSt w W5 g gx gq 101 qs (cI l s4 c4 0) A1 m1 c1 l (sI l s4 0).2.1 (sI l s4 0).2.2 := by
        have h := HD4.out
        refine ⟨h.blk.below hEq h.blk.lt, ?_, h.rd.ext hEq, h.ext.trans hEq, h.ne, by omega, by omega, h.alt, h.ge⟩
        rw [hW5, hgq]
        exact Blk.new _ _ _
      have HB5 : Hid (Blk W5 w.heap.size 46 #[.int .i64 0, .string ⟨#[]⟩, .string ⟨#[]⟩, .string ⟨#[]⟩, .string ⟨#[]⟩, .int .i64 0, .int .i64 0, .int .i64 0]) := HB.out.below hEq HB.out.lt
      have HQS : Hid (∀ q, q < 3 → qs[q]? = some (.pointer (some ⟨gx, q + 5, none⟩))) := fun q hq => by
        rw [hqs]
        match q, hq with
        | 0, _ => rfl
        | 1, _ => rfl
        | 2, _ => rfl
      rw [← hqs, ← hgq, ← hW5]
      clear hqs hgq hW5 HD4 hEq
      go_loopw [35] (fun i wq => ∃ q : Nat, q ≤ 3 ∧ i = .int .i64 q ∧ Hid (DSt w wq g gx gq 101 qs (cI l s4 c4 q) A1 m1 c1 l (sI l s4 q).2.1 (sI l s4 q).2.2) ∧ Hid (Blk wq w.heap.size 46 #[.int .i64 0, .string ⟨#[]⟩, .string ⟨#[]⟩, .string ⟨#[]⟩, .string ⟨#[]⟩, .int .i64 0, .int .i64 0, .int .i64 0])) (fun i _ => 3 - (intOf i).toNat)
      case atStart => exact ⟨0, Nat.zero_le _, rfl, hD5, HB5.out⟩
      case round =>
        obtain ⟨q, hq, rfl, HD, HB⟩ := hrel
        by_cases hlt : q < 3
        · have x0 : wr.cell? ⟨gq, q, none⟩ = some (.pointer (some ⟨gx, q + 5, none⟩)) := (HD.out.ptr.cell q).trans (HQS.out q hlt)
          have hi1 : (q : Int) < 3 := by omega
          go_wp2_with (first
            | (go_at_call 59; refine Hid.out ?_))
          refine Hid.mk_ ((rInt HD.out.rd).mono ?_)
          rintro e w4 ⟨rfl, hR4, hg4⟩
          have hD4 := HD.out.call hR4 hg4
          have hB4 : Blk w4 w.heap.size 46 #[.int .i64 0, .string ⟨#[]⟩, .string ⟨#[]⟩, .string ⟨#[]⟩, .string ⟨#[]⟩, .int .i64 0, .int .i64 0, .int .i64 0] := HB.out.grown hg4 (by intro e; injection e with e; omega)
          have hq8 : q + 5 < (cI l s4 c4 q).size := by rw [cI_size, HC4Z.out]; omega
          have z0 : w4.cell? ⟨gx, q + 5, none⟩ = some (cI l s4 c4 q)[q + 5] := (hD4.blk.cell (q + 5)).trans (Array.getElem?_eq_getElem hq8)
          obtain ⟨old, hold⟩ : ∃ old, old = (cI l s4 c4 q)[q + 5] := ⟨_, rfl⟩
          rw [← hold] at z0
          have z1 : w4.frozen? ⟨gx, q + 5, none⟩ = false := hD4.blk.frozen (q + 5)
          obtain ⟨sv, hsv⟩ : ∃ sv, sv = (stepI l (sI l s4 q).2.1 (sI l s4 q).2.2).1 := ⟨_, rfl⟩
          have hD5 : DSt w (w4.setCell ⟨gx, q + 5, none⟩ (.int .i64 sv)) g gx gq 101 qs (cI l s4 c4 (q + 1)) A1 m1 c1 l (sI l s4 (q + 1)).2.1 (sI l s4 (q + 1)).2.2 := by
            have h := hD4.set_ (q + 5) (.int .i64 sv)
            rw [hsv] at h ⊢
            exact h
          have HD5 := Lib.hid hD5
          have HB5 : Hid (Blk (w4.setCell ⟨gx, q + 5, none⟩ (.int .i64 sv)) w.heap.size 46 #[.int .i64 0, .string ⟨#[]⟩, .string ⟨#[]⟩, .string ⟨#[]⟩, .string ⟨#[]⟩, .int .i64 0, .int .i64 0, .int .i64 0]) := hB4.far (show w.heap.size ≠ gx by omega) _
          rw [← hsv]
          clear hold hsv hq8 hD4 hB4 hD5 hR4 hg4
          go_wp2
          go_roundw
          case rel => exact ⟨q + 1, by omega, by go_num, HD5, HB5⟩
          case measure => simp [intOf]; omega
        · obtain rfl : q = 3 := by omega
          have hi3 : ¬ (3 : Int) < 3 := by omega
          have hi4 : ¬ ((3 : Nat) : Int) < 3 := by omega
          have hblk := HD.out.blk
          have hrd := HD.out.rd
          have hext := HD.out.ext
          obtain ⟨n5, h5⟩ : ∃ n, n = (sI l s4 1).1 := ⟨_, rfl⟩
          obtain ⟨n6, h6⟩ : ∃ n, n = (sI l s4 2).1 := ⟨_, rfl⟩
          obtain ⟨n7, h7⟩ : ∃ n, n = (sI l s4 3).1 := ⟨_, rfl⟩
          obtain ⟨a1, j1⟩ : ∃ n, n = str (sS l ([], p0, f0) 1).1 := ⟨_, rfl⟩
          obtain ⟨a2, j2⟩ : ∃ n, n = str (sS l ([], p0, f0) 2).1 := ⟨_, rfl⟩
          obtain ⟨a3, j3⟩ : ∃ n, n = str (sS l ([], p0, f0) 3).1 := ⟨_, rfl⟩
          obtain ⟨a4, j4⟩ : ∃ n, n = str (sS l ([], p0, f0) 4).1 := ⟨_, rfl⟩
          obtain ⟨p7, k7⟩ : ∃ n, n = (sI l s4 3).2.1 := ⟨_, rfl⟩
          obtain ⟨f7, l7⟩ : ∃ n, n = (sI l s4 3).2.2 := ⟨_, rfl⟩
          have hcell : cI l s4 c4 3 = #[.int .i64 n0, .string a1, .string a2, .string a3, .string a4, .int .i64 n5, .int .i64 n6, .int .i64 n7] := by
            rw [h5, h6, h7, j1, j2, j3, j4, HC4.out, HCS.out]
            rfl
          have HRD2 : Hid (rdE l = (⟨n0, a1, a2, a3, a4, n5, n6, n7⟩, p7, f7)) := by
            show _ = _
            rw [HRD.out, ← HS4.out, ← h5, ← h6, ← h7, ← j1, ← j2, ← j3, ← j4, ← k7, ← l7]
          rw [hcell] at hblk
          rw [← k7, ← l7] at hrd
          clear h5 h6 h7 j1 j2 j3 j4 k7 l7 hcell HRD HS4 HC4 HCS HD hlt
          obtain ⟨gr, hgr⟩ : ∃ gr, gr = w.heap.size := ⟨_, rfl⟩
          have HGR := Lib.hid hgr
          go_wp2_with (first
            | (go_at_call 61; refine Hid.out ?_))
          refine Hid.mk_ ((end_any hrd).mono ?_)
          rintro e w6 ⟨hE6, rfl⟩
          have hb6 := hblk.below hE6 hblk.lt
          have HBR : Hid (Blk w6 gr 46 #[.int .i64 0, .string ⟨#[]⟩, .string ⟨#[]⟩, .string ⟨#[]⟩, .string ⟨#[]⟩, .int .i64 0, .int .i64 0, .int .i64 0]) := by
            show Blk _ _ _ _
            rw [hgr]
            exact HB.out.below hE6 HB.out.lt
          have HEZ : Hid (Ext w w6) := hext.trans hE6
          rw [← hgr]
          clear hgr hblk hrd hext hE6 HB
          by_cases hc : f7 = true ∨ p7 ≠ l.length
          · have he : endE l.length p7 f7 = 4 := by unfold endE; rw [if_pos hc]
            have HDE : Hid (decE l = (ev0, 4)) := by show _ = _; unfold decE; rw [HRD2.out, if_pos hc]
            rw [he]
            clear hc he hb6 HRD2
            have hrb := HBR.out
            have k0 := hrb.cell 0
            have k1 := hrb.cell 1
            have k2 := hrb.cell 2
            have k3 := hrb.cell 3
            have k4 := hrb.cell 4
            have k5 := hrb.cell 5
            have k6 := hrb.cell 6
            have k7 := hrb.cell 7
            have m0 := hrb.frozen 0
            have m1' := hrb.frozen 1
            have m2 := hrb.frozen 2
            have m3 := hrb.frozen 3
            have m4 := hrb.frozen 4
            have m5 := hrb.frozen 5
            have m6 := hrb.frozen 6
            have m7 := hrb.frozen 7
            clear hrb
            go_wp2
            refine bodyPost_ret (results_cell_row_tmpE rfl _ _ gr 46 _ (0, 0) _ rfl ((((((((HBR.out.set_ 0 _).set_ 1 _).set_ 2 _).set_ 3 _).set_ 4 _).set_ 5 _).set_ 6 _).set_ 7 _) Tryz.underlying46 rfl info_ev8) rfl ?_
            refine ⟨by rw [HDE.out]; rfl, ?_⟩
            iterate 8 refine Ext.set_ ?_ (by show w.heap.size ≤ gr; rw [HGR.out]; exact Nat.le_refl _) _
            exact HEZ.out
          · have he : endE l.length p7 f7 = 0 := by unfold endE; rw [if_neg hc]
            have HDE : Hid (decE l = (⟨n0, a1, a2, a3, a4, n5, n6, n7⟩, 0)) := by show _ = _; unfold decE; rw [HRD2.out, if_neg hc]
            rw [he]
            have e0 : w6.cell? ⟨gx, 0, none⟩ = some (.int .i64 n0) := hb6.cell 0
            have e1 : w6.cell? ⟨gx, 1, none⟩ = some (.string a1) := hb6.cell 1
            have e2 : w6.cell? ⟨gx, 2, none⟩ = some (.string a2) := hb6.cell 2
            have e3 : w6.cell? ⟨gx, 3, none⟩ = some (.string a3) := hb6.cell 3
            have e4 : w6.cell? ⟨gx, 4, none⟩ = some (.string a4) := hb6.cell 4
            have e5 : w6.cell? ⟨gx, 5, none⟩ = some (.int .i64 n5) := hb6.cell 5
            have e6 : w6.cell? ⟨gx, 6, none⟩ = some (.int .i64 n6) := hb6.cell 6
            have e7 : w6.cell? ⟨gx, 7, none⟩ = some (.int .i64 n7) := hb6.cell 7
            clear hc he hb6 HRD2
            have hrb := HBR.out
            have k0 := hrb.cell 0
            have k1 := hrb.cell 1
            have k2 := hrb.cell 2
            have k3 := hrb.cell 3
            have k4 := hrb.cell 4
            have k5 := hrb.cell 5
            have k6 := hrb.cell 6
            have k7 := hrb.cell 7
            have m0 := hrb.frozen 0
            have m1' := hrb.frozen 1
            have m2 := hrb.frozen 2
            have m3 := hrb.frozen 3
            have m4 := hrb.frozen 4
            have m5 := hrb.frozen 5
            have m6 := hrb.frozen 6
            have m7 := hrb.frozen 7
            clear hrb
            go_wp2
            refine bodyPost_ret (results_cell_row_tmpE rfl _ _ gr 46 _ (0, 0) _ rfl ((((((((HBR.out.set_ 0 _).set_ 1 _).set_ 2 _).set_ 3 _).set_ 4 _).set_ 5 _).set_ 6 _).set_ 7 _) Tryz.underlying46 rfl info_ev8) rfl ?_
            refine ⟨by rw [HDE.out]; rfl, ?_⟩
            iterate 8 refine Ext.set_ ?_ (by show w.heap.size ≤ gr; rw [HGR.out]; exact Nat.le_refl _) _
            exact HEZ.out
end
end Go.Proofs.YtoghaehcmbonnaaGreatDoor
