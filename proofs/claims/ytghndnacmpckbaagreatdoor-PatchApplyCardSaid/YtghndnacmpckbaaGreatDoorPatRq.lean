/- read of the reference. -/
import Derived.Test.YtghndnacmpckbaaGreatDoorPatRp
import Derived.Test.YtghndnacmpckbaaGreatDoorParseS
namespace Go.Proofs.YtghndnacmpckbaaGreatDoor
open Go.RowKit
set_option maxRecDepth 100000
attribute [local go_sem] ext_refl_t ext_alloc_t ext_drew_t ext_drewN_t ext_alloc2_t ext_alloc3_t ext_alloc4_t ext_alloc5_t ext_alloc6_t ext_alloc7_t ext_alloc8_t ext_alloc1d_t ext_alloc2d_t ext_alloc3d_t ext_alloc4d_t
theorem info_rcontent : (Tryz.prog.info? 25).map (·.size) = some 5 := by kernel_rfl
theorem einfo_rop : EInfo 23 29 4 48 := EInfo.mk_ (z := .agg #[.bool false, .int .i64 0, .int .i64 0, .slice none 0 0]) Tryz.underlying23 (by kernel_rfl) rfl (by omega) (by omega)
structure RSt (w0 w : World) (g g6 : Nat) (cs : Array Value) (A : Option Addr) (m c : Nat) (bs : List UInt8) (p : Nat) (f : Bool) : Prop where
  blk : Blk w g6 25 cs
  rd : RRdr w g A m c bs p f
  ext : Ext w0 w
  ne : g6 ≠ g
  alt : obm m A = none ∨ obm m A ≠ some g6
  ge : w0.heap.size ≤ g ∧ w0.heap.size ≤ g6
section
variable {w0 w w' : World} {g g6 gx : Nat} {cs : Array Value} {A : Option Addr} {m c : Nat} {bs : List UInt8} {p p' : Nat} {f f' : Bool}
theorem RSt.call (h : RSt w0 w g g6 cs A m c bs p f) (hR : RRdr w' g A m c bs p' f') (hg : w.grownBy w' (some g)) : RSt w0 w' g g6 cs A m c bs p' f' :=
  ⟨h.blk.grown hg (fun e => by injection e with e; exact h.ne e), hR, h.ext.grown hg (fun k hk => by cases hk; exact h.ge.1), h.ne, h.alt, h.ge⟩
theorem RSt.later (h : RSt w0 w g g6 cs A m c bs p f) (hE : Ext w w') : RSt w0 w' g g6 cs A m c bs p f :=
  ⟨h.blk.below hE h.blk.lt, h.rd.ext hE, h.ext.trans hE, h.ne, h.alt, h.ge⟩
theorem RSt.set_ (h : RSt w0 w g g6 cs A m c bs p f) (k : Nat) (v : Value) : RSt w0 (w.setCell ⟨g6, k, none⟩ v) g g6 (cs.setIfInBounds k v) A m c bs p f :=
  ⟨h.blk.set_ k v, h.rd.kept (grown_setW w ⟨g6, k, none⟩ v) (fun e => by injection e with e; exact h.ne e) h.alt, h.ext.set_ h.ge.2 v, h.ne, h.alt, h.ge⟩
/-- What was read so far, with the operations. -/
structure RLp (w0 : World) (b : Nat) (w : World) (g g6 : Nat) (a0 a1 a2 a3 : Value) (A : Option Addr) (m c : Nat) (bs : List UInt8) (p : Nat) (f : Bool) (Ao : Option Addr) (mo co : Nat) (L : List ROp) : Prop where
  st : RSt w0 w g g6 #[a0, a1, a2, a3, .slice Ao mo co] A m c bs p f
  own : OsC ropC 29 4 w b Ao mo co L
  each : ∀ x ∈ L, ropW w x ∧ ∀ j, ob x.h.A = some j → b ≤ j ∧ j < w.heap.size ∧ ob Ao ≠ some j
  lt : g < b ∧ g6 < b ∧ (∀ k, obm m A = some k → k < b)
  bw : b ≤ w.heap.size
  w0b : w0.heap.size ≤ b
variable {b : Nat} {a0 a1 a2 a3 : Value} {Ao A2 : Option Addr} {mo co m2 c2 : Nat} {L : List ROp} {x : ROp}
theorem ropW.kept {r : Option Nat} (h : ropW w x) (hg : w.grownBy w' r) (hne : ∀ j, ob x.h.A = some j → r ≠ some j) : ropW w' x := by
  unfold ropW at h ⊢
  cases hp : x.p with
  | cp o n => trivial
  | ins s =>
    rw [hp] at h
    refine SlB.kept h hg ?_
    cases hA : ob x.h.A with
    | none => exact .inl rfl
    | some j => exact .inr (fun e => hne j hA e.symm)
theorem RLp.call (h : RLp w0 b w g g6 a0 a1 a2 a3 A m c bs p f Ao mo co L) (hR : RRdr w' g A m c bs p' f') (hg : w.grownBy w' (some g)) : RLp w0 b w' g g6 a0 a1 a2 a3 A m c bs p' f' Ao mo co L :=
  ⟨h.st.call hR hg, h.own.kept hg (ob_ne_of_lt h.own.ge h.lt.1), fun x hx => ⟨(h.each x hx).1.kept hg (fun j hj e => by injection e with e; have h1 := ((h.each x hx).2 j hj).1; have := h.lt.1; omega), fun j hj => ⟨((h.each x hx).2 j hj).1, Nat.lt_of_lt_of_le ((h.each x hx).2 j hj).2.1 hg.size, ((h.each x hx).2 j hj).2.2⟩⟩, h.lt, Nat.le_trans h.bw hg.size, h.w0b⟩
theorem RLp.later (h : RLp w0 b w g g6 a0 a1 a2 a3 A m c bs p f Ao mo co L) (hE : Ext w w') : RLp w0 b w' g g6 a0 a1 a2 a3 A m c bs p f Ao mo co L :=
  ⟨h.st.later hE, h.own.ext hE, fun x hx => ⟨(h.each x hx).1.ext hE, fun j hj => ⟨((h.each x hx).2 j hj).1, Nat.lt_of_lt_of_le ((h.each x hx).2 j hj).2.1 hE.size_le, ((h.each x hx).2 j hj).2.2⟩⟩, h.lt, Nat.le_trans h.bw hE.size_le, h.w0b⟩
theorem RLp.app (h : RLp w0 b w g g6 a0 a1 a2 a3 A m c bs p f Ao mo co L) (hxw : ropW w x) (hxb : ∀ j, ob x.h.A = some j → b ≤ j ∧ j < w.heap.size ∧ ob Ao ≠ some j) (ho : OsC ropC 29 4 w' b A2 m2 c2 (L ++ [x])) (hg : w.grownBy w' (ob Ao)) (hN : NewOr w.heap.size (ob Ao) (ob A2)) :
    RLp w0 b (w'.setCell ⟨g6, 4, none⟩ (.slice A2 m2 c2)) g g6 a0 a1 a2 a3 A m c bs p f A2 m2 c2 (L ++ [x]) := by
  have hA6 : ∀ k, ob Ao = some k → b ≤ k := h.own.ge
  have h1 : RSt w0 w' g g6 #[a0, a1, a2, a3, .slice Ao mo co] A m c bs p f :=
    ⟨h.st.blk.grown hg (fun e => by have := hA6 g6 e.symm; have := h.lt.2.1; omega), h.st.rd.kept hg (fun e => by have := hA6 g e; have := h.lt.1; omega) (by
      cases hm : obm m A with
      | none => exact .inl rfl
      | some j => exact .inr (fun e => by have h1 := h.lt.2.2 j hm; have h2 := hA6 j e.symm; omega)), h.st.ext.grown hg (fun k hk => Nat.le_trans h.w0b (hA6 k hk)), h.st.ne, h.st.alt, h.st.ge⟩
  refine ⟨h1.set_ 4 _, ho.kept (grown_setW w' ⟨g6, 4, none⟩ _) (ob_ne_of_lt ho.ge h.lt.2.1), ?_, h.lt, Nat.le_trans h.bw (Nat.le_trans hg.size (grown_setW w' ⟨g6, 4, none⟩ (.slice A2 m2 c2)).size), h.w0b⟩
  have hall : ∀ y ∈ L ++ [x], ropW w y ∧ ∀ j, ob y.h.A = some j → b ≤ j ∧ j < w.heap.size ∧ ob Ao ≠ some j := fun y hy => by
    rcases List.mem_append.1 hy with hy | hy
    · exact h.each y hy
    · rw [List.mem_singleton.1 hy]; exact ⟨hxw, hxb⟩
  intro y hy
  obtain ⟨k1, k2⟩ := hall y hy
  refine ⟨(k1.kept hg (fun j hj => (k2 j hj).2.2)).kept (grown_setW w' ⟨g6, 4, none⟩ (.slice A2 m2 c2)) (fun j hj e => by have e2 : g6 = j := Option.some.inj e; have h1 := (k2 j hj).1; have := h.lt.2.1; omega), fun j hj => ⟨(k2 j hj).1, Nat.lt_of_lt_of_le (k2 j hj).2.1 (Nat.le_trans hg.size (grown_setW w' ⟨g6, 4, none⟩ (.slice A2 m2 c2)).size), fun e => ?_⟩⟩
  rcases hN j e with h3 | h3
  · have := (k2 j hj).2.1; omega
  · exact (k2 j hj).2.2 h3
end
section
variable {st : Int → Int → List UInt8 → Nat → Bool → Int × Nat × Bool} {bs : List UInt8} {v : HdV}
theorem OInv.end_no2 {q p0 : Nat} {L : List POp} {p : Nat} {f : Bool} (h : OInv bs p0 q L p f) (hq : ∀ c a b, bs = encP c → ProperC c a b → q = c.ops.length) (hb : f = true ∨ p < bs.length) : DecO bs none := fun c a b e hP => by
  obtain ⟨h1, h2, h3, h4⟩ := h.cmp c a b e hP
  rw [hq c a b e hP, List.drop_length, List.flatMap_nil] at h4
  rcases hb with hb | hb
  · rw [h2] at hb; cases hb
  · have := congrArg List.length h4
    rw [List.length_drop, List.length_nil] at this
    omega
theorem OInv.end_len (hs : StOk st) (hv : hdv st bs = v) {q : Nat} {L : List POp} {p : Nat} {f : Bool} (h : OInv bs v.p q L p f) (hq : ∀ c a b, bs = encP c → ProperC c a b → q = c.ops.length) (hb : v.n ≠ (L.length : Int)) : DecO bs none := fun c a b e hP => by
  obtain ⟨h1, h2, h3, h4⟩ := h.cmp c a b e hP
  rw [hq c a b e hP, List.take_length] at h3
  exact hb (by rw [(hdv_ops hs hv e hP).2.2.2.2.2.1, h3])
theorem OInv.end_pr (hs : StOk st) (hv : hdv st bs = v) {q : Nat} {L : List POp} {p : Nat} {f : Bool} (h : OInv bs v.p q L p f) (hq : ∀ c a b, bs = encP c → ProperC c a b → q = c.ops.length) (hb : ¬ PrC v.old v.new v.os v.ns L) : DecO bs none := fun c a b e hP => by
  obtain ⟨h1, h2, h3, h4⟩ := h.cmp c a b e hP
  rw [hq c a b e hP, List.take_length] at h3
  obtain ⟨_, k1, k2, k3, k4, _, _⟩ := hdv_ops hs hv e hP
  refine hb ⟨a, b, ?_⟩
  rw [k1, k2, k3, k4, h3]
  exact hP
theorem OInv.end_ok (hs : StOk st) (hv : hdv st bs = v) {q : Nat} {L : List POp} {p : Nat} {f : Bool} (h : OInv bs v.p q L p f) (hvf : f = false → v.f = false) (hf : f = false) (hp : p = bs.length) (ht : v.t = titleB) (hn : v.n = (L.length : Int)) {a b : Nat} (hP : ProperC ⟨v.old, v.os, v.new, v.ns, L⟩ a b) :
    DecO bs (some (⟨v.old, v.os, v.new, v.ns, L⟩, a, b)) := by
  obtain ⟨hh, hr⟩ := hdv_snd hs hv (hvf hf)
  have h3 := h.snd hf
  have hd : bs.drop p = [] := List.drop_eq_nil_of_le (by omega)
  rw [hd, List.append_nil] at h3
  exact ⟨by rw [hh, h3, ht, hn]; rfl, hP⟩
theorem stepI_keep {bs : List UInt8} {p : Nat} {f : Bool} {n : Int} {p' : Nat} {f' : Bool} (h : stepI bs p f = (n, p', f')) : f' = false → f = false := by
  rintro rfl
  exact (stI_ok.snd (lo := 0) (hi := 0) h).1
end
def zeroRC : Array Value := #[.int .i64 0, .int .i64 0, .string ⟨#[]⟩, .string ⟨#[]⟩, .slice none 0 0]
/-- What read returns. -/
def ROpenS (w' : World) (l : List UInt8) (cells : Array Value) (code : Int) : Prop :=
  ((openR pkey l).2 ≠ 0 ∧ cells = zeroRC ∧ code = ((openR pkey l).2 : Nat)) ∨ ((openR pkey l).2 = 0 ∧ ((DecO (openR pkey l).1 none ∧ cells = zeroRC ∧ code = 4) ∨
    ∃ (d : PC) (a b : Nat) (A : Option Addr) (m c : Nat) (L : List ROp), DecO (openR pkey l).1 (some (d, a, b)) ∧ L.map ROp.p = d.ops ∧ cells = #[.int .i64 d.old, .int .i64 d.new, .string (str d.os), .string (str d.ns), .slice A m c] ∧ SlC ropC 4 w' A m L ∧ (∀ x ∈ L, ropW w' x) ∧ m ≤ c ∧ code = 0))
section
variable {w : World} {A : Option Addr} {m : Nat} {s : List UInt8}
set_option maxHeartbeats 3200000 in
theorem rOpenC_any (h c : Nat) (hh : h < 18446744073709551616) (hs : SlB w A m s) (hmc : m ≤ c) (hm : m ≤ 140737488351232) :
    Calls Tryz.prog 39 #[.int .u64 h, .slice A m c] w fun e w' => ∃ A2 m2 c2, e = .returned (.tuple #[.slice A2 m2 c2, .int .i64 ((openR h s).2 : Nat)]) ∧ SlB w' A2 m2 (openR h s).1 ∧ m2 ≤ c2 ∧ (∀ j, obm m2 A2 = some j → j < w'.heap.size) ∧ Ext w w' := by
  have HL := Lib.hid hs.len
  by_cases h8 : m < 8
  · have h8' : (m : Int) < 8 := by omega
    have hr : openR h s = ([], 4) := by unfold openR; rw [if_pos (by rw [← HL.out]; exact h8)]
    have HR := Lib.hid hr
    clear hr
    go_enter Tryz.func39, Tryz.ntmps39
    go_wp2
    go_ret2
    exact ⟨none, 0, 0, by rw [HR.out]; rfl, by rw [HR.out]; exact SlB.nil_, Nat.le_refl _, (fun j hj => by cases hj), Ext.refl _⟩
  · obtain ⟨n, rfl⟩ : ∃ n, m = n + 8 := ⟨m - 8, by omega⟩
    obtain ⟨A1, _, _, hc1, hs1, hb1⟩ := cut_run hs (i := 0) (j := n) (by omega) (by omega) hmc
    have hcut1 := fun W => (hc1 W .i64 n rfl rfl)
    have e1 : (List.drop 0 (s.take n)) = s.take n := rfl
    rw [e1, Nat.sub_zero] at hs1
    simp only [Nat.sub_zero] at hcut1
    have hi8 : ¬ ((n : Int) < 0) := by omega
    have hsl : sealL h (s.take n) = s ↔ s.drop n = eightL (sealN h (s.take n)) := by
      unfold sealL
      constructor
      · intro e
        conv => lhs; rw [← e]
        rw [List.drop_left' (by rw [List.length_take, ← HL.out]; omega)]
      · intro e
        rw [← e, List.take_append_drop]
    have hor : openR h s = if sealL h (s.take n) = s then (s.take n, 0) else ([], 5) := by
      unfold openR
      rw [if_neg (by rw [← HL.out]; omega), show s.length - 8 = n by rw [← HL.out]; omega]
      by_cases e : s.drop n = eightL (sealN h (s.take n))
      · rw [if_pos e, if_pos (hsl.2 e)]
      · rw [if_neg e, if_neg (fun e2 => e (hsl.1 e2))]
    have HOR := Lib.hid hor
    clear hc1 e1 h8 hsl hor
    go_enter Tryz.func39, Tryz.ntmps39
    go_wp2_with (first
      | (go_at_call 7; refine Hid.out ?_))
    refine Hid.mk_ ((refSealS_any h _ hh hs1 (by omega)).mono ?_)
    rintro e w1 ⟨A2, m2, c2, rfl, ho2, hE1⟩
    go_wp2_with (first
      | (go_at_call 12; refine Hid.out ?_))
    refine Hid.mk_ ((same3B _ _ ho2.sl (hs.ext hE1)).mono ?_)
    rintro e w2 ⟨rfl, hE2⟩
    have hE12 := hE1.trans hE2
    by_cases heq : sealL h (s.take n) = s
    · rw [decide_eq_true heq]
      have hor2 : openR h s = (s.take n, 0) := by rw [HOR.out, if_pos heq]
      have HO2 := Lib.hid hor2
      clear hor2 heq
      go_wp2_with (first
        | (at_builtin; refine Hid.out ?_))
      refine Hid.mk_ ?_
      refine appB rfl _ _ rfl (OsB.new_ w2 w2.heap.size (Nat.le_refl _) [] (by simp) _ rfl 0 rfl) rfl (hs1.ext (hE12.trans ((Ext.refl _).alloc _))) rfl (by omega) (by simp) ?_
      intro A4 m4 c4 w4 ho4 hg4 hat4
      have hE4 : Ext w2 w4 := ((Ext.refl w2).alloc _).grown hg4 (by intro k hk; simp [ob] at hk; omega)
      go_wp2
      go_ret2
      exact ⟨A4, m4, c4, by rw [HO2.out]; rfl, by rw [HO2.out]; exact ho4.sl, ho4.cap, fun j hj => ho4.lt j (obm_ob hj), hE12.trans hE4⟩
    · rw [decide_eq_false heq]
      have hor2 : openR h s = ([], 5) := by rw [HOR.out, if_neg heq]
      have HO2 := Lib.hid hor2
      clear hor2 heq
      go_wp2
      go_ret2
      exact ⟨none, 0, 0, by rw [HO2.out]; rfl, by rw [HO2.out]; exact SlB.nil_, Nat.le_refl _, (fun j hj => by cases hj), hE12⟩
theorem rOpenC_key (c : Nat) (hs : SlB w A m s) (hmc : m ≤ c) (hm : m ≤ 140737488351232) :
    Calls Tryz.prog 39 #[.int .u64 482671354728, .slice A m c] w fun e w' => ∃ A2 m2 c2, e = .returned (.tuple #[.slice A2 m2 c2, .int .i64 ((openR pkey s).2 : Nat)]) ∧ SlB w' A2 m2 (openR pkey s).1 ∧ m2 ≤ c2 ∧ (∀ j, obm m2 A2 = some j → j < w'.heap.size) ∧ Ext w w' := rOpenC_any pkey c (by decide) hs hmc hm
end
theorem zeroS_str : (⟨#[]⟩ : ByteArray) = str [] := rfl
theorem bys_length (s : ByteArray) : (bys s).length = s.size := by unfold bys; rw [Array.length_toList]; rfl
theorem conv2 (s : ByteArray) (W : World) (hs : s.size ≤ 1000000) : ∃ C W', (convert 9 22 (.string s)).run Tryz.prog W = .ok (.slice (some ⟨W.heap.size, 0, none⟩) s.size C) W' ∧ Ext W W' ∧ W.heap.size < W'.heap.size ∧ SlB W' (some ⟨W.heap.size, 0, none⟩) s.size (bys s) := by
  have hlt : W.heap.size < (W.drew.alloc (.cells (bytesRow s (grownCap W s.size 0 5)) 5 ((bytesRow s (grownCap W s.size 0 5)).size, (bytesRow s (grownCap W s.size 0 5)).size + 1))).heap.size := by simp
  refine ⟨_, _, run_bytes_of_string W _ _ _ s Tryz.underlying9 Tryz.underlying22 Tryz.underlying5, (Ext.refl _).drew.alloc _, hlt, ⟨⟨by rw [List.length_map, Nat.mul_one]; exact bys_length s, fun _ => ⟨_, rfl, hlt, fun j u hj => ?_⟩⟩, (bys_length s).symm, by omega⟩⟩
  rw [List.getElem?_map] at hj
  obtain ⟨y, hy, rfl⟩ := Option.map_eq_some_iff.1 hj
  obtain ⟨hjl, hy⟩ := List.getElem?_eq_some_iff.1 hy
  have hjs : j < s.size := by rw [bys_length] at hjl; exact hjl
  have h1 := bytesRow_at s (grownCap W s.size 0 5) j hjs
  have h2 := cell_of_row _ W.heap.size j _ _ _ (heap_alloc_new W.drew (.cells (bytesRow s (grownCap W s.size 0 5)) 5 ((bytesRow s (grownCap W s.size 0 5)).size, (bytesRow s (grownCap W s.size 0 5)).size + 1)))
  rw [Addr.add_lit, Nat.zero_add, h2, h1, ← hy]
  rfl
section
variable {w : World} {g : Nat} {A : Option Addr} {m c : Nat} {bs : List UInt8} {p : Nat} {f : Bool}
theorem refInt_at {n : Int} {p' : Nat} {f' : Bool} (hS : stepI bs p f = (n, p', f')) (hR : RRdr w g A m c bs p f) :
    Calls Tryz.prog 41 #[.pointer (some ⟨g, 0, none⟩)] w fun e w' => e = .returned (.int .i64 n) ∧ RRdr w' g A m c bs p' f' ∧ w.grownBy w' (some g) := by
  have h := refInt_any hR
  rw [hS] at h
  exact h
theorem refString_at {s : List UInt8} {r : ByteArray} {p' : Nat} {f' : Bool} (hS : stepS bs p f = (s, p', f')) (hr : r = str s) (hR : RRdr w g A m c bs p f) :
    Calls Tryz.prog 40 #[.pointer (some ⟨g, 0, none⟩)] w fun e w' => e = .returned (.string r) ∧ RRdr w' g A m c bs p' f' ∧ w.grownBy w' (some g) := by
  have h := refString_any hR
  rw [hS, ← hr] at h
  exact h
end
section
variable {w : World}
set_option maxHeartbeats 25600000 in
theorem rread_any {A : Option Addr} {m : Nat} (c : Nat) {l : List UInt8} (hs : SlB w A m l) (hmc : m ≤ c) (hm : m ≤ 1000000) :
    Calls Tryz.prog 19 #[.slice A m c] w fun e w' => (∃ (cells : Array Value) (code : Int), e = .returned (.tuple #[.agg cells, .int .i64 code]) ∧ ROpenS w' l cells code) ∧ Ext w w' := by
  have HML := Lib.hid hs.len
  obtain ⟨W0, hW0⟩ : ∃ W0, W0 = w.alloc (Obj.cells #[.int .i64 0, .int .i64 0, .string ⟨#[]⟩, .string ⟨#[]⟩, .slice none 0 0] 25) := ⟨_, rfl⟩
  have hb0 : Blk W0 w.heap.size 25 #[.int .i64 0, .int .i64 0, .string ⟨#[]⟩, .string ⟨#[]⟩, .slice none 0 0] := by rw [hW0]; exact Blk.new w _ _
  have hE0 : Ext w W0 := by rw [hW0]; exact (Ext.refl w).alloc _
  obtain ⟨gr, hgr⟩ : ∃ gr, gr = w.heap.size := ⟨_, rfl⟩
  have HGR := Lib.hid hgr
  go_enter Tryz.func19, Tryz.ntmps19
  go_wp2_with (first
    | (go_at_call 39; refine Hid.out ?_))
  rw [← hW0, ← hgr]
  rw [← hgr] at hb0
  refine Hid.mk_ ((rOpenC_key c (hs.ext hE0) hmc (by omega)).mono ?_)
  rintro e w1 ⟨A1, m1, c1, rfl, hs1, hc1, hob1, hE1⟩
  obtain ⟨bs, oc, hOR⟩ : ∃ bs oc, openR pkey l = (bs, oc) := ⟨(openR pkey l).1, (openR pkey l).2, rfl⟩
  have hbl := openR_len pkey l
  rw [hOR] at hs1 hbl ⊢
  dsimp only at hs1 hbl ⊢
  have HOR := Lib.hid hOR
  clear hW0 hgr hOR
  have HBL : Hid (bs.length ≤ 1000000) := by show _ ≤ _; have hml := HML.out; omega
  clear hbl
  by_cases hz : oc = 0
  case neg =>
    have hzb : ((oc : Int) != 0) = true := by rw [bne_iff_ne]; omega
    have HOS : Hid (∀ W, ROpenS W l zeroRC (oc : Int)) := fun W => .inl ⟨by rw [HOR.out]; exact hz, rfl, by rw [HOR.out]⟩
    clear hz
    have hrb := hb0.below hE1 hb0.lt
    have k0 := hrb.cell 0
    have k1 := hrb.cell 1
    have k2 := hrb.cell 2
    have k3 := hrb.cell 3
    have k4 := hrb.cell 4
    have k5 := hrb.frozen 0
    have k6 := hrb.frozen 1
    have k7 := hrb.frozen 2
    have k8 := hrb.frozen 3
    have k9 := hrb.frozen 4
    have HBR : Hid (Blk _ gr 25 _) := hrb
    have HEZ : Hid (Ext w _) := hE0.trans hE1
    clear hrb hb0
    go_wp2
    refine bodyPost_ret (results_cell_row_tmpP rfl _ _ gr 25 #[.int .i64 0, .int .i64 0, .string ⟨#[]⟩, .string ⟨#[]⟩, .slice none 0 0] (0, 0) _ rfl (((((HBR.out.set_ 0 _).set_ 1 _).set_ 2 _).set_ 3 _).set_ 4 _) Tryz.underlying25 rfl info_rcontent) rfl ?_
    refine ⟨⟨_, _, rfl, HOS.out _⟩, ?_⟩
    iterate 5 refine Ext.set_ ?_ (by show w.heap.size ≤ gr; rw [HGR.out]; exact Nat.le_refl _) _
    exact HEZ.out
  case pos =>
  subst hz
  have HNO : Hid (DecO bs none → ∀ W, ROpenS W l zeroRC 4) := fun h W => .inr ⟨by rw [HOR.out], .inl ⟨by rw [HOR.out]; exact h, rfl, rfl⟩⟩
  obtain ⟨W2, hW2⟩ : ∃ W2, W2 = w1.alloc (Obj.cells #[.slice A1 m1 c1, .int .i64 0, .bool false] 73) := ⟨_, rfl⟩
  obtain ⟨g, hg⟩ : ∃ g, g = w1.heap.size := ⟨_, rfl⟩
  have hE2 : Ext w1 W2 := by rw [hW2]; exact (Ext.refl w1).alloc _
  have hR2 : RRdr W2 g A1 m1 c1 bs 0 false := by
    have hb := Blk.new w1 73 #[.slice A1 m1 c1, .int .i64 0, .bool false]
    rw [← hW2, ← hg] at hb
    exact ⟨hb, hs1.ext hE2, by
      cases hm1 : obm m1 A1 with
      | none => exact .inl rfl
      | some j => exact .inr (fun e => by injection e with e; have := hob1 j hm1; omega), Nat.zero_le _, hc1, fun k hk => Nat.lt_of_lt_of_le (hob1 k hk) hE2.size_le⟩
  have HG1 : Hid (w1.heap.size ≤ g) := by rw [hg]; exact Nat.le_refl _
  have HGG : Hid (gr < w1.heap.size) := Nat.lt_of_lt_of_le hb0.lt hE1.size_le
  go_wp2_with (first
    | (go_at_call 40; refine Hid.out ?_))
  rw [← hW2, ← hg]
  clear hW2 hg hs1 hc1 hob1
  refine Hid.mk_ ((refString_any hR2).mono ?_)
  rintro e w3 ⟨rfl, hR3, hg3⟩
  obtain ⟨t, p3, f3, hS⟩ : ∃ s p' f', stepS bs 0 false = (s, p', f') := ⟨_, _, _, rfl⟩
  rw [hS] at hR3 ⊢
  dsimp only at hR3 ⊢
  have HS3 := Lib.hid hS
  have hE13 : Ext w1 w3 := hE2.grown hg3 (fun k hk => by injection hk with hk; rw [← hk]; exact HG1.out)
  clear hS hg3 hR2 hE2
  go_wp2_with (first
    | (go_at_call 41; refine Hid.out ?_))
  refine Hid.mk_ ((refInt_any hR3).mono ?_)
  rintro e w4 ⟨rfl, hR4, hg4⟩
  obtain ⟨old, p4, f4, hS⟩ : ∃ n p f', stepI bs p3 f3 = (n, p, f') := ⟨_, _, _, rfl⟩
  rw [hS] at hR4 ⊢
  dsimp only at hR4 ⊢
  have HS4 := Lib.hid hS
  have hE14 : Ext w1 w4 := hE13.grown hg4 (fun k hk => by injection hk with hk; rw [← hk]; exact HG1.out)
  clear hS hg4 hR3 hE13
  have hgl4 := hR4.blk.lt
  have halt4 := hR4.alt
  go_wp2_with (first
    | (go_at_call 40; refine Hid.out ?_))
  refine Hid.mk_ ((refString_any hR4).mono ?_)
  rintro e w5 ⟨rfl, hR5, hg5⟩
  have hle := stepS_leP bs p4 f4
  obtain ⟨os, p5, f5, hS⟩ : ∃ s p' f', stepS bs p4 f4 = (s, p', f') := ⟨_, _, _, rfl⟩
  rw [hS] at hR5 hle ⊢
  dsimp only at hR5 hle ⊢
  have HLE5 : Hid (os.length ≤ 1000000) := Nat.le_trans hle HBL.out
  have HS5 := Lib.hid hS
  have hE15 : Ext w1 w5 := hE14.grown hg5 (fun k hk => by injection hk with hk; rw [← hk]; exact HG1.out)
  clear hS hle hg5 hR4 hE14 hgl4 halt4
  obtain ⟨W6, hW6⟩ : ∃ W6, W6 = w5.alloc (Obj.cells #[.int .i64 old, .int .i64 0, .string (str os), .string ⟨#[]⟩, .slice none 0 0] 25) := ⟨_, rfl⟩
  have hb6 : Blk W6 w5.heap.size 25 #[.int .i64 old, .int .i64 0, .string (str os), .string ⟨#[]⟩, .slice none 0 0] := by rw [hW6]; exact Blk.new w5 _ _
  have hE6 : Ext w5 W6 := by rw [hW6]; exact (Ext.refl w5).alloc _
  obtain ⟨g6, hg6⟩ : ∃ g6, g6 = w5.heap.size := ⟨_, rfl⟩
  go_wp2_with (first
    | (go_at_call 41; refine Hid.out ?_))
  rw [← hW6, ← hg6]
  rw [← hg6] at hb6
  have hI6 : RSt w1 W6 g g6 #[.int .i64 old, .int .i64 0, .string (str os), .string ⟨#[]⟩, .slice none 0 0] A1 m1 c1 bs p5 f5 :=
    ⟨hb6, hR5.ext hE6, hE15.trans hE6, by have := hR5.blk.lt; omega, by
      cases hm1 : obm m1 A1 with
      | none => exact .inl rfl
      | some j => exact .inr (fun e => by injection e with e; have := hR5.alt j hm1; omega), HG1.out, by rw [hg6]; exact hE15.size_le⟩
  clear hW6 hg6 hb6 hE6 hE15 hR5
  refine Hid.mk_ ((refInt_any hI6.rd).mono ?_)
  rintro e w7 ⟨rfl, hR7, hg7⟩
  obtain ⟨new, p7, f7, hS⟩ : ∃ n p f', stepI bs p5 f5 = (n, p, f') := ⟨_, _, _, rfl⟩
  rw [hS] at hR7 ⊢
  dsimp only at hR7 ⊢
  have HS7 := Lib.hid hS
  have hI7 := hI6.call hR7 hg7
  clear hS hR7 hg7 hI6
  have s_8 : _ = some (.int .i64 0 : Value) := hI7.blk.cell 1
  have t_8 := hI7.blk.frozen 1
  have hI8 := hI7.set_ 1 (.int .i64 new : Value)
  clear hI7
  go_wp2_with (first
    | (go_at_call 40; refine Hid.out ?_))
  refine Hid.mk_ ((refString_any hI8.rd).mono ?_)
  rintro e w9 ⟨rfl, hR9, hg9⟩
  have hle := stepS_leP bs p7 f7
  obtain ⟨ns, p9, f9, hS⟩ : ∃ s p' f', stepS bs p7 f7 = (s, p', f') := ⟨_, _, _, rfl⟩
  rw [hS] at hR9 hle ⊢
  dsimp only at hR9 hle ⊢
  have HLE9 : Hid ((ns).length ≤ 1000000) := Nat.le_trans hle HBL.out
  have HS9 := Lib.hid hS
  have HK9 := Lib.hid (stepS_keep hS)
  have hI9 := hI8.call hR9 hg9
  clear hS hle hR9 hg9 hI8
  have s_10 : _ = some (.string ⟨#[]⟩ : Value) := hI9.blk.cell 3
  have t_10 := hI9.blk.frozen 3
  have hI10 := hI9.set_ 3 (.string (str ns) : Value)
  clear hI9
  go_wp2_with (first
    | (go_at_call 41; refine Hid.out ?_))
  refine Hid.mk_ ((refInt_any hI10.rd).mono ?_)
  rintro e w11 ⟨rfl, hR11, hg11⟩
  obtain ⟨n, p11, f11, hS⟩ : ∃ n p f', stepI bs p9 f9 = (n, p, f') := ⟨_, _, _, rfl⟩
  rw [hS] at hR11 ⊢
  dsimp only at hR11 ⊢
  have HS11 := Lib.hid hS
  have HK11 := Lib.hid (stepI_keep hS)
  have hI11 := hI10.call hR11 hg11
  clear hS hR11 hg11 hI10
  have HV : Hid (hdv stI bs = ⟨t, old, os, new, ns, n, p11, f11⟩) := by
    show _ = _
    rw [hdv_eq (st := stI) HS3.out HS4.out HS5.out HS7.out HS9.out HS11.out]
  have HE01 : Hid (Ext W0 w1) := hE1
  have hL0 : RLp w1 w11.heap.size w11 g g6 (.int .i64 old) (.int .i64 new) (.string (str os)) (.string (str ns)) A1 m1 c1 bs p11 f11 none 0 0 [] :=
    ⟨hI11, OsC.nil_ ropC_len ropC_cell, (fun x hx => by cases hx), ⟨hI11.rd.blk.lt, hI11.blk.lt, hI11.rd.alt⟩, Nat.le_refl _, hI11.ext.size_le⟩
  have HOI : Hid (OInv bs p11 0 [] p11 f11) := OInv.start stI_ok HV.out
  have HGR11 : Hid (gr < w11.heap.size) := Nat.lt_of_lt_of_le HGG.out hI11.ext.size_le
  clear hI11 hE1
  go_wp2
  go_loopw [10, 59, 71] (fun i _ _ wr => ∃ (q : Nat) (Ao : Option Addr) (mo co : Nat) (L : List ROp) (p : Nat) (ff : Bool), i = .int .i64 q ∧ q ≤ 100001 ∧ Hid (OInv bs p11 q (L.map ROp.p) p ff) ∧
      Hid (RLp w1 w11.heap.size wr g g6 (.int .i64 old) (.int .i64 new) (.string (str os)) (.string (str ns)) A1 m1 c1 bs p ff Ao mo co L) ∧ Hid (ff = false → f11 = false) ∧ mo ≤ q) (fun i _ _ _ => 100002 - (intOf i).toNat)
  case atStart => exact ⟨0, none, 0, 0, [], p11, f11, rfl, Nat.zero_le _, HOI, hL0, id, Nat.le_refl _⟩
  case round =>
    obtain ⟨q, Ao, mo, co, L, p, ff, rfl, hq, HO, HL, HFF, hmq⟩ := hrel
    clear hL0
    by_cases hi1 : (q : Int) < n
    case neg =>
      have HQE : Hid (∀ c a b, bs = encP c → ProperC c a b → q = c.ops.length) := fun c a b e hP => by
        have h1 := (HO.out.cmp c a b e hP).1
        have h2 : n = (c.ops.length : Int) := (hdv_ops stI_ok HV.out e hP).2.2.2.2.2.1
        omega
      have hple : p ≤ m1 := HL.out.st.rd.at_le
      have HM1 : Hid (m1 = bs.length) := HL.out.st.rd.rd.len
      have z1 : wr.cell? ⟨g, 1, none⟩ = some (.int .i64 p) := HL.out.st.rd.c1
      have z2 : wr.cell? ⟨g, 2, none⟩ = some (.bool ff) := HL.out.st.rd.c2
      have e0 : wr.cell? ⟨g6, 0, none⟩ = some (.int .i64 old) := HL.out.st.blk.cell 0
      have e1 : wr.cell? ⟨g6, 1, none⟩ = some (.int .i64 new) := HL.out.st.blk.cell 1
      have e2 : wr.cell? ⟨g6, 2, none⟩ = some (.string (str os)) := HL.out.st.blk.cell 2
      have e3 : wr.cell? ⟨g6, 3, none⟩ = some (.string (str ns)) := HL.out.st.blk.cell 3
      have e4 : wr.cell? ⟨g6, 4, none⟩ = some (.slice Ao mo co) := HL.out.st.blk.cell 4
      have hEx := HE01.out.trans HL.out.st.ext
      cases hff : ff with
      | true =>
        have HOS := Lib.hid (HNO.out (HO.out.end_no2 HQE.out (.inl hff)))
        rw [hff] at z2
        clear hff
        have hrb := hb0.below hEx hb0.lt
        have k0 := hrb.cell 0
        have k1 := hrb.cell 1
        have k2 := hrb.cell 2
        have k3 := hrb.cell 3
        have k4 := hrb.cell 4
        have k5 := hrb.frozen 0
        have k6 := hrb.frozen 1
        have k7 := hrb.frozen 2
        have k8 := hrb.frozen 3
        have k9 := hrb.frozen 4
        have HBR : Hid (Blk _ gr 25 _) := hrb
        have HEZ : Hid (Ext w _) := hE0.trans hEx
        clear hrb hb0
        go_wp2
        refine bodyPost_ret (results_cell_row_tmpP rfl _ _ gr 25 #[.int .i64 0, .int .i64 0, .string ⟨#[]⟩, .string ⟨#[]⟩, .slice none 0 0] (0, 0) _ rfl (((((HBR.out.set_ 0 _).set_ 1 _).set_ 2 _).set_ 3 _).set_ 4 _) Tryz.underlying25 rfl info_rcontent) rfl ?_
        refine ⟨⟨_, _, rfl, HOS.out _⟩, ?_⟩
        iterate 5 refine Ext.set_ ?_ (by show w.heap.size ≤ gr; rw [HGR.out]; exact Nat.le_refl _) _
        exact HEZ.out
      | false =>
      rw [hff] at z2
      by_cases hp : p = m1
      case neg =>
        have HOS := Lib.hid (HNO.out (HO.out.end_no2 HQE.out (.inr (by have := HM1.out; omega))))
        have hpb : ((p : Int) != (m1 : Int)) = true := by rw [bne_iff_ne]; omega
        clear hff hp
        have hrb := hb0.below hEx hb0.lt
        have k0 := hrb.cell 0
        have k1 := hrb.cell 1
        have k2 := hrb.cell 2
        have k3 := hrb.cell 3
        have k4 := hrb.cell 4
        have k5 := hrb.frozen 0
        have k6 := hrb.frozen 1
        have k7 := hrb.frozen 2
        have k8 := hrb.frozen 3
        have k9 := hrb.frozen 4
        have HBR : Hid (Blk _ gr 25 _) := hrb
        have HEZ : Hid (Ext w _) := hE0.trans hEx
        clear hrb hb0
        go_wp2
        refine bodyPost_ret (results_cell_row_tmpP rfl _ _ gr 25 #[.int .i64 0, .int .i64 0, .string ⟨#[]⟩, .string ⟨#[]⟩, .slice none 0 0] (0, 0) _ rfl (((((HBR.out.set_ 0 _).set_ 1 _).set_ 2 _).set_ 3 _).set_ 4 _) Tryz.underlying25 rfl info_rcontent) rfl ?_
        refine ⟨⟨_, _, rfl, HOS.out _⟩, ?_⟩
        iterate 5 refine Ext.set_ ?_ (by show w.heap.size ≤ gr; rw [HGR.out]; exact Nat.le_refl _) _
        exact HEZ.out
      case pos =>
      have HFP : Hid (ff = false ∧ p = bs.length) := ⟨hff, by rw [hp]; exact HM1.out⟩
      clear hff
      have hpb : ((p : Int) != (m1 : Int)) = false := by rw [hp]; simp
      clear hp
      by_cases ht : t = titleB
      case neg =>
        have HOS := Lib.hid (HNO.out (no_title stI_ok HV.out ht))
        have htb := title_neq ht
        have htb2 : ((str t).toList != [99, 97, 108, 113, 117, 101, 45, 112, 97, 116, 99, 104]) = true := by rw [bne, htb]; rfl
        clear ht
        have hrb := hb0.below hEx hb0.lt
        have k0 := hrb.cell 0
        have k1 := hrb.cell 1
        have k2 := hrb.cell 2
        have k3 := hrb.cell 3
        have k4 := hrb.cell 4
        have k5 := hrb.frozen 0
        have k6 := hrb.frozen 1
        have k7 := hrb.frozen 2
        have k8 := hrb.frozen 3
        have k9 := hrb.frozen 4
        have HBR : Hid (Blk _ gr 25 _) := hrb
        have HEZ : Hid (Ext w _) := hE0.trans hEx
        clear hrb hb0
        go_wp2
        refine bodyPost_ret (results_cell_row_tmpP rfl _ _ gr 25 #[.int .i64 0, .int .i64 0, .string ⟨#[]⟩, .string ⟨#[]⟩, .slice none 0 0] (0, 0) _ rfl (((((HBR.out.set_ 0 _).set_ 1 _).set_ 2 _).set_ 3 _).set_ 4 _) Tryz.underlying25 rfl info_rcontent) rfl ?_
        refine ⟨⟨_, _, rfl, HOS.out _⟩, ?_⟩
        iterate 5 refine Ext.set_ ?_ (by show w.heap.size ≤ gr; rw [HGR.out]; exact Nat.le_refl _) _
        exact HEZ.out
      case pos =>
      have htb : ((str t).toList == [99, 97, 108, 113, 117, 101, 45, 112, 97, 116, 99, 104]) = true := by rw [ht, ByteArray.toList_eq]; show (bys (str titleB) == _) = true; rw [bys_str]; rfl
      have htb2 : ((str t).toList != [99, 97, 108, 113, 117, 101, 45, 112, 97, 116, 99, 104]) = false := by rw [bne, htb]; rfl
      have HTT := Lib.hid ht
      clear ht
      by_cases hn : n = (mo : Int)
      case neg =>
        have hnl : n ≠ ((L.map ROp.p).length : Int) := by rw [List.length_map, ← HL.out.own.len]; exact hn
        have HOS := Lib.hid (HNO.out (HO.out.end_len stI_ok HV.out HQE.out hnl))
        have hnb : (n != (mo : Int)) = true := by rw [bne_iff_ne]; exact hn
        clear hn hnl
        have hrb := hb0.below hEx hb0.lt
        have k0 := hrb.cell 0
        have k1 := hrb.cell 1
        have k2 := hrb.cell 2
        have k3 := hrb.cell 3
        have k4 := hrb.cell 4
        have k5 := hrb.frozen 0
        have k6 := hrb.frozen 1
        have k7 := hrb.frozen 2
        have k8 := hrb.frozen 3
        have k9 := hrb.frozen 4
        have HBR : Hid (Blk _ gr 25 _) := hrb
        have HEZ : Hid (Ext w _) := hE0.trans hEx
        clear hrb hb0
        go_wp2
        refine bodyPost_ret (results_cell_row_tmpP rfl _ _ gr 25 #[.int .i64 0, .int .i64 0, .string ⟨#[]⟩, .string ⟨#[]⟩, .slice none 0 0] (0, 0) _ rfl (((((HBR.out.set_ 0 _).set_ 1 _).set_ 2 _).set_ 3 _).set_ 4 _) Tryz.underlying25 rfl info_rcontent) rfl ?_
        refine ⟨⟨_, _, rfl, HOS.out _⟩, ?_⟩
        iterate 5 refine Ext.set_ ?_ (by show w.heap.size ≤ gr; rw [HGR.out]; exact Nat.le_refl _) _
        exact HEZ.out
      case pos =>
      have HNL : Hid (n = ((L.map ROp.p).length : Int)) := by show _ = _; rw [List.length_map, ← HL.out.own.len]; exact hn
      have hnb : (n != (mo : Int)) = false := by rw [hn]; simp
      clear hn
      go_wp2_with (first
        | (go_at_call 42; refine Hid.out ?_))
      refine Hid.mk_ ((rproper_any co (L := L) HL.out.own.sl (fun x hx => (HL.out.each x hx).1) HLE5.out HLE9.out).mono ?_)
      rintro e wp ⟨⟨bp, rfl, hiff⟩, hEp⟩
      have hEy := hEx.trans hEp
      have HLP := Lib.hid (HL.out.later hEp)
      cases bp with
      | false =>
        have HOS := Lib.hid (HNO.out (HO.out.end_pr stI_ok HV.out HQE.out (fun h => by have := hiff.2 h; cases this)))
        clear hiff
        have hrb := hb0.below hEy hb0.lt
        have k0 := hrb.cell 0
        have k1 := hrb.cell 1
        have k2 := hrb.cell 2
        have k3 := hrb.cell 3
        have k4 := hrb.cell 4
        have k5 := hrb.frozen 0
        have k6 := hrb.frozen 1
        have k7 := hrb.frozen 2
        have k8 := hrb.frozen 3
        have k9 := hrb.frozen 4
        have HBR : Hid (Blk _ gr 25 _) := hrb
        have HEZ : Hid (Ext w _) := hE0.trans hEy
        clear hrb hb0
        go_wp2
        refine bodyPost_ret (results_cell_row_tmpP rfl _ _ gr 25 #[.int .i64 0, .int .i64 0, .string ⟨#[]⟩, .string ⟨#[]⟩, .slice none 0 0] (0, 0) _ rfl (((((HBR.out.set_ 0 _).set_ 1 _).set_ 2 _).set_ 3 _).set_ 4 _) Tryz.underlying25 rfl info_rcontent) rfl ?_
        refine ⟨⟨_, _, rfl, HOS.out _⟩, ?_⟩
        iterate 5 refine Ext.set_ ?_ (by show w.heap.size ≤ gr; rw [HGR.out]; exact Nat.le_refl _) _
        exact HEZ.out
      | true =>
      obtain ⟨a1, b1, hPC⟩ := hiff.1 rfl
      have HD : Hid (DecO bs (some (⟨old, os, new, ns, L.map ROp.p⟩, a1, b1))) := HO.out.end_ok stI_ok HV.out HFF.out HFP.out.1 HFP.out.2 HTT.out HNL.out hPC
      clear hiff hPC e0 e1 e2 e3 e4 z1 z2
      have e0 : wp.cell? ⟨g6, 0, none⟩ = some (.int .i64 old) := HLP.out.st.blk.cell 0
      have e1 : wp.cell? ⟨g6, 1, none⟩ = some (.int .i64 new) := HLP.out.st.blk.cell 1
      have e2 : wp.cell? ⟨g6, 2, none⟩ = some (.string (str os)) := HLP.out.st.blk.cell 2
      have e3 : wp.cell? ⟨g6, 3, none⟩ = some (.string (str ns)) := HLP.out.st.blk.cell 3
      have e4 : wp.cell? ⟨g6, 4, none⟩ = some (.slice Ao mo co) := HLP.out.st.blk.cell 4
      have hrb := hb0.below hEy hb0.lt
      have k0 := hrb.cell 0
      have k1 := hrb.cell 1
      have k2 := hrb.cell 2
      have k3 := hrb.cell 3
      have k4 := hrb.cell 4
      have k5 := hrb.frozen 0
      have k6 := hrb.frozen 1
      have k7 := hrb.frozen 2
      have k8 := hrb.frozen 3
      have k9 := hrb.frozen 4
      have HBR : Hid (Blk _ gr 25 _) := hrb
      have HEZ : Hid (Ext w _) := hE0.trans hEy
      clear hrb hb0 hEx hEy
      go_wp2
      refine bodyPost_ret (results_cell_row_tmpP rfl _ _ gr 25 #[.int .i64 old, .int .i64 new, .string (str os), .string (str ns), .slice Ao mo co] (0, 0) _ rfl (((((HBR.out.set_ 0 _).set_ 1 _).set_ 2 _).set_ 3 _).set_ 4 _) Tryz.underlying25 rfl info_rcontent) rfl ?_
      refine ⟨⟨_, _, rfl, .inr ⟨by rw [HOR.out], .inr ⟨⟨old, os, new, ns, L.map ROp.p⟩, a1, b1, Ao, mo, co, L, by rw [HOR.out]; exact HD.out, rfl, rfl, OsC.sl (base := w11.heap.size) (e := 29) (c := co) ?_, ?_, HLP.out.own.cap, rfl⟩⟩⟩, ?_⟩
      · iterate 5 refine OsC.kept ?_ (grown_setW _ _ _) (ob_ne_of_lt HLP.out.own.ge HGR11.out)
        exact HLP.out.own
      · intro x hx
        iterate 5 refine ropW.kept ?_ (grown_setW _ _ _) (fun j hj e => by have e2 : gr = j := Option.some.inj e; have h1 := ((HLP.out.each x hx).2 j hj).1; have h2 := HGR11.out; omega)
        exact (HLP.out.each x hx).1
      · iterate 5 refine Ext.set_ ?_ (by show w.heap.size ≤ gr; rw [HGR.out]; exact Nat.le_refl _) _
        exact HEZ.out
    case pos =>
    by_cases hi3 : (q : Int) ≤ 100000
    case neg =>
      have HQE : Hid (∀ c a b, bs = encP c → ProperC c a b → q = c.ops.length) := fun c a b e hP => by
        have h1 := (HO.out.cmp c a b e hP).1
        have h2 := hP.few
        omega
      have hi3b : decide ((q : Int) ≤ 100000) = false := decide_eq_false hi3
      have hple : p ≤ m1 := HL.out.st.rd.at_le
      have HM1 : Hid (m1 = bs.length) := HL.out.st.rd.rd.len
      have z1 : wr.cell? ⟨g, 1, none⟩ = some (.int .i64 p) := HL.out.st.rd.c1
      have z2 : wr.cell? ⟨g, 2, none⟩ = some (.bool ff) := HL.out.st.rd.c2
      have e0 : wr.cell? ⟨g6, 0, none⟩ = some (.int .i64 old) := HL.out.st.blk.cell 0
      have e1 : wr.cell? ⟨g6, 1, none⟩ = some (.int .i64 new) := HL.out.st.blk.cell 1
      have e2 : wr.cell? ⟨g6, 2, none⟩ = some (.string (str os)) := HL.out.st.blk.cell 2
      have e3 : wr.cell? ⟨g6, 3, none⟩ = some (.string (str ns)) := HL.out.st.blk.cell 3
      have e4 : wr.cell? ⟨g6, 4, none⟩ = some (.slice Ao mo co) := HL.out.st.blk.cell 4
      have hEx := HE01.out.trans HL.out.st.ext
      cases hff : ff with
      | true =>
        have HOS := Lib.hid (HNO.out (HO.out.end_no2 HQE.out (.inl hff)))
        rw [hff] at z2
        clear hff
        have hrb := hb0.below hEx hb0.lt
        have k0 := hrb.cell 0
        have k1 := hrb.cell 1
        have k2 := hrb.cell 2
        have k3 := hrb.cell 3
        have k4 := hrb.cell 4
        have k5 := hrb.frozen 0
        have k6 := hrb.frozen 1
        have k7 := hrb.frozen 2
        have k8 := hrb.frozen 3
        have k9 := hrb.frozen 4
        have HBR : Hid (Blk _ gr 25 _) := hrb
        have HEZ : Hid (Ext w _) := hE0.trans hEx
        clear hrb hb0
        go_wp2
        refine bodyPost_ret (results_cell_row_tmpP rfl _ _ gr 25 #[.int .i64 0, .int .i64 0, .string ⟨#[]⟩, .string ⟨#[]⟩, .slice none 0 0] (0, 0) _ rfl (((((HBR.out.set_ 0 _).set_ 1 _).set_ 2 _).set_ 3 _).set_ 4 _) Tryz.underlying25 rfl info_rcontent) rfl ?_
        refine ⟨⟨_, _, rfl, HOS.out _⟩, ?_⟩
        iterate 5 refine Ext.set_ ?_ (by show w.heap.size ≤ gr; rw [HGR.out]; exact Nat.le_refl _) _
        exact HEZ.out
      | false =>
      rw [hff] at z2
      by_cases hp : p = m1
      case neg =>
        have HOS := Lib.hid (HNO.out (HO.out.end_no2 HQE.out (.inr (by have := HM1.out; omega))))
        have hpb : ((p : Int) != (m1 : Int)) = true := by rw [bne_iff_ne]; omega
        clear hff hp
        have hrb := hb0.below hEx hb0.lt
        have k0 := hrb.cell 0
        have k1 := hrb.cell 1
        have k2 := hrb.cell 2
        have k3 := hrb.cell 3
        have k4 := hrb.cell 4
        have k5 := hrb.frozen 0
        have k6 := hrb.frozen 1
        have k7 := hrb.frozen 2
        have k8 := hrb.frozen 3
        have k9 := hrb.frozen 4
        have HBR : Hid (Blk _ gr 25 _) := hrb
        have HEZ : Hid (Ext w _) := hE0.trans hEx
        clear hrb hb0
        go_wp2
        refine bodyPost_ret (results_cell_row_tmpP rfl _ _ gr 25 #[.int .i64 0, .int .i64 0, .string ⟨#[]⟩, .string ⟨#[]⟩, .slice none 0 0] (0, 0) _ rfl (((((HBR.out.set_ 0 _).set_ 1 _).set_ 2 _).set_ 3 _).set_ 4 _) Tryz.underlying25 rfl info_rcontent) rfl ?_
        refine ⟨⟨_, _, rfl, HOS.out _⟩, ?_⟩
        iterate 5 refine Ext.set_ ?_ (by show w.heap.size ≤ gr; rw [HGR.out]; exact Nat.le_refl _) _
        exact HEZ.out
      case pos =>
      have HFP : Hid (ff = false ∧ p = bs.length) := ⟨hff, by rw [hp]; exact HM1.out⟩
      clear hff
      have hpb : ((p : Int) != (m1 : Int)) = false := by rw [hp]; simp
      clear hp
      by_cases ht : t = titleB
      case neg =>
        have HOS := Lib.hid (HNO.out (no_title stI_ok HV.out ht))
        have htb := title_neq ht
        have htb2 : ((str t).toList != [99, 97, 108, 113, 117, 101, 45, 112, 97, 116, 99, 104]) = true := by rw [bne, htb]; rfl
        clear ht
        have hrb := hb0.below hEx hb0.lt
        have k0 := hrb.cell 0
        have k1 := hrb.cell 1
        have k2 := hrb.cell 2
        have k3 := hrb.cell 3
        have k4 := hrb.cell 4
        have k5 := hrb.frozen 0
        have k6 := hrb.frozen 1
        have k7 := hrb.frozen 2
        have k8 := hrb.frozen 3
        have k9 := hrb.frozen 4
        have HBR : Hid (Blk _ gr 25 _) := hrb
        have HEZ : Hid (Ext w _) := hE0.trans hEx
        clear hrb hb0
        go_wp2
        refine bodyPost_ret (results_cell_row_tmpP rfl _ _ gr 25 #[.int .i64 0, .int .i64 0, .string ⟨#[]⟩, .string ⟨#[]⟩, .slice none 0 0] (0, 0) _ rfl (((((HBR.out.set_ 0 _).set_ 1 _).set_ 2 _).set_ 3 _).set_ 4 _) Tryz.underlying25 rfl info_rcontent) rfl ?_
        refine ⟨⟨_, _, rfl, HOS.out _⟩, ?_⟩
        iterate 5 refine Ext.set_ ?_ (by show w.heap.size ≤ gr; rw [HGR.out]; exact Nat.le_refl _) _
        exact HEZ.out
      case pos =>
      have htb : ((str t).toList == [99, 97, 108, 113, 117, 101, 45, 112, 97, 116, 99, 104]) = true := by rw [ht, ByteArray.toList_eq]; show (bys (str titleB) == _) = true; rw [bys_str]; rfl
      have htb2 : ((str t).toList != [99, 97, 108, 113, 117, 101, 45, 112, 97, 116, 99, 104]) = false := by rw [bne, htb]; rfl
      have HTT := Lib.hid ht
      clear ht
      by_cases hn : n = (mo : Int)
      case neg =>
        have hnl : n ≠ ((L.map ROp.p).length : Int) := by rw [List.length_map, ← HL.out.own.len]; exact hn
        have HOS := Lib.hid (HNO.out (HO.out.end_len stI_ok HV.out HQE.out hnl))
        have hnb : (n != (mo : Int)) = true := by rw [bne_iff_ne]; exact hn
        clear hn hnl
        have hrb := hb0.below hEx hb0.lt
        have k0 := hrb.cell 0
        have k1 := hrb.cell 1
        have k2 := hrb.cell 2
        have k3 := hrb.cell 3
        have k4 := hrb.cell 4
        have k5 := hrb.frozen 0
        have k6 := hrb.frozen 1
        have k7 := hrb.frozen 2
        have k8 := hrb.frozen 3
        have k9 := hrb.frozen 4
        have HBR : Hid (Blk _ gr 25 _) := hrb
        have HEZ : Hid (Ext w _) := hE0.trans hEx
        clear hrb hb0
        go_wp2
        refine bodyPost_ret (results_cell_row_tmpP rfl _ _ gr 25 #[.int .i64 0, .int .i64 0, .string ⟨#[]⟩, .string ⟨#[]⟩, .slice none 0 0] (0, 0) _ rfl (((((HBR.out.set_ 0 _).set_ 1 _).set_ 2 _).set_ 3 _).set_ 4 _) Tryz.underlying25 rfl info_rcontent) rfl ?_
        refine ⟨⟨_, _, rfl, HOS.out _⟩, ?_⟩
        iterate 5 refine Ext.set_ ?_ (by show w.heap.size ≤ gr; rw [HGR.out]; exact Nat.le_refl _) _
        exact HEZ.out
      case pos =>
      have HNL : Hid (n = ((L.map ROp.p).length : Int)) := by show _ = _; rw [List.length_map, ← HL.out.own.len]; exact hn
      have hnb : (n != (mo : Int)) = false := by rw [hn]; simp
      clear hn
      go_wp2_with (first
        | (go_at_call 42; refine Hid.out ?_))
      refine Hid.mk_ ((rproper_any co (L := L) HL.out.own.sl (fun x hx => (HL.out.each x hx).1) HLE5.out HLE9.out).mono ?_)
      rintro e wp ⟨⟨bp, rfl, hiff⟩, hEp⟩
      have hEy := hEx.trans hEp
      have HLP := Lib.hid (HL.out.later hEp)
      cases bp with
      | false =>
        have HOS := Lib.hid (HNO.out (HO.out.end_pr stI_ok HV.out HQE.out (fun h => by have := hiff.2 h; cases this)))
        clear hiff
        have hrb := hb0.below hEy hb0.lt
        have k0 := hrb.cell 0
        have k1 := hrb.cell 1
        have k2 := hrb.cell 2
        have k3 := hrb.cell 3
        have k4 := hrb.cell 4
        have k5 := hrb.frozen 0
        have k6 := hrb.frozen 1
        have k7 := hrb.frozen 2
        have k8 := hrb.frozen 3
        have k9 := hrb.frozen 4
        have HBR : Hid (Blk _ gr 25 _) := hrb
        have HEZ : Hid (Ext w _) := hE0.trans hEy
        clear hrb hb0
        go_wp2
        refine bodyPost_ret (results_cell_row_tmpP rfl _ _ gr 25 #[.int .i64 0, .int .i64 0, .string ⟨#[]⟩, .string ⟨#[]⟩, .slice none 0 0] (0, 0) _ rfl (((((HBR.out.set_ 0 _).set_ 1 _).set_ 2 _).set_ 3 _).set_ 4 _) Tryz.underlying25 rfl info_rcontent) rfl ?_
        refine ⟨⟨_, _, rfl, HOS.out _⟩, ?_⟩
        iterate 5 refine Ext.set_ ?_ (by show w.heap.size ≤ gr; rw [HGR.out]; exact Nat.le_refl _) _
        exact HEZ.out
      | true =>
      obtain ⟨a1, b1, hPC⟩ := hiff.1 rfl
      have HD : Hid (DecO bs (some (⟨old, os, new, ns, L.map ROp.p⟩, a1, b1))) := HO.out.end_ok stI_ok HV.out HFF.out HFP.out.1 HFP.out.2 HTT.out HNL.out hPC
      clear hiff hPC e0 e1 e2 e3 e4 z1 z2
      have e0 : wp.cell? ⟨g6, 0, none⟩ = some (.int .i64 old) := HLP.out.st.blk.cell 0
      have e1 : wp.cell? ⟨g6, 1, none⟩ = some (.int .i64 new) := HLP.out.st.blk.cell 1
      have e2 : wp.cell? ⟨g6, 2, none⟩ = some (.string (str os)) := HLP.out.st.blk.cell 2
      have e3 : wp.cell? ⟨g6, 3, none⟩ = some (.string (str ns)) := HLP.out.st.blk.cell 3
      have e4 : wp.cell? ⟨g6, 4, none⟩ = some (.slice Ao mo co) := HLP.out.st.blk.cell 4
      have hrb := hb0.below hEy hb0.lt
      have k0 := hrb.cell 0
      have k1 := hrb.cell 1
      have k2 := hrb.cell 2
      have k3 := hrb.cell 3
      have k4 := hrb.cell 4
      have k5 := hrb.frozen 0
      have k6 := hrb.frozen 1
      have k7 := hrb.frozen 2
      have k8 := hrb.frozen 3
      have k9 := hrb.frozen 4
      have HBR : Hid (Blk _ gr 25 _) := hrb
      have HEZ : Hid (Ext w _) := hE0.trans hEy
      clear hrb hb0 hEx hEy
      go_wp2
      refine bodyPost_ret (results_cell_row_tmpP rfl _ _ gr 25 #[.int .i64 old, .int .i64 new, .string (str os), .string (str ns), .slice Ao mo co] (0, 0) _ rfl (((((HBR.out.set_ 0 _).set_ 1 _).set_ 2 _).set_ 3 _).set_ 4 _) Tryz.underlying25 rfl info_rcontent) rfl ?_
      refine ⟨⟨_, _, rfl, .inr ⟨by rw [HOR.out], .inr ⟨⟨old, os, new, ns, L.map ROp.p⟩, a1, b1, Ao, mo, co, L, by rw [HOR.out]; exact HD.out, rfl, rfl, OsC.sl (base := w11.heap.size) (e := 29) (c := co) ?_, ?_, HLP.out.own.cap, rfl⟩⟩⟩, ?_⟩
      · iterate 5 refine OsC.kept ?_ (grown_setW _ _ _) (ob_ne_of_lt HLP.out.own.ge HGR11.out)
        exact HLP.out.own
      · intro x hx
        iterate 5 refine ropW.kept ?_ (grown_setW _ _ _) (fun j hj e => by have e2 : gr = j := Option.some.inj e; have h1 := ((HLP.out.each x hx).2 j hj).1; have h2 := HGR11.out; omega)
        exact (HLP.out.each x hx).1
      · iterate 5 refine Ext.set_ ?_ (by show w.heap.size ≤ gr; rw [HGR.out]; exact Nat.le_refl _) _
        exact HEZ.out
    case pos =>
    cases ff with
    | true =>
      have HQE : Hid (∀ c a b, bs = encP c → ProperC c a b → q = c.ops.length) := fun c a b e hP => by
        have h1 := (HO.out.cmp c a b e hP).2.1
        cases h1
      have z2 : wr.cell? ⟨g, 2, none⟩ = some (.bool true) := HL.out.st.rd.c2
      have hEx := HE01.out.trans HL.out.st.ext
      have HOS := Lib.hid (HNO.out (HO.out.end_no2 HQE.out (.inl rfl)))
      have hrb := hb0.below hEx hb0.lt
      have k0 := hrb.cell 0
      have k1 := hrb.cell 1
      have k2 := hrb.cell 2
      have k3 := hrb.cell 3
      have k4 := hrb.cell 4
      have k5 := hrb.frozen 0
      have k6 := hrb.frozen 1
      have k7 := hrb.frozen 2
      have k8 := hrb.frozen 3
      have k9 := hrb.frozen 4
      have HBR : Hid (Blk _ gr 25 _) := hrb
      have HEZ : Hid (Ext w _) := hE0.trans hEx
      clear hrb hb0
      go_wp2
      refine bodyPost_ret (results_cell_row_tmpP rfl _ _ gr 25 #[.int .i64 0, .int .i64 0, .string ⟨#[]⟩, .string ⟨#[]⟩, .slice none 0 0] (0, 0) _ rfl (((((HBR.out.set_ 0 _).set_ 1 _).set_ 2 _).set_ 3 _).set_ 4 _) Tryz.underlying25 rfl info_rcontent) rfl ?_
      refine ⟨⟨_, _, rfl, HOS.out _⟩, ?_⟩
      iterate 5 refine Ext.set_ ?_ (by show w.heap.size ≤ gr; rw [HGR.out]; exact Nat.le_refl _) _
      exact HEZ.out
    | false =>
    have z2 : wr.cell? ⟨g, 2, none⟩ = some (.bool false) := HL.out.st.rd.c2
    have HF11 : Hid (f11 = false) := HFF.out rfl
    clear HFF
    go_wp2_with (first
      | (go_at_call 41; refine Hid.out ?_))
    refine Hid.mk_ ((refInt_any HL.out.st.rd).mono ?_)
    rintro e wa ⟨rfl, hR, hg⟩
    clear z2
    obtain ⟨k, pa, fa, hS⟩ : ∃ n p' f', stepI bs p false = (n, p', f') := ⟨_, _, _, rfl⟩
    rw [hS] at hR ⊢
    dsimp only at hR ⊢
    have HSA := Lib.hid hS
    have HLA := Lib.hid (HL.out.call hR hg)
    have HN : Hid (∀ c a b, bs = encP c → ProperC c a b → q < c.ops.length) := hn_of stI_ok HV.out hi1
    have HO2 : Hid (∀ c a b, bs = encP c → ProperC c a b → old = c.old) := ho_of stI_ok HV.out
    have hbw := HLA.out.bw
    have hq5 : q ≤ 100000 := by omega
    clear hS hR hg HL hi1 hi3
    by_cases hk0 : k = 0
    · subst hk0
      obtain ⟨o, pb, fb, hS⟩ : ∃ n p' f', stepI bs pa fa = (n, p', f') := ⟨_, _, _, rfl⟩
      obtain ⟨n2, pc, fc, hS2⟩ : ∃ n p' f', stepI bs pb fb = (n, p', f') := ⟨_, _, _, rfl⟩
      have HSB := Lib.hid hS
      have HSC := Lib.hid hS2
      have HOI2 : Hid (OInv bs p11 (q + 1) ((L ++ [(⟨.cp o n2, 0, 0, ⟨none, 0, 0⟩⟩ : ROp)]).map ROp.p) pc fc) := by
        have h := HO.out.cp stI_ok HN.out (show stI 0 1 bs p false = (0, pa, fa) from HSA.out) (by decide) (fun _ => rfl) HO2.out (show stI 0 old bs pa fa = (o, pb, fb) from HSB.out) (show stI 0 (old - o) bs pb fb = (n2, pc, fc) from HSC.out)
        show OInv _ _ _ _ _ _
        rw [List.map_append]
        exact h
      have HFF2 : Hid (fc = false → f11 = false) := fun _ => HF11.out
      clear hS hS2
      have hL1 := HLA.out.later (Ext.refl wa).drew
      have e4 : wa.drew.cell? ⟨g6, 4, none⟩ = some (.slice Ao mo co) := hL1.st.blk.cell 4
      go_upto_region 16 with fail
      go_region_law
        (first
          | (go_simp
             go_at_call 41
             (with_reducible refine (refInt_at HSC.out hL2.st.rd).mono ?_)
             rintro e w3 ⟨rfl, hR3, hg3⟩
             have hL3 := hL2.call hR3 hg3
             have e4c : w3.cell? ⟨g6, 4, none⟩ = some (.slice Ao mo co) := hL3.st.blk.cell 4
             have hnew : SlC ropC 4 (w3.alloc (Obj.cells #[.bool false, .int .i64 o, .int .i64 n2, .slice none 0 0] 29)) (some ⟨w3.heap.size, 0, none⟩) 1 [(⟨.cp o n2, 0, 0, ⟨none, 0, 0⟩⟩ : ROp)] := SlC.new_ (cs := ropC) w3 [(⟨.cp o n2, 0, 0, ⟨none, 0, 0⟩⟩ : ROp)] ropC_len (by simp) _ rfl (0, 0) 1 rfl 29
             have hL4 := hL3.later ((Ext.refl w3).alloc (Obj.cells #[.bool false, .int .i64 o, .int .i64 n2, .slice none 0 0] 29))
             have e4d : (w3.alloc (Obj.cells #[.bool false, .int .i64 o, .int .i64 n2, .slice none 0 0] 29)).cell? ⟨g6, 4, none⟩ = some (.slice Ao mo co) := hL4.st.blk.cell 4)
          | (go_simp
             go_at_call 41
             (with_reducible refine (refInt_at HSB.out hL1.st.rd).mono ?_)
             rintro e w2 ⟨rfl, hR2, hg2⟩
             have hL2 := hL1.call hR2 hg2
             have e4b : w2.cell? ⟨g6, 4, none⟩ = some (.slice Ao mo co) := hL2.st.blk.cell 4)
          | (refine step_appC einfo_rop rfl _ _ rfl hL4.own rfl hnew rfl (by omega) hL4.bw ?_
             intro A7 m7 c7 w7 ho7 hg7 hN7
             have hbk := hL4.st.blk.grown hg7 (fun e => by have h1 := hL4.own.ge g6 e.symm; have h2 := hL4.lt.2.1; omega)
             have e47 : w7.cell? ⟨g6, 4, none⟩ = some (.slice Ao mo co) := hbk.cell 4
             have t47 := hbk.frozen 4)
          | fail)
      all_goals
        have HLF := Lib.hid (hL4.app (x := ⟨.cp o n2, 0, 0, ⟨none, 0, 0⟩⟩) (show ropW _ (⟨.cp o n2, 0, 0, ⟨none, 0, 0⟩⟩ : ROp) from trivial) (fun j hj => by cases hj) ho7 hg7 hN7)
        have HMQ : Hid (m7 ≤ q + 1) := by show _ ≤ _; have h1 := ho7.len; have h2 := hL4.own.len; rw [List.length_append] at h1; simp at h1; omega
        clear hL1 hL2 hL3 hL4 e4 e4b e4c e4d e47 t47 ho7 hg7 hN7 hbk hnew hg2 hg3 hR2 hR3 hbw
        go_wp2
        go_roundw
        case rel =>
          first
          | exact ⟨q + 1, _, _, _, _, pc, fc, by go_num, by omega, HOI2, HLF, HFF2, HMQ.out⟩
          | (repeat apply Exists.intro
             refine ⟨?rl, ?fr⟩
             case fr => exact rfl
             case rl => exact ⟨q + 1, _, _, _, _, pc, fc, by go_num, by omega, HOI2, HLF, HFF2, HMQ.out⟩)
        case measure => simp [intOf]; omega
    · have hkb0 : (k == 0) = false := beq_eq_false_iff_ne.2 hk0
      by_cases hk1 : k = 1
      · subst hk1
        obtain ⟨sx, pb, fb, hS⟩ : ∃ s p' f', stepS bs pa fa = (s, p', f') := ⟨_, _, _, rfl⟩
        have hle := stepS_leP bs pa fa
        rw [hS] at hle
        have HSB := Lib.hid hS
        have HOI2 : Hid (OInv bs p11 (q + 1) ((L.map ROp.p) ++ [.ins sx]) pb fb) := HO.out.ins stI_ok HN.out (show stI 0 1 bs p false = (1, pa, fa) from HSA.out) rfl HSB.out
        have HFF2 : Hid (fb = false → f11 = false) := fun _ => HF11.out
        obtain ⟨r, hr⟩ : ∃ r, r = str sx := ⟨_, rfl⟩
        have hrz : r.size ≤ 1000000 := by rw [hr, str_size]; have := HBL.out; exact Nat.le_trans hle this
        have HRB : Hid (bys r = sx) := by show _ = _; rw [hr, bys_str]
        have HRS := Lib.hid hr
        clear hS hle hr hkb0 hk0
        have hL1 := HLA.out.later (Ext.refl wa).drew
        have e4 : wa.drew.cell? ⟨g6, 4, none⟩ = some (.slice Ao mo co) := hL1.st.blk.cell 4
        go_upto_region 18 with fail
        go_region_law
          (first
            | (go_simp
               go_at_call 40
               (with_reducible refine (refString_at HSB.out HRS.out hL1.st.rd).mono ?_)
               rintro e w2 ⟨rfl, hR2, hg2⟩
               have hL2 := hL1.call hR2 hg2
               have e4b : w2.cell? ⟨g6, 4, none⟩ = some (.slice Ao mo co) := hL2.st.blk.cell 4
               obtain ⟨C, w3, hcv, hE3, hlt3, hsb3⟩ := conv2 r w2 hrz
               have hL3 := hL2.later hE3
               have e4c : w3.cell? ⟨g6, 4, none⟩ = some (.slice Ao mo co) := hL3.st.blk.cell 4
               obtain ⟨x, hx⟩ : ∃ x : ROp, x = ⟨.ins sx, 0, 0, ⟨some ⟨w2.heap.size, 0, none⟩, r.size, C⟩⟩ := ⟨_, rfl⟩
               have hnew : SlC ropC 4 (w3.alloc (Obj.cells #[.bool true, .int .i64 0, .int .i64 0, .slice (some ⟨w2.heap.size, 0, none⟩) r.size C] 29)) (some ⟨w3.heap.size, 0, none⟩) 1 [x] := (by rw [hx]; exact SlC.new_ (cs := ropC) w3 [(⟨.ins sx, 0, 0, ⟨some ⟨w2.heap.size, 0, none⟩, r.size, C⟩⟩ : ROp)] ropC_len (by simp) _ rfl (0, 0) 1 rfl 29)
               have hL4 := hL3.later ((Ext.refl w3).alloc (Obj.cells #[.bool true, .int .i64 0, .int .i64 0, .slice (some ⟨w2.heap.size, 0, none⟩) r.size C] 29))
               have e4d : (w3.alloc (Obj.cells #[.bool true, .int .i64 0, .int .i64 0, .slice (some ⟨w2.heap.size, 0, none⟩) r.size C] 29)).cell? ⟨g6, 4, none⟩ = some (.slice Ao mo co) := hL4.st.blk.cell 4
               have hxw : ropW (w3.alloc (Obj.cells #[.bool true, .int .i64 0, .int .i64 0, .slice (some ⟨w2.heap.size, 0, none⟩) r.size C] 29)) x := (by rw [hx]; show SlB _ _ _ _; rw [← HRB.out]; exact hsb3.ext ((Ext.refl w3).alloc _))
               have hxb : ∀ j, ob x.h.A = some j → w11.heap.size ≤ j ∧ j < (w3.alloc (Obj.cells #[.bool true, .int .i64 0, .int .i64 0, .slice (some ⟨w2.heap.size, 0, none⟩) r.size C] 29)).heap.size ∧ ob Ao ≠ some j := (by
                 rw [hx]
                 intro j hj
                 have hj2 : w2.heap.size = j := Option.some.inj hj
                 subst hj2
                 exact ⟨hL2.bw, Nat.lt_of_lt_of_le hlt3 ((Ext.refl w3).alloc _).size_le, fun e => by have := hL2.own.lt _ e; omega⟩)
               have hxp : x.p = .ins sx := (by rw [hx])
               have HXP := Lib.hid hxp
               have HXW := Lib.hid hxw
               have HXB := Lib.hid hxb
               clear hx hxp hxw hxb)
            | (refine step_appC einfo_rop rfl _ _ rfl hL4.own rfl hnew rfl (by omega) hL4.bw ?_
               intro A7 m7 c7 w7 ho7 hg7 hN7
               have hbk := hL4.st.blk.grown hg7 (fun e => by have h1 := hL4.own.ge g6 e.symm; have h2 := hL4.lt.2.1; omega)
               have e47 : w7.cell? ⟨g6, 4, none⟩ = some (.slice Ao mo co) := hbk.cell 4
               have t47 := hbk.frozen 4)
            | fail)
        all_goals
          have HLF := Lib.hid (hL4.app HXW.out HXB.out ho7 hg7 hN7)
          have HMQ : Hid (m7 ≤ q + 1) := by show _ ≤ _; have h1 := ho7.len; have h2 := hL4.own.len; rw [List.length_append] at h1; simp at h1; omega
          have HOI3 : Hid (OInv bs p11 (q + 1) ((L ++ [x]).map ROp.p) pb fb) := by
            show OInv _ _ _ _ _ _
            rw [List.map_append, List.map_singleton, HXP.out]
            exact HOI2.out
          clear HOI2
          have HOI2 := HOI3
          clear HOI3 hL1 hL2 hL3 hL4 e4 e4b e4c e4d e47 t47 ho7 hg7 hN7 hbk hnew hg2 hR2 hbw hcv hsb3
          go_wp2
          go_roundw
          case rel =>
            first
            | exact ⟨q + 1, _, _, _, _, pb, fb, by go_num, by omega, HOI2, HLF, HFF2, HMQ.out⟩
            | (repeat apply Exists.intro
               refine ⟨?rl, ?fr⟩
               case fr => exact rfl
               case rl => exact ⟨q + 1, _, _, _, _, pb, fb, by go_num, by omega, HOI2, HLF, HFF2, HMQ.out⟩)
          case measure => simp [intOf]; omega
      · have hkb1 : (k == 1) = false := beq_eq_false_iff_ne.2 hk1
        have HOI2 : Hid (OInv bs p11 (q + 1) (L.map ROp.p) pa true) := HO.out.bad stI_ok HN.out (show stI 0 1 bs p false = (k, pa, fa) from HSA.out) hk1 hk0 _ _ _
        have HFF2 : Hid (true = false → f11 = false) := fun _ => HF11.out
        have z2 : wa.cell? ⟨g, 2, none⟩ = some (.bool fa) := HLA.out.st.rd.c2
        have t2 := HLA.out.st.rd.blk.frozen 2
        have HLF := Lib.hid (HLA.out.call (HLA.out.st.rd.set2 true) (HLA.out.st.rd.grow 2 (.bool true)))
        have HMQ : Hid (mo ≤ q + 1) := by show _ ≤ _; omega
        clear hk0 hk1 hbw
        go_wp2
        go_roundw
        case rel =>
          first
          | exact ⟨q + 1, _, _, _, _, pa, true, by go_num, by omega, HOI2, HLF, (fun h => by cases h), HMQ.out⟩
          | (repeat apply Exists.intro
             refine ⟨?rl, ?fr⟩
             case fr => exact rfl
             case rl => exact ⟨q + 1, _, _, _, _, pa, true, by go_num, by omega, HOI2, HLF, (fun h => by cases h), HMQ.out⟩)
        case measure => simp [intOf]; omega
end
end Go.Proofs.YtghndnacmpckbaaGreatDoor
