/- Decode of the program. -/
import Derived.Test.YtngpajaghadhdaaGreatDoorBinRn
import Derived.Test.YtngpajaghadhdaaGreatDoorBinEn
import Derived.Laws.ResultCell
namespace Go.Proofs.YtngpajaghadhdaaGreatDoor
open Go.RowKit
set_option maxRecDepth 100000
attribute [local go_sem] ext_refl_t ext_alloc_t ext_drew_t ext_drewN_t ext_alloc2_t ext_alloc3_t ext_alloc4_t ext_alloc5_t ext_alloc6_t ext_alloc7_t ext_alloc8_t ext_alloc1d_t ext_alloc2d_t ext_alloc3d_t ext_alloc4d_t
theorem info_cat4D : (Tryz.prog.info? 28).map (·.size) = some 4 := by kernel_rfl
theorem results_cell_row_tmpD {P : Program} {fn : Func} {p u : Tmp} {ty : TypeId} (h : fn.results = #[.cell p ty, .tmp u]) (tmps : Array Value) (w : World) (g : Nat) (t : TypeId) (cs : Array Value) (fr : Nat × Nat) (d : TypeDesc)
    (hp : tmps.getD p undef = .pointer (some ⟨g, 0, none⟩)) (hg : w.heap[g]? = some (.cells cs t fr))
    (hu : P.underlying ty = some d) (hd : (match d with | .struct _ | .array _ _ => true | _ => false) = true) (hi : (P.info? ty).map (·.size) = some cs.size) :
    (results fn tmps).run P w = .ok (.tuple #[.agg cs, tmps.getD u undef]) w := by
  rw [results_cell_tmp h, hp]
  simp [asAddr, run_loadVar_row w g t ty cs fr d hg hu hd hi, Result.andThen]
def catZ : Cat := ⟨⟨#[]⟩, [], [], [], ⟨none, 0, 0⟩, ⟨none, 0, 0⟩, ⟨none, 0, 0⟩⟩
theorem catZ_W (w : World) : CatW w catZ := ⟨by show (0 : Nat) ≤ _; omega, HW.nil_ strF_len, HW.nil_ fdC_len, HW.nil_ entC_len⟩
theorem Apart.turnD {α : Type} {cs : α → List Value} {k by_ : Nat} {good : α → Prop} {w : World} {h : SlH} {l : List α} {r r' : Option Nat} {B : Nat} (ha : Apart r h) (hh : HW cs k by_ good w h l) (hN : NewOr B r r') (hB : w.heap.size ≤ B) : Apart r' h := by
  rcases ha with h0 | h0 | h0
  · exact .inl h0
  · exact .inr (.inl h0)
  · cases hr : r' with
    | none => cases hA : ob h.A with
      | none => exact .inr (.inl hA)
      | some k => exact .inr (.inr (by rw [hA]; simp))
    | some j =>
      rcases hN j hr with h1 | h1
      · exact hh.lt (fun g e => by injection e with e; omega)
      · rw [← h1]; exact .inr (.inr h0)
theorem EntA.turnD {w : World} {x : Ent} {r r' : Option Nat} {B : Nat} (ha : EntA r x) (hx : EntW w x) (hN : NewOr B r r') (hB : w.heap.size ≤ B) : EntA r' x :=
  ⟨ha.1.turnD hx.c hN hB, ha.2.1.turnD hx.f hN hB, ha.2.2.turnD hx.d hN hB⟩
theorem bytesEq_any {w : World} {A B : Option Addr} {m n : Nat} (c d : Nat) {l k : List UInt8} (ha : SlB w A m l) (hb : SlB w B n k) :
    Calls Tryz.prog 26 #[.slice A m c, .slice B n d] w fun e w' => e = .returned (.bool (decide (l = k))) ∧ Ext w w' := by
  have hcv := conv_str ha c
  have hcw := conv_str hb d
  obtain ⟨s, hs⟩ : ∃ s, s = str l := ⟨_, rfl⟩
  obtain ⟨t, ht⟩ : ∃ t, t = str k := ⟨_, rfl⟩
  rw [← hs] at hcv
  rw [← ht] at hcw
  have HE : Hid ((s.toList == t.toList) = decide (l = k)) := by
    show _ = _
    rw [ByteArray.toList_eq, ByteArray.toList_eq, hs, ht]
    show (bys (str l) == bys (str k)) = _
    rw [bys_str, bys_str]
    by_cases h : l = k
    · simp [h]
    · rw [beq_eq_false_iff_ne.2 h, decide_eq_false h]
  clear hs ht ha hb
  rw [← HE.out]
  go_enter Tryz.func26, Tryz.ntmps26
  go_wp2
  go_ret
  exact ⟨rfl, Ext.refl w⟩
theorem apart_of_lt {h : SlH} {r : Option Nat} {b : Nat} (hg : ∀ k, ob h.A = some k → k < b) (hr : ∀ j, r = some j → b ≤ j) : Apart r h := by
  cases hA : ob h.A with
  | none => exact .inr (.inl hA)
  | some k => exact .inr (.inr (fun e => by have h1 := hg k hA; have h2 := hr k (by rw [← e, hA]); omega))
/-- The entries that have been read so far, and the reader. -/
structure DLoop (TR : TypeId) (rf : List UInt8 → Nat → Bool → Int × Nat × Bool) (bs : List UInt8) (B g2 g7 : Nat) (A2 : Option Addr) (m2 c2 : Nat) (wr : World) (q : Nat) (A : Option Addr) (m c : Nat) (es : List Ent) (p : Nat) (f : Bool) : Prop where
  st : stepEs rf bs 0 false q = (es.map Ent.p, p, f)
  own : OsC entC 37 7 wr B A m c es
  rd : RdrT TR wr g2 A2 m2 c2 bs p f
  each : ∀ z ∈ es, EntW wr z ∧ (∀ j, j < B → EntA (some j) z) ∧ EntA (ob A) z
  sz : B ≤ wr.heap.size
  lt2 : g2 < B
  lt7 : g7 < B
  ne : g2 ≠ g7
  alt : ∀ k, obm m2 A2 = some k → k < B ∧ k ≠ g7
section
variable {TR : TypeId} {rf : List UInt8 → Nat → Bool → Int × Nat × Bool} {bs : List UInt8} {B g2 g7 : Nat} {A2 : Option Addr} {m2 c2 : Nat} {wr W w2 wa w4 w5 : World} {q : Nat} {A A' : Option Addr} {m c m' c' : Nat} {es : List Ent} {x : Ent} {p p' : Nat} {f f' : Bool}
theorem DLoop.ne2 (h : DLoop TR rf bs B g2 g7 A2 m2 c2 wr q A m c es p f) : ob A = none ∨ ob A ≠ some g2 := by
  cases hA : ob A with
  | none => exact .inl rfl
  | some k => exact .inr (fun e => by injection e with e; have h1 := h.own.ge k hA; have h2 := h.lt2; omega)
theorem DLoop.ne7 (h : DLoop TR rf bs B g2 g7 A2 m2 c2 wr q A m c es p f) : ob A ≠ some g7 := fun e => by have h1 := h.own.ge g7 e; have h2 := h.lt7; omega
theorem DLoop.len (h : DLoop TR rf bs B g2 g7 A2 m2 c2 wr q A m c es p f) : m = q := by
  have h1 := stepEs_len rf bs 0 false q
  rw [h.st] at h1
  have h2 := h.own.len
  simp only [List.length_map] at h1
  omega
theorem DLoop.step (h : DLoop TR rf bs B g2 g7 A2 m2 c2 wr q A m c es p f) (hE : Ext wr W) (hR : RdrT TR w2 g2 A2 m2 c2 bs (stepE rf bs p f).2.1 (stepE rf bs p f).2.2) (hg2 : W.grownBy w2 (some g2))
    (hxp : x.p = (stepE rf bs p f).1) (hxW : EntW w2 x) (hxA : ∀ j, j < W.heap.size → EntA (some j) x) (hEa : Ext w2 wa) (ho : OsC entC 37 7 w4 B A' m' c' (es ++ [x])) (hg4 : wa.grownBy w4 (ob A)) (hN : NewOr wa.heap.size (ob A) (ob A')) (hg5 : w4.grownBy w5 (some g7)) :
    DLoop TR rf bs B g2 g7 A2 m2 c2 w5 (q + 1) A' m' c' (es ++ [x]) (stepE rf bs p f).2.1 (stepE rf bs p f).2.2 := by
  have hWs := hE.size_le
  have h1s := hg2.size
  have h2s := hEa.size_le
  have h3s := hg4.size
  have h4s := hg5.size
  have hs := h.sz
  have l2 := h.lt2
  have l7 := h.lt7
  have hAg : some g2 ≠ ob A := fun e => by have := h.own.ge g2 e.symm; omega
  have hA7 : ob A' = none ∨ ob A' ≠ some g7 := by
    cases hA : ob A' with
    | none => exact .inl rfl
    | some k => exact .inr (fun e => by injection e with e; have h1 := ho.ge k hA; omega)
  have hob : obm m2 A2 = none ∨ obm m2 A2 ≠ ob A := by
    cases hm : obm m2 A2 with
    | none => exact .inl rfl
    | some k => exact .inr (fun e => by have h1 := (h.alt k hm).1; have h2 := h.own.ge k e.symm; omega)
  have hob7 : obm m2 A2 = none ∨ obm m2 A2 ≠ some g7 := by
    cases hm : obm m2 A2 with
    | none => exact .inl rfl
    | some k => exact .inr (fun e => by injection e with e; exact (h.alt k hm).2 e)
  have hst := stepEs_succ h.st
  refine ⟨by rw [hst, List.map_append]; simp [hxp], ho.kept hg5 hA7, ((hR.ext hEa).kept hg4 (fun e => hAg e.symm) hob).kept hg5 (fun e => by injection e with e; exact h.ne e.symm) hob7, fun z hz => ?_, by omega, l2, l7, h.ne, h.alt⟩
  have hnew : ∀ z, EntW wa z → EntA (ob A) z → EntA (ob A') z := fun z hz ha => ha.turnD hz hN (Nat.le_refl _)
  rcases List.mem_append.1 hz with hz | hz
  · obtain ⟨a1, a2, a4⟩ := h.each z hz
    have b1 := ((a1.ext hE).kept hg2 (a2 g2 l2)).ext hEa
    exact ⟨(b1.kept hg4 a4).kept hg5 (a2 g7 l7), a2, hnew z b1 a4⟩
  · rw [List.mem_singleton] at hz
    subst hz
    have b1 := hxW.ext hEa
    have a4 : EntA (ob A) z := by
      cases hA : ob A with
      | none =>
        have hn : ∀ hh : SlH, Apart none hh := fun hh => by
          cases hB : ob hh.A with
          | none => exact .inr (.inl hB)
          | some k => exact .inr (.inr (by rw [hB]; simp))
        exact ⟨hn _, hn _, hn _⟩
      | some k => exact hxA k (by have := h.own.lt k hA; omega)
    exact ⟨(b1.kept hg4 a4).kept hg5 (hxA g7 (by omega)), fun j hj => hxA j (by omega), hnew z b1 a4⟩
end
theorem CatW.keptD {w w' : World} {y : Cat} {r : Option Nat} (h : CatW w y) (hg : w.grownBy w' r) (h1 : Apart r y.c) (h2 : Apart r y.d) (h3 : Apart r y.e) (h4 : ∀ z ∈ y.es, EntA r z) : CatW w' y :=
  ⟨h.tag, h.c.kept hg h1, h.d.kept hg h2, ⟨(h.e.kept hg h3).sl, h.e.cap, h.e.bd, fun z hz => (h.e.good z hz).kept hg (h4 z hz)⟩⟩
end Go.Proofs.YtngpajaghadhdaaGreatDoor
