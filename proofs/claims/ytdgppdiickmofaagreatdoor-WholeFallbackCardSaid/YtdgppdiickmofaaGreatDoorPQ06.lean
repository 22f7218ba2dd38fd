/- append onto the bytes of a converted string. -/
import Derived.Test.YtdgppdiickmofaaGreatDoorPQ01
import Derived.ArgAppend
import Derived.Laws.IdiomStrings
import Derived.Laws.IdiomCopy
namespace Go.Proofs.YtdgppdiickmofaaGreatDoor
open Go.RowKit
set_option maxRecDepth 100000
theorem bys_lengthM (s : ByteArray) : (bys s).length = s.size := by unfold bys; rw [Array.length_toList]; rfl
/-- The block that a converted string lies in: what it reads, and that none of its cells is frozen. -/
structure CvB (w : World) (b C : Nat) (l : List UInt8) : Prop where
  lt : b < w.heap.size
  at_ : ∀ j (h : j < l.length), w.cell? ⟨b, j, none⟩ = some (bv l[j])
  there : ∀ j, j < C → (w.cell? ⟨b, j, none⟩).isSome = true
  free : ∀ j, j < C → w.frozen? ⟨b, j, none⟩ = false
section
variable {w w' : World} {b C : Nat} {l : List UInt8}
theorem CvB.ext (h : CvB w b C l) (hE : Ext w w') : CvB w' b C l := by
  have hb : w'.heap[b]? = w.heap[b]? := hE.block b h.lt
  refine ⟨Nat.lt_of_lt_of_le h.lt hE.size_le, fun j hj => ?_, fun j hj => ?_, fun j hj => ?_⟩
  · rw [World.cell?_of_block (a := ⟨b, j, none⟩) hb]; exact h.at_ j hj
  · rw [World.cell?_of_block (a := ⟨b, j, none⟩) hb]; exact h.there j hj
  · rw [World.frozen?_of_block (a := ⟨b, j, none⟩) hb]; exact h.free j hj
theorem conv3 (s : ByteArray) (W : World) : ∃ C W', (convert 9 203 (.string s)).run Tryz.prog W = .ok (.slice (some ⟨W.heap.size, 0, none⟩) s.size C) W' ∧ Ext W W' ∧ CvB W' W.heap.size C (bys s) ∧ s.size ≤ C := by
  have hge := grownCap_ge W s.size 0 5
  have hsz : (bytesRow s (grownCap W s.size 0 5)).size = grownCap W s.size 0 5 := by
    unfold bytesRow
    rw [Array.size_append, Array.size_map, Array.size_replicate]
    show s.size + _ = _
    omega
  have hh := heap_alloc_new W.drew (.cells (bytesRow s (grownCap W s.size 0 5)) 5 ((bytesRow s (grownCap W s.size 0 5)).size, (bytesRow s (grownCap W s.size 0 5)).size + 1))
  have hlt : W.heap.size < (W.drew.alloc (.cells (bytesRow s (grownCap W s.size 0 5)) 5 ((bytesRow s (grownCap W s.size 0 5)).size, (bytesRow s (grownCap W s.size 0 5)).size + 1))).heap.size := by simp
  refine ⟨_, _, run_bytes_of_string W _ _ _ s Tryz.underlying9 Tryz.underlying203 Tryz.underlying5, (Ext.refl _).drew.alloc _, ⟨hlt, fun j hj => ?_, fun j hj => ?_, fun j hj => ?_⟩, hge⟩
  · have hjs : j < s.size := by rw [bys_lengthM] at hj; exact hj
    rw [cell_of_row _ W.heap.size j _ _ _ hh, bytesRow_at s _ j hjs]
    rfl
  · rw [cell_of_row _ W.heap.size j _ _ _ hh, Array.getElem?_eq_getElem (by rw [hsz]; exact hj)]
    rfl
  · have hh2 := hh
    rw [show W.drew.heap.size = W.heap.size from rfl] at hh2
    unfold World.frozen?
    rw [hh2]
    simp
    omega
theorem grown_setM (w : World) (b i : Nat) (u : Value) : w.grownBy (w.setCell ⟨b, i, none⟩ u) (some b) :=
  ⟨rfl, rfl, rfl, by simp [World.setCell], fun k _ hk => Below.heap_setCell w ⟨b, i, none⟩ u k (fun e => hk (by rw [e]))⟩
theorem grown_setCells (b : Nat) : ∀ (vs : List Value) (o : Nat) (w : World), w.grownBy (w.setCells b o vs) (some b)
  | [], _, w => (Ext.refl w).grownBy _
  | v :: r, o, w => (grown_setM w b o v).trans (grown_setCells b r (o + 1) _)
/-- append onto the bytes of a converted string: in its own block, or in a new one. -/
theorem appConv {ops : Array Oper} {rest : List Oper} {o : Oper} {a : Act} {Q : Exit → Act → World → Prop} (hgd : o.guard = none) (s x : Operand)
    (ho : o.op = .call { callee := .builtin .append, args := #[s, x], argTypes := #[203, 203] })
    (hc : CvB w b C l) {n : Nat} (hn : n = l.length) (hs : a.eval s = .slice (some ⟨b, 0, none⟩) n C) {B : Option Addr} {k d : Nat} {news : List UInt8} (hr : SlB w B k news) (hx : a.eval x = .slice B k d) (hk : 0 < k)
    (hb : l.length + k ≤ 140737488355328) (h : ∀ A m c w', SlB w' A m (l ++ news) → w.grownBy w' (some b) → wpList Tryz.prog ops Q rest (a.put o.dst (.slice A m c)) w') : wpList Tryz.prog ops Q (o :: rest) a w := by
  subst hn
  obtain ⟨i0, hi0, hz0, hz1, hz2⟩ := info_parts info_u8
  obtain ⟨ad, rfl, _, hcell⟩ := hr.rd.2 (by omega)
  have hkl := hr.len
  refine wpList_append_arg w hgd s x 203 ho 5 i0 _ 1 1 Tryz.underlying203 hi0 hz0 hz1 hz2 rfl (by decide) b 0 l.length C (l.map bv) hs (by simp) (fun j u hj => ?_) ad k d (news.map bv) hx (by rw [List.length_map, Nat.mul_one]; exact hkl.symm) hcell (bv_one _) (fun hrm j hj => ?_) (by simp only [maxLen]; omega) (by omega) (fun hrm => ?_) (fun hgr v' w' hown hg => ?_)
  · rw [List.getElem?_map] at hj
    obtain ⟨y, hy, rfl⟩ := Option.map_eq_some_iff.1 hj
    obtain ⟨hjl, rfl⟩ := List.getElem?_eq_some_iff.1 hy
    rw [Nat.zero_add]
    exact hc.at_ j hjl
  · rw [List.length_map] at hj
    rw [Nat.zero_add, Nat.mul_one]
    exact ⟨hc.there _ (by omega), hc.free _ (by omega)⟩
  · rw [show 0 + l.length * 1 = l.length by omega]
    have hg := grown_setCells b (news.map bv) l.length w
    refine h _ _ _ _ ⟨⟨?_, fun _ => ⟨_, rfl, Nat.lt_of_lt_of_le hc.lt hg.size, fun j u hj => ?_⟩⟩, ?_, by omega⟩ hg
    · simp
      omega
    · rw [Addr.add_lit, Nat.zero_add]
      rw [List.map_append] at hj
      by_cases hjl : j < l.length
      · rw [List.getElem?_append_left (by simpa using hjl), List.getElem?_map, List.getElem?_eq_getElem hjl] at hj
        injection hj with hj
        rw [World.cell?_setCells_out b (news.map bv) l.length w ⟨b, j, none⟩ (fun _ _ => .inl hjl), hc.at_ j hjl, ← hj]
      · rw [List.getElem?_append_right (by simp; omega), List.length_map] at hj
        obtain ⟨hjn, hje⟩ := List.getElem?_eq_some_iff.1 hj
        have h2 := World.cell?_setCells_in b (news.map bv) l.length w (fun i hi => hc.there _ (by rw [List.length_map] at hi; omega)) (j - l.length) hjn
        rw [show l.length + (j - l.length) = j by omega] at h2
        rw [h2, hje]
    · rw [List.length_append]
      omega
  · have hown2 : w'.ownsRow w.heap.size 5 1 v' (l.length + k) ((l ++ news).map bv) := by rw [List.map_append]; exact hown
    obtain ⟨g, cap, rfl, _, _⟩ := World.ownsRow.form hown2 (by omega)
    have ho : OsB w' w.heap.size (some ⟨g, 0, none⟩) (l.length + k) cap (l ++ news) := ⟨hown2, by rw [List.length_append]; omega, hb⟩
    exact h _ _ _ _ ho.sl ⟨hg.os, hg.tape, hg.output, hg.size, fun j hj _ => hg.block j hj (by simp)⟩
/-- append onto a slice that is full: a new block. -/
theorem appFullC {ops : Array Oper} {rest : List Oper} {o : Oper} {a : Act} {Q : Exit → Act → World → Prop} (hgd : o.guard = none) (s x : Operand)
    (ho : o.op = .call { callee := .builtin .append, args := #[s, x], argTypes := #[203, 203] })
    (hc : ∀ j (h : j < l.length), w.cell? ⟨b, j, none⟩ = some (bv l[j])) {n : Nat} (hn : n = l.length) (hs : a.eval s = .slice (some ⟨b, 0, none⟩) n C) {B : Option Addr} {k d : Nat} {news : List UInt8} (hr : SlB w B k news) (hx : a.eval x = .slice B k d) (hk : 0 < k) (hfull : C < n + k)
    (hb : l.length + k ≤ 140737488355328) (h : ∀ A m c w', OsB w' w.heap.size A m c (l ++ news) → w.grownBy w' none → wpList Tryz.prog ops Q rest (a.put o.dst (.slice A m c)) w') : wpList Tryz.prog ops Q (o :: rest) a w := by
  subst hn
  obtain ⟨i0, hi0, hz0, hz1, hz2⟩ := info_parts info_u8
  obtain ⟨ad, rfl, _, hcell⟩ := hr.rd.2 (by omega)
  have hkl := hr.len
  refine wpList_append_arg w hgd s x 203 ho 5 i0 _ 1 1 Tryz.underlying203 hi0 hz0 hz1 hz2 rfl (by decide) b 0 l.length C (l.map bv) hs (by simp) (fun j u hj => ?_) ad k d (news.map bv) hx (by rw [List.length_map, Nat.mul_one]; exact hkl.symm) hcell (bv_one _) (fun hrm j hj => absurd hrm (by omega)) (by simp only [maxLen]; omega) (by omega) (fun hrm => absurd hrm (by omega)) (fun hgr v' w' hown hg => ?_)
  · rw [List.getElem?_map] at hj
    obtain ⟨y, hy, rfl⟩ := Option.map_eq_some_iff.1 hj
    obtain ⟨hjl, rfl⟩ := List.getElem?_eq_some_iff.1 hy
    rw [Nat.zero_add]
    exact hc j hjl
  · have hown2 : w'.ownsRow w.heap.size 5 1 v' (l.length + k) ((l ++ news).map bv) := by rw [List.map_append]; exact hown
    obtain ⟨g, cap, rfl, _, _⟩ := World.ownsRow.form hown2 (by omega)
    exact h _ _ _ _ ⟨hown2, by rw [List.length_append]; omega, hb⟩ hg
end
end Go.Proofs.YtdgppdiickmofaaGreatDoor
