/- Slices of any elements of k cells that are the call's own: append. -/
import Derived.Test.YtikbjaopcminaaaDoorSlc
namespace Go.Proofs.YtikbjaopcminaaaDoor
open Go.RowKit
set_option maxRecDepth 100000

/-- What the program's table says of a slice type t over elements e: k cells, so many bytes. -/
structure EInfo (t e : TypeId) (k by_ : Nat) : Prop where
  u : Tryd.prog.underlying t = some (.slice e)
  i : ∃ i z, Tryd.prog.info? e = some i ∧ i.zero = some z ∧ i.size = k ∧ i.bytes = by_ ∧ z.cells.size = k
  kp : 0 < k
  bp : 8 ≤ by_
theorem EInfo.mk_ {t e : TypeId} {k by_ : Nat} {z : Value} (hu : Tryd.prog.underlying t = some (.slice e)) (hi : (Tryd.prog.info? e).map (fun i => (i.zero, i.size, i.bytes)) = some (some z, k, by_)) (hz : z.cells.size = k) (hk : 0 < k) (hb : 8 ≤ by_) : EInfo t e k by_ := by
  obtain ⟨i0, h0, h1, h2, h3⟩ := info_parts hi
  exact ⟨hu, ⟨i0, z, h0, h1, h2, h3, hz⟩, hk, hb⟩

/-- The slice (A, m, c) is the call's own from block base on and holds l. -/
structure OsC {α : Type} (cs : α → List Value) (e : TypeId) (k : Nat) (w : World) (base : Nat) (A : Option Addr) (m c : Nat) (l : List α) : Prop where
  own : w.ownsRow base e k (.slice A m c) m (l.flatMap cs)
  one : ∀ x, (cs x).length = k
  cell : ∀ x, ∀ u ∈ cs x, u.oneCell' = true
  len : m = l.length
  le : m ≤ 17592186044416

section
variable {α : Type} {cs : α → List Value} {t e : TypeId} {k by_ : Nat} {w w' : World} {base : Nat} {A : Option Addr} {m c : Nat} {l : List α}
theorem OsC.ge (h : OsC cs e k w base A m c l) : ∀ j, ob A = some j → base ≤ j := fun j hj => (World.ownsRow.lt h.own j (by rw [ob_own]; exact hj)).1
theorem OsC.lt (h : OsC cs e k w base A m c l) : ∀ j, ob A = some j → j < w.heap.size := fun j hj => (World.ownsRow.lt h.own j (by rw [ob_own]; exact hj)).2
theorem OsC.nil_ (h1 : ∀ x, (cs x).length = k) (h2 : ∀ x, ∀ u ∈ cs x, u.oneCell' = true) : OsC cs e k w base none 0 0 ([] : List α) := ⟨World.ownsRow_nil _ _ _ _, h1, h2, rfl, by omega⟩
theorem OsC.ext (h : OsC cs e k w base A m c l) (hE : Ext w w') : OsC cs e k w' base A m c l := ⟨World.ownsRow.kept h.own (hE.grownBy none) (by rw [ob_own]; cases hv : ob A <;> simp), h.one, h.cell, h.len, h.le⟩
theorem OsC.kept {row : Option Nat} (h : OsC cs e k w base A m c l) (hg : w.grownBy w' row) (hne : ob A = none ∨ ob A ≠ row) : OsC cs e k w' base A m c l := ⟨World.ownsRow.kept h.own hg (by rw [ob_own]; exact hne), h.one, h.cell, h.len, h.le⟩
theorem OsC.sl (h : OsC cs e k w base A m c l) : SlC cs k w A m l := ⟨Reads.of_own h.own, h.one, h.len, by have := h.le; omega⟩
theorem OsC.mono {base' : Nat} (h : OsC cs e k w base A m c l) (hb : base' ≤ base) : OsC cs e k w base' A m c l := by
  refine ⟨⟨h.own.1, ?_⟩, h.one, h.cell, h.len, h.le⟩
  rcases h.own.2 with hn | ⟨g, cap, cur, hv, hg, r⟩
  · exact .inl hn
  · exact .inr ⟨g, cap, cur, hv, by omega, r⟩
theorem OsC.cap (h : OsC cs e k w base A m c l) : m ≤ c := by
  rcases h.own.2 with ⟨hv, h0⟩ | ⟨g, cap, cur, hv, _, _, hn, _⟩
  · injection hv with _ h1 h2
    omega
  · injection hv with _ h1 h2
    omega
theorem SlC.new_ (w : World) (l : List α) (h1 : ∀ x, (cs x).length = k) (hb : l.length ≤ 8796093022208) (xs : Array Value) (hxs : xs = (l.flatMap cs).toArray) (fr : Nat × Nat := (0, 0)) (n : Nat) (hn : n = l.length) (t : TypeId) :
    SlC cs k (w.alloc (.cells xs t fr)) (some ⟨w.heap.size, 0, none⟩) n l := by
  subst hxs
  subst hn
  refine ⟨⟨?_, fun _ => ⟨_, rfl, by simp, fun j u hj => ?_⟩⟩, h1, rfl, by omega⟩
  · clear hb
    induction l with
    | nil => simp
    | cons x t ih => rw [List.flatMap_cons, List.length_append, ih, h1 x, List.length_cons, Nat.succ_mul]; omega
  · rw [Addr.add_lit, Nat.zero_add, cell_of_row _ w.heap.size j _ t fr (heap_alloc_new w _)]
    simpa using hj
theorem OsC.new0 (w : World) (base : Nat) (hbase : base ≤ w.heap.size) (h1 : ∀ x, (cs x).length = k) (h2 : ∀ x, ∀ u ∈ cs x, u.oneCell' = true) :
    OsC cs e k (w.alloc (.cells #[] e)) base (some ⟨w.heap.size, 0, none⟩) 0 0 ([] : List α) := by
  have h3 := World.ownsRow_lit (e := e) (size := k) w #[] 0 hbase (by simp [maxLen]) (by simp)
  exact ⟨by simpa using h3, h1, h2, rfl, by omega⟩

theorem wp_appC (I : EInfo t e k by_) {o : Oper} {a : Act} {K : Act → World → Prop} {Q : Exit → Act → World → Prop} (s x : Operand)
    (ho : o.op = .call { callee := .builtin .append, args := #[s, x], argTypes := #[t, t] })
    (hown : OsC cs e k w base A m c l) (hs : a.eval s = .slice A m c)
    {B : Option Addr} {n d : Nat} {news : List α} (hr : SlC cs k w B n news) (hx : a.eval x = .slice B n d)
    (hb : (m + n) * by_ ≤ 140737488355328) (hbase : base ≤ w.heap.size)
    (h : ∀ A' m' c' w', OsC cs e k w' base A' m' c' (l ++ news) → w.grownBy w' (ob A) → NewOr w.heap.size (ob A) (ob A') →
      K (a.put o.dst (.slice A' m' c')) w') : o.wp Tryd.prog a w K Q := by
  obtain ⟨i0, z, hi0, hz0, hz1, hz2, hz3⟩ := I.i
  have hmn : (m + n) * 8 ≤ 140737488355328 := Nat.le_trans (Nat.mul_le_mul_left _ I.bp) hb
  refine wp_append_any w s x _ ho base e i0 z k by_ I.u hi0 hz0 hz1 hz2 hz3 I.kp _ m (l.flatMap cs) hs hown.own _ B n d (news.flatMap cs) hx hr.rd (fun u hu => ?_) (by simp only [maxLen]; omega) hb hbase ?_
  · obtain ⟨y, _, hy⟩ := List.mem_flatMap.1 hu
    exact hown.cell y u hy
  intro v' w' hown' hg hat
  have hv : ∃ A' c', v' = .slice A' (m + n) c' := by
    rcases hown'.2 with ⟨rfl, h0⟩ | ⟨g, cap, cur, rfl, _⟩
    · exact ⟨none, 0, by rw [h0]⟩
    · exact ⟨_, _, rfl⟩
  obtain ⟨A', c', rfl⟩ := hv
  rw [ob_own] at hg
  rw [ob_own, ob_own] at hat
  refine h A' (m + n) c' w' ⟨by rw [List.flatMap_append]; exact hown', hown.one, hown.cell, by rw [List.length_append, hown.len, hr.len], by omega⟩ hg (fun k hk => ?_)
  rcases hat with h1 | h1
  · exact .inr (h1 ▸ hk)
  · rw [h1] at hk
    injection hk with hk
    exact .inl (by omega)
theorem appC (I : EInfo t e k by_) {ops : Array Oper} {rest : List Oper} {o : Oper} {a : Act} {Q : Exit → Act → World → Prop} (hgd : Region.wanted o (yielded ops a.tmps) = true) (s x : Operand)
    (ho : o.op = .call { callee := .builtin .append, args := #[s, x], argTypes := #[t, t] })
    (hown : OsC cs e k w base A m c l) (hs : a.eval s = .slice A m c)
    {B : Option Addr} {n d : Nat} {news : List α} (hr : SlC cs k w B n news) (hx : a.eval x = .slice B n d)
    (hb : (m + n) * by_ ≤ 140737488355328) (hbase : base ≤ w.heap.size)
    (h : ∀ A' m' c' w', OsC cs e k w' base A' m' c' (l ++ news) → w.grownBy w' (ob A) → NewOr w.heap.size (ob A) (ob A') →
      wpList Tryd.prog ops Q rest (a.put o.dst (.slice A' m' c')) w') : wpList Tryd.prog ops Q (o :: rest) a w :=
  BigFrame.wpList_want hgd fun _ hK => wp_appC I s x ho hown hs hr hx hb hbase fun A' m' c' w' h1 h2 h3 => hK _ _ (h A' m' c' w' h1 h2 h3)
theorem step_appC (I : EInfo t e k by_) {ops : Array Oper} {o : Oper} {a : Act} {K : Act → World → Prop} {Q : Exit → Act → World → Prop} {E : Prop} (hgd : Region.wanted o (yielded ops a.tmps) = true) (s x : Operand)
    (ho : o.op = .call { callee := .builtin .append, args := #[s, x], argTypes := #[t, t] })
    (hown : OsC cs e k w base A m c l) (hs : a.eval s = .slice A m c)
    {B : Option Addr} {n d : Nat} {news : List α} (hr : SlC cs k w B n news) (hx : a.eval x = .slice B n d)
    (hb : (m + n) * by_ ≤ 140737488355328) (hbase : base ≤ w.heap.size)
    (h : ∀ A' m' c' w', OsC cs e k w' base A' m' c' (l ++ news) → w.grownBy w' (ob A) → NewOr w.heap.size (ob A) (ob A') →
      K (a.put o.dst (.slice A' m' c')) w') : if Region.wanted o (yielded ops a.tmps) = true then Oper.wp Tryd.prog o a w K Q else E := by
  rw [if_pos hgd]
  exact wp_appC I s x ho hown hs hr hx hb hbase h
end

end Go.Proofs.YtikbjaopcminaaaDoor
