/- Slices of any elements of k cells, as lists. -/
import Derived.Test.YtdgppdiickmofaaGreatDoorPQ01
import Derived.Deep.Slices
import Derived.SizedLaws
import Derived.OpenShut
import Derived.Laws.CopyRow
import Derived.Lib.AppendZerosOnto
namespace Go.Proofs.YtdgppdiickmofaaGreatDoor
open Go.RowKit
open Go.WideShapes Go.ChangeShapes Go.Deep
set_option maxRecDepth 100000

/-- The slice (A, m) holds the elements l, each of k cells. -/
structure SlC {α : Type} (cs : α → List Value) (k : Nat) (w : World) (A : Option Addr) (m : Nat) (l : List α) : Prop where
  rd : Reads w w.heap.size k A m (l.flatMap cs)
  one : ∀ x, (cs x).length = k
  len : m = l.length
  le : m ≤ 140737488355328

section
variable {α : Type} {cs : α → List Value} {k : Nat} {w w' : World} {A : Option Addr} {m : Nat} {l : List α}
theorem flat_at (h : ∀ x, (cs x).length = k) (l : List α) (q j : Nat) (hq : q < l.length) (hj : j < k) : (l.flatMap cs)[q * k + j]? = (cs l[q])[j]? := by
  induction l generalizing q with
  | nil => simp at hq
  | cons x t ih =>
    rw [List.flatMap_cons]
    cases q with
    | zero => rw [List.getElem?_append_left (by rw [h x]; omega)]; simp
    | succ q =>
      rw [List.getElem?_append_right (by rw [h x, Nat.succ_mul]; omega), h x]
      have e1 : (q + 1) * k + j - k = q * k + j := by rw [Nat.succ_mul]; omega
      rw [e1, ih q (by simpa using hq)]
      simp
theorem SlC.ext (h : SlC cs k w A m l) (hE : Ext w w') : SlC cs k w' A m l := ⟨Reads.more (Reads.below h.rd hE) hE.size_le, h.one, h.len, h.le⟩
theorem SlC.nil_ (h : ∀ x, (cs x).length = k) : SlC cs k w none 0 [] := ⟨⟨by simp, fun h => absurd h (by omega)⟩, h, rfl, by omega⟩
theorem SlC.kept {r : Option Nat} (h : SlC cs k w A m l) (hg : w.grownBy w' r) (h2 : ob A = none ∨ ob A ≠ r) : SlC cs k w' A m l := by
  refine ⟨⟨h.rd.1, fun hn => ?_⟩, h.one, h.len, h.le⟩
  obtain ⟨ad, e, hb, hc⟩ := h.rd.2 hn
  refine ⟨ad, e, Nat.lt_of_lt_of_le hb hg.size, fun j u hu => ?_⟩
  have hne : some (ad.add j).block ≠ r := by
    rw [block_of_add]
    subst e
    rcases h2 with h2 | h2
    · cases h2
    · exact h2
  exact hg.cell (hc j u hu) hne
/-- The address of a slice that has an element, and the cells of every element. -/
theorem SlC.at_ {i : Nat} (h : SlC cs k w A m l) (hi : i < m) (hk : 0 < k) : ∃ b off, A = some ⟨b, off, none⟩ ∧ b < w.heap.size ∧
    ∀ q (hq : q < l.length) j (hj : j < k), w.cell? ⟨b, off + (q * k + j), none⟩ = some ((cs l[q])[j]'(by rw [h.one]; exact hj)) := by
  have hl := h.len
  obtain ⟨⟨b, off, sp⟩, hA, hbl, hc⟩ := h.rd.2 (by omega)
  have hx : ∀ q (hq : q < l.length) j (hj : j < k), (l.flatMap cs)[q * k + j]? = some ((cs l[q])[j]'(by rw [h.one]; exact hj)) := fun q hq j hj => by
    rw [flat_at h.one l q j hq hj]
    exact List.getElem?_eq_getElem _
  have h0 := hc (0 * k + 0) _ (hx 0 (by omega) 0 hk)
  have hsp : sp = none := by
    cases sp with
    | none => rfl
    | some s =>
      simp only [Nat.zero_mul, Nat.add_zero, Addr.add, if_pos, World.cell?] at h0
      split at h0
      · simp at h0
      · cases h0
  subst hsp
  refine ⟨b, off, hA, hbl, fun q hq j hj => ?_⟩
  have := hc _ _ (hx q hq j hj)
  rw [Addr.add_lit] at this
  exact this
end

section
variable {H : Type} {enc : TypeId × Value → H} {W : World} {base : Nat} {v : Value} {d : DataW H} {p : List MemPlace}
theorem flat_list {α : Type} (cs : α → List Value) (good : α → Prop) (m : Nat) (f : Nat → List Value → Prop) (h : ∀ i, i < m → ∃ x, f i (cs x) ∧ good x) :
    ∃ l : List α, l.length = m ∧ (∀ x ∈ l, good x) ∧ ∀ i (hi : i < l.length), f i (cs l[i]) := by
  induction m with
  | zero => exact ⟨[], rfl, by simp, by simp⟩
  | succ m ih =>
    obtain ⟨l, hl, hg, hc⟩ := ih fun i hi => h i (by omega)
    obtain ⟨x, hx, hgx⟩ := h m (by omega)
    refine ⟨l ++ [x], by simp [hl], ?_, fun i hi => ?_⟩
    · intro y hy
      rcases List.mem_append.1 hy with hy | hy
      · exact hg y hy
      · simp at hy; subst hy; exact hgx
    · by_cases hlt : i < l.length
      · rw [List.getElem_append_left hlt]; exact hc i hlt
      · have : i = l.length := by simp at hi; omega
        subst this
        rw [List.getElem_append_right (Nat.le_refl _)]
        simp only [Nat.sub_self, List.getElem_cons_zero]
        rw [hl]; exact hx
/-- A slice that came in, opened to a list of its elements. -/
theorem open_sliceK {α : Type} (cs : α → List Value) (good : α → Prop) {k : Nat} {t e : TypeId} (ht : Tryz.prog.underlying t = some (.slice e)) (hC : Tryz.prog.cellsOf e = k) (hk : 0 < k) (hone : ∀ x, (cs x).length = k)
    (hB : 1 ≤ Tryz.prog.bytesOf e) (hv : Value.okWide Tryz.prog W .any base t v) (h : DataW.Trod enc Tryz.prog W 0 (fun _ => true) true t v d p)
    (hz : ∀ elems spare, d = .slice elems spare → (elems.length + spare.length) * Tryz.prog.bytesOf e ≤ reachBytes)
    (elem : ∀ n cs' x, DataW.trod enc Tryz.prog W 0 (fun _ => true) true n e cs' = some x → ∃ y, cs' = cs y ∧ good y) :
    ∃ A m c l, v = .slice A m c ∧ SlC cs k W A m l ∧ (∀ x ∈ l, good x) ∧ m ≤ c := by
  obtain ⟨A, m, c, rfl⟩ := okWide_slice ht hv
  obtain ⟨fuel, hf⟩ := h
  rcases open_slice ht hf with ⟨hcs, _⟩ | ⟨a, len, cap, m', n, D, Pl, hcs, _, hl, hm, hmm, hx, hi⟩
  · simp [Value.cells] at hcs
    obtain ⟨rfl, rfl, rfl⟩ := hcs
    exact ⟨none, 0, 0, [], rfl, SlC.nil_ hone, by simp, Nat.le_refl _⟩
  · simp [Value.cells] at hcs
    obtain ⟨rfl, rfl, rfl⟩ := hcs
    simp only [Prod.mk.injEq] at hx
    obtain ⟨rfl, rfl⟩ := hx
    have hmm' : m' = c := by simpa using hmm
    subst hmm'
    have h1 := hz _ _ rfl
    have h2 : m' * 1 ≤ reachBytes := Nat.le_trans (Nat.mul_le_mul_left _ hB) (by simpa [show m + (m' - m) = m' by omega] using h1)
    simp only [reachBytes] at h2
    rw [hC] at hi
    obtain ⟨l, hll, hg, hc⟩ := flat_list cs good m (fun i cs' => W.cells? 0 (a.add (i * k)) k = some cs') (fun i hlt => by
      obtain ⟨cs', h3, h4⟩ := hi i (by omega)
      obtain ⟨y, rfl, hy⟩ := elem _ _ _ h4
      exact ⟨y, h3, hy⟩)
    refine ⟨some a, m, m', l, rfl, ⟨⟨?_, fun hn => ⟨a, rfl, ?_, fun j u hu => ?_⟩⟩, hone, hll.symm, by omega⟩, hg, hl⟩
    · rw [← hll]
      clear hc hg hll
      induction l with
      | nil => simp
      | cons x t ih => rw [List.flatMap_cons, List.length_append, ih, hone x, List.length_cons, Nat.succ_mul]; omega
    · obtain ⟨_, _, hat⟩ := World.cells?_some (hc 0 (by omega))
      have h3 := hat 0 hk
      have h4 : (cs l[0])[0]? = some ((cs l[0])[0]'(by rw [hone]; exact hk)) := List.getElem?_eq_getElem _
      have h5 := World.block_lt_of_cell? W _ (h3.trans h4)
      rw [block_of_add, block_of_add] at h5
      exact h5
    · have hjl : j < (l.flatMap cs).length := (List.getElem?_eq_some_iff.1 hu).1
      have hfl : (l.flatMap cs).length = l.length * k := by
        clear hc hg hll hu hjl
        induction l with
        | nil => simp
        | cons x t ih => rw [List.flatMap_cons, List.length_append, ih, hone x, List.length_cons, Nat.succ_mul]; omega
      have hq : j / k < l.length := by rw [Nat.div_lt_iff_lt_mul hk]; omega
      have hr : j % k < k := Nat.mod_lt _ hk
      have hj : j = j / k * k + j % k := by rw [Nat.mul_comm]; exact (Nat.div_add_mod j k).symm
      obtain ⟨_, _, hat⟩ := World.cells?_some (hc (j / k) hq)
      have h3 := hat (j % k) hr
      rw [add_of_add, ← hj] at h3
      rw [h3, ← flat_at hone l _ _ hq hr, ← hj]
      exact hu
end

end Go.Proofs.YtdgppdiickmofaaGreatDoor

/- Slices of any elements of k cells that are the call's own: append. -/
namespace Go.Proofs.YtdgppdiickmofaaGreatDoor
open Go.RowKit
set_option maxRecDepth 100000

/-- What the program's table says of a slice type t over elements e: k cells, so many bytes. -/
structure EInfo (t e : TypeId) (k by_ : Nat) : Prop where
  u : Tryz.prog.underlying t = some (.slice e)
  i : ∃ i z, Tryz.prog.info? e = some i ∧ i.zero = some z ∧ i.size = k ∧ i.bytes = by_ ∧ z.cells.size = k
  kp : 0 < k
  bp : 8 ≤ by_
theorem EInfo.mk_ {t e : TypeId} {k by_ : Nat} {z : Value} (hu : Tryz.prog.underlying t = some (.slice e)) (hi : (Tryz.prog.info? e).map (fun i => (i.zero, i.size, i.bytes)) = some (some z, k, by_)) (hz : z.cells.size = k) (hk : 0 < k) (hb : 8 ≤ by_) : EInfo t e k by_ := by
  obtain ⟨i0, h0, h1, h2, h3⟩ := info_parts hi
  exact ⟨hu, ⟨i0, z, h0, h1, h2, h3, hz⟩, hk, hb⟩

/-- The slice (A, m, c) is the call's own from block base on and holds l. -/
structure OsC {α : Type} (cs : α → List Value) (e : TypeId) (k : Nat) (w : World) (base : Nat) (A : Option Addr) (m c : Nat) (l : List α) : Prop where
  own : w.ownsRow base e k (.slice A m c) m (l.flatMap cs)
  one : ∀ x, (cs x).length = k
  cell : ∀ x, ∀ u ∈ cs x, u.oneCell' = true
  len : m = l.length
  le : m ≤ 17592186044416

section
variable {α : Type} {cs : α → List Value} {t e : TypeId} {k by_ : Nat} {w w' : World} {base : Nat} {A : Option Addr} {m c : Nat} {l : List α}
theorem OsC.ge (h : OsC cs e k w base A m c l) : ∀ j, ob A = some j → base ≤ j := fun j hj => (World.ownsRow.lt h.own j (by rw [ob_own]; exact hj)).1
theorem OsC.lt (h : OsC cs e k w base A m c l) : ∀ j, ob A = some j → j < w.heap.size := fun j hj => (World.ownsRow.lt h.own j (by rw [ob_own]; exact hj)).2
theorem OsC.nil_ (h1 : ∀ x, (cs x).length = k) (h2 : ∀ x, ∀ u ∈ cs x, u.oneCell' = true) : OsC cs e k w base none 0 0 ([] : List α) := ⟨World.ownsRow_nil _ _ _ _, h1, h2, rfl, by omega⟩
theorem OsC.ext (h : OsC cs e k w base A m c l) (hE : Ext w w') : OsC cs e k w' base A m c l := ⟨World.ownsRow.kept h.own (hE.grownBy none) (by rw [ob_own]; cases hv : ob A <;> simp), h.one, h.cell, h.len, h.le⟩
theorem OsC.kept {row : Option Nat} (h : OsC cs e k w base A m c l) (hg : w.grownBy w' row) (hne : ob A = none ∨ ob A ≠ row) : OsC cs e k w' base A m c l := ⟨World.ownsRow.kept h.own hg (by rw [ob_own]; exact hne), h.one, h.cell, h.len, h.le⟩
theorem OsC.sl (h : OsC cs e k w base A m c l) : SlC cs k w A m l := ⟨Reads.of_own h.own, h.one, h.len, by have := h.le; omega⟩
theorem OsC.mono {base' : Nat} (h : OsC cs e k w base A m c l) (hb : base' ≤ base) : OsC cs e k w base' A m c l := by
  refine ⟨⟨h.own.1, ?_⟩, h.one, h.cell, h.len, h.le⟩
  rcases h.own.2 with hn | ⟨g, cap, cur, hv, hg, r⟩
  · exact .inl hn
  · exact .inr ⟨g, cap, cur, hv, by omega, r⟩
theorem OsC.cap (h : OsC cs e k w base A m c l) : m ≤ c := by
  rcases h.own.2 with ⟨hv, h0⟩ | ⟨g, cap, cur, hv, _, _, hn, _⟩
  · injection hv with _ h1 h2
    omega
  · injection hv with _ h1 h2
    omega
theorem SlC.new_ (w : World) (l : List α) (h1 : ∀ x, (cs x).length = k) (hb : l.length ≤ 8796093022208) (xs : Array Value) (hxs : xs = (l.flatMap cs).toArray) (fr : Nat × Nat := (0, 0)) (n : Nat) (hn : n = l.length) (t : TypeId) :
    SlC cs k (w.alloc (.cells xs t fr)) (some ⟨w.heap.size, 0, none⟩) n l := by
  subst hxs
  subst hn
  refine ⟨⟨?_, fun _ => ⟨_, rfl, by simp, fun j u hj => ?_⟩⟩, h1, rfl, by omega⟩
  · clear hb
    induction l with
    | nil => simp
    | cons x t ih => rw [List.flatMap_cons, List.length_append, ih, h1 x, List.length_cons, Nat.succ_mul]; omega
  · rw [Addr.add_lit, Nat.zero_add, cell_of_row _ w.heap.size j _ t fr (heap_alloc_new w _)]
    simpa using hj
theorem OsC.new0 (w : World) (base : Nat) (hbase : base ≤ w.heap.size) (h1 : ∀ x, (cs x).length = k) (h2 : ∀ x, ∀ u ∈ cs x, u.oneCell' = true) :
    OsC cs e k (w.alloc (.cells #[] e)) base (some ⟨w.heap.size, 0, none⟩) 0 0 ([] : List α) := by
  have h3 := World.ownsRow_lit (e := e) (size := k) w #[] 0 hbase (by simp [maxLen]) (by simp)
  exact ⟨by simpa using h3, h1, h2, rfl, by omega⟩

theorem wp_appC (I : EInfo t e k by_) {o : Oper} {a : Act} {K : Act → World → Prop} {Q : Exit → Act → World → Prop} (s x : Operand)
    (ho : o.op = .call { callee := .builtin .append, args := #[s, x], argTypes := #[t, t] })
    (hown : OsC cs e k w base A m c l) (hs : a.eval s = .slice A m c)
    {B : Option Addr} {n d : Nat} {news : List α} (hr : SlC cs k w B n news) (hx : a.eval x = .slice B n d)
    (hb : (m + n) * by_ ≤ 140737488355328) (hbase : base ≤ w.heap.size)
    (h : ∀ A' m' c' w', OsC cs e k w' base A' m' c' (l ++ news) → w.grownBy w' (ob A) → NewOr w.heap.size (ob A) (ob A') →
      K (a.put o.dst (.slice A' m' c')) w') : o.wp Tryz.prog a w K Q := by
  obtain ⟨i0, z, hi0, hz0, hz1, hz2, hz3⟩ := I.i
  have hmn : (m + n) * 8 ≤ 140737488355328 := Nat.le_trans (Nat.mul_le_mul_left _ I.bp) hb
  refine wp_append_any w s x _ ho base e i0 z k by_ I.u hi0 hz0 hz1 hz2 hz3 I.kp _ m (l.flatMap cs) hs hown.own _ B n d (news.flatMap cs) hx hr.rd (fun u hu => ?_) (by simp only [maxLen]; omega) hb hbase ?_
  · obtain ⟨y, _, hy⟩ := List.mem_flatMap.1 hu
    exact hown.cell y u hy
  intro v' w' hown' hg hat
  have hv : ∃ A' c', v' = .slice A' (m + n) c' := by
    rcases hown'.2 with ⟨rfl, h0⟩ | ⟨g, cap, cur, rfl, _⟩
    · exact ⟨none, 0, by rw [h0]⟩
    · exact ⟨_, _, rfl⟩
  obtain ⟨A', c', rfl⟩ := hv
  rw [ob_own] at hg
  rw [ob_own, ob_own] at hat
  refine h A' (m + n) c' w' ⟨by rw [List.flatMap_append]; exact hown', hown.one, hown.cell, by rw [List.length_append, hown.len, hr.len], by omega⟩ hg (fun k hk => ?_)
  rcases hat with h1 | h1
  · exact .inr (h1 ▸ hk)
  · rw [h1] at hk
    injection hk with hk
    exact .inl (by omega)
theorem appC (I : EInfo t e k by_) {ops : Array Oper} {rest : List Oper} {o : Oper} {a : Act} {Q : Exit → Act → World → Prop} (hgd : Region.wanted o (yielded ops a.tmps) = true) (s x : Operand)
    (ho : o.op = .call { callee := .builtin .append, args := #[s, x], argTypes := #[t, t] })
    (hown : OsC cs e k w base A m c l) (hs : a.eval s = .slice A m c)
    {B : Option Addr} {n d : Nat} {news : List α} (hr : SlC cs k w B n news) (hx : a.eval x = .slice B n d)
    (hb : (m + n) * by_ ≤ 140737488355328) (hbase : base ≤ w.heap.size)
    (h : ∀ A' m' c' w', OsC cs e k w' base A' m' c' (l ++ news) → w.grownBy w' (ob A) → NewOr w.heap.size (ob A) (ob A') →
      wpList Tryz.prog ops Q rest (a.put o.dst (.slice A' m' c')) w') : wpList Tryz.prog ops Q (o :: rest) a w :=
  BigFrame.wpList_want hgd fun _ hK => wp_appC I s x ho hown hs hr hx hb hbase fun A' m' c' w' h1 h2 h3 => hK _ _ (h A' m' c' w' h1 h2 h3)
theorem step_appC (I : EInfo t e k by_) {ops : Array Oper} {o : Oper} {a : Act} {K : Act → World → Prop} {Q : Exit → Act → World → Prop} {E : Prop} (hgd : Region.wanted o (yielded ops a.tmps) = true) (s x : Operand)
    (ho : o.op = .call { callee := .builtin .append, args := #[s, x], argTypes := #[t, t] })
    (hown : OsC cs e k w base A m c l) (hs : a.eval s = .slice A m c)
    {B : Option Addr} {n d : Nat} {news : List α} (hr : SlC cs k w B n news) (hx : a.eval x = .slice B n d)
    (hb : (m + n) * by_ ≤ 140737488355328) (hbase : base ≤ w.heap.size)
    (h : ∀ A' m' c' w', OsC cs e k w' base A' m' c' (l ++ news) → w.grownBy w' (ob A) → NewOr w.heap.size (ob A) (ob A') →
      K (a.put o.dst (.slice A' m' c')) w') : if Region.wanted o (yielded ops a.tmps) = true then Oper.wp Tryz.prog o a w K Q else E := by
  rw [if_pos hgd]
  exact wp_appC I s x ho hown hs hr hx hb hbase h
end

end Go.Proofs.YtdgppdiickmofaaGreatDoor

/- Rows of a call's own, of elements of k cells: cuts, copies, stores, clearing, growth by zeros. -/
namespace Go.Proofs.YtdgppdiickmofaaGreatDoor
open Go.RowKit
set_option maxRecDepth 100000

section
variable {α : Type} {cs : α → List Value} {t e : TypeId} {k by_ : Nat} {w w' : World} {base : Nat} {A : Option Addr} {m c : Nat} {l : List α}
theorem flat_len (h1 : ∀ x, (cs x).length = k) (l : List α) : (l.flatMap cs).length = l.length * k := by
  induction l with
  | nil => simp
  | cons x t ih => rw [List.flatMap_cons, List.length_append, ih, h1 x, List.length_cons, Nat.succ_mul]; omega
theorem flat_take (h1 : ∀ x, (cs x).length = k) (l : List α) (i : Nat) : (l.flatMap cs).take (i * k) = (l.take i).flatMap cs := by
  induction l generalizing i with
  | nil => simp
  | cons x t ih =>
    cases i with
    | zero => simp
    | succ i =>
      rw [List.flatMap_cons, List.take_succ_cons, List.flatMap_cons, List.take_append, h1 x, List.take_of_length_le (by rw [h1 x, Nat.succ_mul]; omega), show (i + 1) * k - k = i * k by rw [Nat.succ_mul]; omega, ih]
theorem flat_drop (h1 : ∀ x, (cs x).length = k) (l : List α) (i : Nat) : (l.flatMap cs).drop (i * k) = (l.drop i).flatMap cs := by
  induction l generalizing i with
  | nil => simp
  | cons x t ih =>
    cases i with
    | zero => simp
    | succ i =>
      rw [List.flatMap_cons, List.drop_succ_cons, List.drop_append, h1 x, List.drop_eq_nil_of_le (by rw [h1 x, Nat.succ_mul]; omega), show (i + 1) * k - k = i * k by rw [Nat.succ_mul]; omega, ih, List.nil_append]

theorem take_three {β : Type} (X Y Z : List β) (N : Nat) (h : X.length + Y.length ≤ N) : (X ++ Y ++ Z).take N = X ++ (Y ++ Z.take (N - (X.length + Y.length))) := by
  rw [List.take_append, List.take_of_length_le (by rw [List.length_append]; exact h), List.length_append, List.append_assoc]
/-- The row of a slice that holds an element. -/
theorem OsC.row (h : OsC cs e k w base A m c l) (hm : 0 < m) : ∃ g cur, A = some ⟨g, 0, none⟩ ∧ base ≤ g ∧ w.heap[g]? = some (.cells cur e (0, 0)) ∧ m ≤ c ∧ c ≤ maxLen ∧ cur.size = c * k ∧ cur.toList.take (m * k) = l.flatMap cs := by
  rcases h.own.2 with ⟨_, h0⟩ | ⟨g, cap, cur, hv, hg, hh, hn, hc, hsz, htk⟩
  · omega
  · injection hv with e1 _ e3
    subst e3
    exact ⟨g, cur, e1, hg, hh, hn, hc, hsz, htk⟩
theorem OsC.of_row {g : Nat} {cur : Array Value} (hA : A = some ⟨g, 0, none⟩) (hg : base ≤ g) (hh : w.heap[g]? = some (.cells cur e (0, 0))) (hmc : m ≤ c) (hc : c ≤ maxLen) (hsz : cur.size = c * k) (htk : cur.toList.take (m * k) = l.flatMap cs)
    (h1 : ∀ x, (cs x).length = k) (h2 : ∀ x, ∀ u ∈ cs x, u.oneCell' = true) (hl : m = l.length) (hle : m ≤ 17592186044416) : OsC cs e k w base A m c l :=
  ⟨⟨by rw [flat_len h1, hl], .inr ⟨g, c, cur, by rw [hA], hg, hh, hmc, hc, hsz, htk⟩⟩, h1, h2, hl, hle⟩
theorem OsC.take_ (h : OsC cs e k w base A m c l) {i : Nat} (hi : i ≤ m) : OsC cs e k w base A i c (l.take i) := by
  rcases h.own.2 with ⟨hv, h0⟩ | ⟨g, cap, cur, hv, hg, hh, hn, hc, hsz, htk⟩
  · injection hv with e1 e2 e3
    subst e1 e3
    obtain rfl : i = 0 := by omega
    rw [List.take_zero]
    exact OsC.nil_ h.one h.cell
  · injection hv with e1 _ e3
    subst e3
    refine OsC.of_row e1 hg hh (by omega) hc hsz ?_ h.one h.cell (by rw [List.length_take, ← h.len]; omega) (by have := h.le; omega)
    rw [← flat_take h.one, ← htk, List.take_take, Nat.min_eq_left (Nat.mul_le_mul_right _ hi)]
theorem setRow_heap' {g : Nat} {cur : Array Value} (hh : w.heap[g]? = some (.cells cur e (0, 0))) (xs : Array Value) : (w.setRow g xs).heap[g]? = some (.cells xs e (0, 0)) := setRow_heap w g cur xs e (0, 0) hh
theorem setRow_size (w : World) (g : Nat) (xs : Array Value) : (w.setRow g xs).heap.size = w.heap.size := by simp [World.setRow]
theorem grown_setRow (w : World) (g : Nat) (xs : Array Value) : w.grownBy (w.setRow g xs) (some g) := by
  refine ⟨rfl, rfl, rfl, by rw [setRow_size]; exact Nat.le_refl _, fun j _ hne => ?_⟩
  exact setRow_other w g j xs (fun e => hne (by rw [e]))
theorem splice_size {cur : Array Value} {o n : Nat} {xs : List Value} (hx : xs.length = n) (hfit : o + n ≤ cur.size) : (cur.toList.take o ++ xs ++ cur.toList.drop (o + n)).toArray.size = cur.size := by
  simp only [List.size_toArray, List.length_append, List.length_take, List.length_drop, Array.length_toList]
  omega

variable {P : Program}
/-- The cells of a slice, read. -/
theorem run_firstC {W : World} {B : Option Addr} {n d : Nat} {news : List α} (hr : SlC cs k W B n news) : (Builtin.firstCells k n (.slice B n d)).run P W = .ok (news.flatMap cs).toArray W := by
  have hl : (news.flatMap cs).length = n * k := by rw [flat_len hr.one, hr.len]
  cases B with
  | none =>
    have h0 : n = 0 := by
      rcases Nat.eq_zero_or_pos n with h0 | h0
      · exact h0
      · obtain ⟨ad, h, _⟩ := hr.rd.2 h0
        cases h
    have hn : news.flatMap cs = [] := List.eq_nil_of_length_eq_zero (by rw [hl, h0, Nat.zero_mul])
    rw [hn]
    simp [Builtin.firstCells]
  | some a =>
    have hcells : ∀ j u, (news.flatMap cs)[j]? = some u → W.cell? (a.add j) = some u := by
      intro j u hu
      rcases Nat.eq_zero_or_pos n with h0 | h0
      · have hn : news.flatMap cs = [] := List.eq_nil_of_length_eq_zero (by rw [hl, h0, Nat.zero_mul])
        rw [hn] at hu
        simp at hu
      · obtain ⟨ad', h, _, hc⟩ := hr.rd.2 h0
        injection h with h
        subst h
        exact hc j u hu
    have h1 := run_loadCells_list (P := P) W a _ hcells
    rw [hl] at h1
    simpa [Builtin.firstCells] using h1
end

section
variable {α : Type} {cs : α → List Value} {t e : TypeId} {k by_ : Nat} {w w' : World} {base : Nat} {A : Option Addr} {m c : Nat} {l : List α}
theorem EInfo.size_ (I : EInfo t e k by_) (W : World) : (sizeOf e).run Tryz.prog W = .ok k W := by
  obtain ⟨i0, z, hi0, _, hz1, _⟩ := I.i
  simp [sizeOf, typeInfo, hi0, hz1]
/-- copy(s[o:], x): the row afterwards. -/
theorem run_copyC (I : EInfo t e k by_) (ty : TypeId) {W : World} {g : Nat} {cur : Array Value} {o dLen dCap : Nat} {B : Option Addr} {sl d n : Nat} {news : List α} (hh : W.heap[g]? = some (.cells cur e (0, 0)))
    (hr : SlC cs k W B n news) (h2 : ∀ x, ∀ u ∈ cs x, u.oneCell' = true) (hn : Nat.min sl dLen = n) (hfit : (o + n) * k ≤ cur.size) :
    (Builtin.copy_ #[t, t] ty #[.slice (some ⟨g, o * k, none⟩) dLen dCap, .slice B sl d]).run Tryz.prog W = .ok (goInt n) (W.setRow g (cur.toList.take (o * k) ++ news.flatMap cs ++ cur.toList.drop ((o + n) * k)).toArray) := by
  have hl : (news.flatMap cs).length = n * k := by rw [flat_len hr.one, hr.len]
  have hst := run_storeCells_at Tryz.prog g (o * k) e (news.flatMap cs) 0 cur W hh (by rw [hl, Nat.add_zero, ← Nat.add_mul]; exact hfit) (fun u hu => by
    obtain ⟨y, _, hy⟩ := List.mem_flatMap.1 hu
    exact h2 y u hy)
  rw [hl, Nat.add_zero, ← Nat.add_mul] at hst
  have hf : (Builtin.firstCells k n (.slice B sl d)).run Tryz.prog W = .ok (news.flatMap cs).toArray W := by
    have h1 := run_firstC (P := Tryz.prog) (d := d) hr
    cases B <;> simpa [Builtin.firstCells] using h1
  have hsz := I.size_ W
  simp [Builtin.copy_, run_underlying I.u, Builtin.lenOf, hn, hsz, hf, hst]
theorem wp_copyC (I : EInfo t e k by_) {o : Oper} {a : Act} {K : Act → World → Prop} {Q : Exit → Act → World → Prop} (s x : Operand)
    (ho : o.op = .call { callee := .builtin .copy, args := #[s, x], argTypes := #[t, t] })
    {g : Nat} {cur : Array Value} {p dLen dCap : Nat} {B : Option Addr} {sl d n : Nat} {news : List α} (hs : a.eval s = .slice (some ⟨g, p * k, none⟩) dLen dCap) (hx : a.eval x = .slice B sl d)
    (hh : w.heap[g]? = some (.cells cur e (0, 0))) (hr : SlC cs k w B n news) (h2 : ∀ x, ∀ u ∈ cs x, u.oneCell' = true) (hn : Nat.min sl dLen = n) (hfit : (p + n) * k ≤ cur.size)
    (h : K (a.put o.dst (goInt n)) (w.setRow g (cur.toList.take (p * k) ++ news.flatMap cs ++ cur.toList.drop ((p + n) * k)).toArray)) : o.wp Tryz.prog a w K Q := by
  have hrun := run_copyC I o.type (dCap := dCap) (d := d) hh hr h2 hn hfit
  unfold Oper.wp execOp
  simp only [ho, resolve, invoke, builtin, Sem.run_bind, Sem.run_pure, Result.andThen_ok, List.map_toArray, List.map_cons, List.map_nil, hs, hx, hrun]
  exact h
theorem copyC (I : EInfo t e k by_) {ops : Array Oper} {rest : List Oper} {o : Oper} {a : Act} {Q : Exit → Act → World → Prop} (hgd : Region.wanted o (yielded ops a.tmps) = true) (s x : Operand)
    (ho : o.op = .call { callee := .builtin .copy, args := #[s, x], argTypes := #[t, t] })
    {g : Nat} {cur : Array Value} {p dLen dCap : Nat} {B : Option Addr} {sl d n : Nat} {news : List α} (hs : a.eval s = .slice (some ⟨g, p * k, none⟩) dLen dCap) (hx : a.eval x = .slice B sl d)
    (hh : w.heap[g]? = some (.cells cur e (0, 0))) (hr : SlC cs k w B n news) (h2 : ∀ x, ∀ u ∈ cs x, u.oneCell' = true) (hn : Nat.min sl dLen = n) (hfit : (p + n) * k ≤ cur.size)
    (h : wpList Tryz.prog ops Q rest (a.put o.dst (goInt n)) (w.setRow g (cur.toList.take (p * k) ++ news.flatMap cs ++ cur.toList.drop ((p + n) * k)).toArray)) : wpList Tryz.prog ops Q (o :: rest) a w :=
  BigFrame.wpList_want hgd fun _ hK => wp_copyC I s x ho hs hx hh hr h2 hn hfit (hK _ _ h)
theorem step_copyC (I : EInfo t e k by_) {ops : Array Oper} {o : Oper} {a : Act} {K : Act → World → Prop} {Q : Exit → Act → World → Prop} {E : Prop} (hgd : Region.wanted o (yielded ops a.tmps) = true) (s x : Operand)
    (ho : o.op = .call { callee := .builtin .copy, args := #[s, x], argTypes := #[t, t] })
    {g : Nat} {cur : Array Value} {p dLen dCap : Nat} {B : Option Addr} {sl d n : Nat} {news : List α} (hs : a.eval s = .slice (some ⟨g, p * k, none⟩) dLen dCap) (hx : a.eval x = .slice B sl d)
    (hh : w.heap[g]? = some (.cells cur e (0, 0))) (hr : SlC cs k w B n news) (h2 : ∀ x, ∀ u ∈ cs x, u.oneCell' = true) (hn : Nat.min sl dLen = n) (hfit : (p + n) * k ≤ cur.size)
    (h : K (a.put o.dst (goInt n)) (w.setRow g (cur.toList.take (p * k) ++ news.flatMap cs ++ cur.toList.drop ((p + n) * k)).toArray)) :
    if Region.wanted o (yielded ops a.tmps) = true then Oper.wp Tryz.prog o a w K Q else E := by
  rw [if_pos hgd]
  exact wp_copyC I s x ho hs hx hh hr h2 hn hfit h

/-- A struct stored into an element of the row. -/
theorem wp_storeC (I : EInfo t e k by_) {o : Oper} {a : Act} {K : Act → World → Prop} {Q : Exit → Act → World → Prop} (s x : Operand) (ho : o.op = .store e s x)
    {i : Nat} {y : α} (hown : OsC cs e k w base A m c l) (hi : i < m) {g : Nat} (hA : A = some ⟨g, 0, none⟩) (hs : a.eval s = .pointer (some ⟨g, i * k, none⟩)) (hx : a.eval x = .agg (cs y).toArray)
    (h : ∀ w', OsC cs e k w' base A m c (l.set i y) → w.grownBy w' (ob A) → w'.heap.size = w.heap.size → K (a.put o.dst undef) w') : o.wp Tryz.prog a w K Q := by
  obtain ⟨g', cur, hA', hg, hh, hmc, hc, hsz, htk⟩ := hown.row (by omega)
  rw [hA] at hA'
  simp only [Option.some.injEq, Addr.mk.injEq, and_true] at hA'
  subst hA'
  obtain ⟨i0, z, hi0, _, hz1, _⟩ := I.i
  have hyl : (cs y).length = k := hown.one y
  have hik : (i + 1) * k ≤ m * k := Nat.mul_le_mul_right _ hi
  have hmk : m * k ≤ c * k := Nat.mul_le_mul_right _ hmc
  have e1 : (i + 1) * k = i * k + k := Nat.succ_mul _ _
  have hst := run_storeCells_at Tryz.prog g (i * k) e (cs y) 0 cur w hh (by rw [hyl]; omega) (hown.cell y)
  rw [hyl, Nat.add_zero] at hst
  unfold Oper.wp execOp
  simp only [ho, hs, hx, Instr.storeAt, Instr.sureAddr, Sem.run_bind, Sem.run_pure, Result.andThen_ok]
  simp [storeVar, sizeOf, typeInfo, hi0, Value.cells, hz1, hyl, hst]
  refine h _ (OsC.of_row hA hg (setRow_heap' hh _) hmc hc ?_ ?_ hown.one hown.cell (by rw [List.length_set]; exact hown.len) hown.le) (by rw [hA]; exact grown_setRow w g _) (setRow_size _ _ _)
  · have := splice_size (cur := cur) (o := i * k) (n := k) hyl (by omega)
    rw [List.append_assoc] at this
    rw [this, hsz]
  · have hlt : i < l.length := by rw [← hown.len]; exact hi
    have h3 : cur.toList.take (i * k) = (l.take i).flatMap cs := by
      rw [← flat_take hown.one, ← htk, List.take_take, Nat.min_eq_left (by omega)]
    have h4 : (cur.toList.drop (i * k + k)).take (m * k - (i * k + k)) = (l.drop (i + 1)).flatMap cs := by
      rw [← flat_drop hown.one, ← htk, e1, List.drop_take]
    rw [List.set_eq_take_append_cons_drop, if_pos hlt, List.flatMap_append, List.flatMap_cons, h3, ← h4]
    have h5 : ((l.take i).flatMap cs).length = i * k := by rw [flat_len hown.one, List.length_take, Nat.min_eq_left (by omega)]
    have h6 := take_three ((l.take i).flatMap cs) (cs y) (cur.toList.drop (i * k + k)) (m * k) (by rw [h5, hyl]; omega)
    rw [h5, hyl] at h6
    simp only [List.append_assoc] at h6
    exact h6
theorem step_storeC (I : EInfo t e k by_) {ops : Array Oper} {o : Oper} {a : Act} {K : Act → World → Prop} {Q : Exit → Act → World → Prop} {E : Prop} (hgd : Region.wanted o (yielded ops a.tmps) = true) (s x : Operand) (ho : o.op = .store e s x)
    {i : Nat} {y : α} (hown : OsC cs e k w base A m c l) (hi : i < m) {g : Nat} (hA : A = some ⟨g, 0, none⟩) (hs : a.eval s = .pointer (some ⟨g, i * k, none⟩)) (hx : a.eval x = .agg (cs y).toArray)
    (h : ∀ w', OsC cs e k w' base A m c (l.set i y) → w.grownBy w' (ob A) → w'.heap.size = w.heap.size → K (a.put o.dst undef) w') :
    if Region.wanted o (yielded ops a.tmps) = true then Oper.wp Tryz.prog o a w K Q else E := by
  rw [if_pos hgd]
  exact wp_storeC I s x ho hown hi hA hs hx h
theorem storeC (I : EInfo t e k by_) {ops : Array Oper} {rest : List Oper} {o : Oper} {a : Act} {Q : Exit → Act → World → Prop} (hgd : Region.wanted o (yielded ops a.tmps) = true) (s x : Operand) (ho : o.op = .store e s x)
    {i : Nat} {y : α} (hown : OsC cs e k w base A m c l) (hi : i < m) {g : Nat} (hA : A = some ⟨g, 0, none⟩) (hs : a.eval s = .pointer (some ⟨g, i * k, none⟩)) (hx : a.eval x = .agg (cs y).toArray)
    (h : ∀ w', OsC cs e k w' base A m c (l.set i y) → w.grownBy w' (ob A) → w'.heap.size = w.heap.size → wpList Tryz.prog ops Q rest (a.put o.dst undef) w') : wpList Tryz.prog ops Q (o :: rest) a w :=
  BigFrame.wpList_want hgd fun _ hK => wp_storeC I s x ho hown hi hA hs hx fun w' h1 h2 h3 => hK _ _ (h w' h1 h2 h3)

/-- clear(s[p:p+n]) behind the elements. -/
theorem wp_clearC (I : EInfo t e k by_) (hz : ∀ i z, Tryz.prog.info? e = some i → i.zero = some z → ∀ u ∈ z.cells.toList, u.oneCell' = true) {o : Oper} {a : Act} {K : Act → World → Prop} {Q : Exit → Act → World → Prop} (s : Operand)
    (ho : o.op = .call { callee := .builtin .clear, args := #[s], argTypes := #[t] })
    {p n d : Nat} (hown : OsC cs e k w base A m c l) {g : Nat} (hA : A = some ⟨g, 0, none⟩) (hs : a.eval s = .slice (some ⟨g, p * k, none⟩) n d) (hm : m ≤ p) (hp : p + n ≤ c)
    (h : ∀ w', OsC cs e k w' base A m c l → w.grownBy w' (ob A) → w'.heap.size = w.heap.size → K (a.put o.dst (.tuple #[])) w') : o.wp Tryz.prog a w K Q := by
  rcases Nat.eq_zero_or_pos n with h0 | h0
  · subst h0
    unfold Oper.wp
    simp [execOp, ho, resolve, invoke, builtin, hs, Builtin.clear_, run_underlying I.u, Result.andThen]
    exact h w hown (World.grownBy.refl w _) rfl
  · obtain ⟨i0, z, hi0, hz0, hz1, _, hz3⟩ := I.i
    have hrow : ∃ cur, base ≤ g ∧ w.heap[g]? = some (.cells cur e (0, 0)) ∧ m ≤ c ∧ c ≤ maxLen ∧ cur.size = c * k ∧ cur.toList.take (m * k) = l.flatMap cs := by
      rcases hown.own.2 with ⟨hv, _⟩ | ⟨g', cap, cur, hv, hg, hh, hn, hc, hsz, htk⟩
      · injection hv with e1 _ e3
        omega
      · injection hv with e1 _ e3
        rw [hA] at e1
        simp only [Option.some.injEq, Addr.mk.injEq, and_true] at e1
        subst e1 e3
        exact ⟨cur, hg, hh, hn, hc, hsz, htk⟩
    obtain ⟨cur, hg, hh, hmc, hc, hsz, htk⟩ := hrow
    obtain ⟨zs, hzs⟩ : ∃ zs, zs = (Builtin.zeroCells z.cells n).toList := ⟨_, rfl⟩
    have hzl : zs.length = n * k := by rw [hzs]; simp [Builtin.zeroCells, hz3]
    have hz1' : ∀ u ∈ zs, u.oneCell' = true := by
      rw [hzs]
      intro u hu
      simp only [Builtin.zeroCells, Array.toList_map, Array.toList_range, List.mem_map, List.mem_range] at hu
      obtain ⟨j, hj, rfl⟩ := hu
      have hlt : j % z.cells.size < z.cells.size := Nat.mod_lt _ (by rw [hz3]; exact I.kp)
      rw [getElem!_pos z.cells _ hlt]
      exact hz i0 z hi0 hz0 _ (by simp)
    have hpk : p * k + n * k ≤ c * k := by rw [← Nat.add_mul]; exact Nat.mul_le_mul_right _ hp
    have hst := run_storeCells_at Tryz.prog g (p * k) e zs 0 cur w hh (by rw [hzl, hsz, Nat.add_zero]; exact hpk) hz1'
    rw [hzl, Nat.add_zero] at hst
    have hrun : (Builtin.clear_ #[t] o.type #[.slice (some ⟨g, p * k, none⟩) n d]).run Tryz.prog w = .ok (.tuple #[]) (w.setRow g (cur.toList.take (p * k) ++ zs ++ cur.toList.drop (p * k + n * k)).toArray) := by
      obtain ⟨n', rfl⟩ : ∃ n', n = n' + 1 := ⟨n - 1, by omega⟩
      rw [hzs] at hst ⊢
      simp [Builtin.clear_, run_underlying I.u, zeroValue, typeInfo, hi0, hz0] at hst ⊢
      rw [hst]
      rfl
    unfold Oper.wp
    simp [execOp, ho, resolve, invoke, builtin, hs, hrun, Result.andThen]
    have hmk : m * k ≤ p * k := Nat.mul_le_mul_right _ hm
    have key := h _ (OsC.of_row (cur := (cur.toList.take (p * k) ++ zs ++ cur.toList.drop (p * k + n * k)).toArray) hA hg (setRow_heap' hh _) hmc hc (by rw [splice_size hzl (by rw [hsz]; exact hpk), hsz]) ?_ hown.one hown.cell hown.len hown.le) (by rw [hA]; exact grown_setRow w g _) (setRow_size _ _ _)
    · first | exact key | (simp only [List.append_assoc] at key; exact key)
    · show List.take (m * k) (_ ++ _ ++ _) = _
      rw [List.append_assoc, List.take_append_of_le_length (by rw [List.length_take, Array.length_toList, hsz]; omega), List.take_take, Nat.min_eq_left hmk, htk]
theorem clearC (I : EInfo t e k by_) (hz : ∀ i z, Tryz.prog.info? e = some i → i.zero = some z → ∀ u ∈ z.cells.toList, u.oneCell' = true) {ops : Array Oper} {rest : List Oper} {o : Oper} {a : Act} {Q : Exit → Act → World → Prop} (hgd : Region.wanted o (yielded ops a.tmps) = true) (s : Operand)
    (ho : o.op = .call { callee := .builtin .clear, args := #[s], argTypes := #[t] })
    {p n d : Nat} (hown : OsC cs e k w base A m c l) {g : Nat} (hA : A = some ⟨g, 0, none⟩) (hs : a.eval s = .slice (some ⟨g, p * k, none⟩) n d) (hm : m ≤ p) (hp : p + n ≤ c)
    (h : ∀ w', OsC cs e k w' base A m c l → w.grownBy w' (ob A) → w'.heap.size = w.heap.size → wpList Tryz.prog ops Q rest (a.put o.dst (.tuple #[])) w') : wpList Tryz.prog ops Q (o :: rest) a w :=
  BigFrame.wpList_want hgd fun _ hK => wp_clearC I hz s ho hown hA hs hm hp fun w' h1 h2 h3 => hK _ _ (h w' h1 h2 h3)

/-- Where a cut from i on of a slice of capacity c lies. -/
def cutA (A : Option Addr) (c k i : Nat) : Option Addr := if c = i then A else A.map (·.add (i * k))
theorem cutA_lt {g o c k i : Nat} (h : i < c) : cutA (some ⟨g, o, none⟩) c k i = some ⟨g, o + i * k, none⟩ := by
  unfold cutA
  rw [if_neg (by omega), Option.map_some, Addr.add_lit]
theorem cutA_ob (A : Option Addr) (c k i : Nat) : ob (cutA A c k i) = ob A := by
  unfold cutA
  split
  · rfl
  · cases A <;> simp [ob, block_of_add]
theorem SlC.cut {A : Option Addr} {m c : Nat} {l : List α} (h : SlC cs k w A m l) {i : Nat} (hi : i ≤ m) (hc : m ≤ c) : SlC cs k w (cutA A c k i) (m - i) (l.drop i) :=
  ⟨by have := Reads.cut h.rd hi hc; rw [flat_drop h.one] at this; exact this, h.one, by rw [List.length_drop, h.len], by have := h.le; omega⟩
theorem SlC.take_ {A : Option Addr} {m : Nat} {l : List α} (h : SlC cs k w A m l) {i : Nat} (hi : i ≤ m) : SlC cs k w A i (l.take i) := by
  refine ⟨⟨by rw [flat_len h.one, List.length_take, ← h.len, Nat.min_eq_left hi], fun hn => ?_⟩, h.one, by rw [List.length_take, ← h.len, Nat.min_eq_left hi], by have := h.le; omega⟩
  obtain ⟨ad, e1, hb, hcell⟩ := h.rd.2 (by omega)
  refine ⟨ad, e1, hb, fun j u hu => hcell j u ?_⟩
  rw [← flat_take h.one, List.getElem?_take] at hu
  split at hu
  · exact hu
  · cases hu
theorem sliceAtC (I : EInfo t e k by_) {W : World} {A : Option Addr} {m c : Nat} {lo hi : Option Value} {r : Result Value} (h : (Instr.slice t (.slice A m c) lo hi none).run Tryz.prog W = r) :
    (Instr.sliceAt t (.slice A m c) lo hi none).run Tryz.prog W = r ∧ (Instr.slice t (.slice A m c) lo hi none).run Tryz.prog W = r :=
  ⟨by rw [run_sliceAt_slice W _ _ _ _ _ (show Tryz.prog.underlying t = some (.slice (Tryz.prog.elem t)) by rw [show Tryz.prog.elem t = e by simp [Program.elem, I.u]]; exact I.u), h], h⟩
/-- s[i:], s[:j], s[i:j]. -/
theorem cut_runC (I : EInfo t e k by_) {A : Option Addr} {m c : Nat} :
    (∀ (W : World) (kl : IntKind) (i : Nat), i ≤ m → m ≤ c → (Instr.sliceAt t (.slice A m c) (some (.int kl i)) none none).run Tryz.prog W = .ok (.slice (cutA A c k i) (m - i) (c - i)) W ∧
      (Instr.slice t (.slice A m c) (some (.int kl i)) none none).run Tryz.prog W = .ok (.slice (cutA A c k i) (m - i) (c - i)) W) ∧
    (∀ (W : World) (kh : IntKind) (j : Nat), j ≤ c → (Instr.sliceAt t (.slice A m c) none (some (.int kh j)) none).run Tryz.prog W = .ok (.slice A j c) W ∧
      (Instr.slice t (.slice A m c) none (some (.int kh j)) none).run Tryz.prog W = .ok (.slice A j c) W) ∧
    (∀ (W : World) (kl kh : IntKind) (i j : Nat), i ≤ j → j ≤ c → (Instr.sliceAt t (.slice A m c) (some (.int kl i)) (some (.int kh j)) none).run Tryz.prog W = .ok (.slice (cutA A c k i) (j - i) (c - i)) W ∧
      (Instr.slice t (.slice A m c) (some (.int kl i)) (some (.int kh j)) none).run Tryz.prog W = .ok (.slice (cutA A c k i) (j - i) (c - i)) W) := by
  obtain ⟨i0, z, hi0, hz0, hz1, _, hz3⟩ := I.i
  have e1 : (Tryz.prog.elem t) = e := by simp [Program.elem, I.u]
  have hu : Tryz.prog.underlying t = some (.slice (Tryz.prog.elem t)) := by rw [e1]; exact I.u
  refine ⟨fun W kl i hi hm => ?_, fun W kh j hj => ?_, fun W kl kh i j hij hj => ?_⟩
  · apply sliceAtC I
    rw [run_slice_l W _ _ _ _ hu _ _ (by omega) (by omega), e1]
    by_cases hc : c = i
    · simp [sizeOf, typeInfo, hi0, hz1, sliced, hc, cutA]
    · simp [sizeOf, typeInfo, hi0, hz1, sliced, hc, cutA]
  · apply sliceAtC I
    rw [run_slice_h W _ _ _ _ hu _ _ (by omega) (by omega), e1]
    by_cases hc : c = 0
    · simp [sizeOf, typeInfo, hi0, hz1, sliced, hc]
    · cases A <;> simp [sizeOf, typeInfo, hi0, hz1, sliced, hc, Addr.add]
  · apply sliceAtC I
    rw [run_slice_lh W _ _ _ _ hu _ _ _ _ (by omega) (by omega) (by omega), e1]
    by_cases hc : c = i
    · simp [sizeOf, typeInfo, hi0, hz1, sliced, hc, cutA]
    · simp [sizeOf, typeInfo, hi0, hz1, sliced, hc, cutA]
end

end Go.Proofs.YtdgppdiickmofaaGreatDoor

/- append within the capacity of a row of the call's own: the slice stays where it is. -/
namespace Go.Proofs.YtdgppdiickmofaaGreatDoor
open Go.RowKit
set_option maxRecDepth 100000
section
variable {α : Type} {cs : α → List Value} {t e : TypeId} {k by_ : Nat} {w w' : World} {base : Nat} {A : Option Addr} {m c : Nat} {l : List α}
theorem take_mid {β : Type} (X Y Z : List β) (n : Nat) (h : X.length + Y.length = n) : (X ++ Y ++ Z).take n = X ++ Y := by
  rw [List.take_append_of_le_length (by rw [List.length_append]; omega), List.take_of_length_le (by rw [List.length_append]; omega)]
theorem wp_appRoomC (I : EInfo t e k by_) {o : Oper} {a : Act} {K : Act → World → Prop} {Q : Exit → Act → World → Prop} (s x : Operand)
    (ho : o.op = .call { callee := .builtin .append, args := #[s, x], argTypes := #[t, t] })
    {g : Nat} (hown : OsC cs e k w base A m c l) (hA : A = some ⟨g, 0, none⟩) (hs : a.eval s = .slice A m c)
    {B : Option Addr} {n d : Nat} {news : List α} (hr : SlC cs k w B n news) (hx : a.eval x = .slice B n d)
    (hroom : m + n ≤ c) (hle : m + n ≤ 17592186044416)
    (h : ∀ w', OsC cs e k w' base A (m + n) c (l ++ news) → w.grownBy w' (ob A) → w'.heap.size = w.heap.size → K (a.put o.dst (.slice A (m + n) c)) w') : o.wp Tryz.prog a w K Q := by
  have hrow : ∃ cur, base ≤ g ∧ w.heap[g]? = some (.cells cur e (0, 0)) ∧ m ≤ c ∧ c ≤ maxLen ∧ cur.size = c * k ∧ cur.toList.take (m * k) = l.flatMap cs := by
    rcases hown.own.2 with ⟨hv, h0⟩ | ⟨g', cap, cur, hv, hg, hh, hn, hc, hsz, htk⟩
    · injection hv with e1 _ e3
      rw [hA] at e1
      cases e1
    · injection hv with e1 _ e3
      rw [hA] at e1
      simp only [Option.some.injEq, Addr.mk.injEq, and_true] at e1
      subst e1 e3
      exact ⟨cur, hg, hh, hn, hc, hsz, htk⟩
  obtain ⟨cur, hg, hh, hmc, hc, hsz, htk⟩ := hrow
  have hl : (news.flatMap cs).length = n * k := by rw [flat_len hr.one, hr.len]
  have hfit : m * k + n * k ≤ cur.size := by rw [hsz, ← Nat.add_mul]; exact Nat.mul_le_mul_right _ hroom
  have hst := run_storeCells_at Tryz.prog g (m * k) e (news.flatMap cs) 0 cur w hh (by rw [hl, Nat.add_zero]; exact hfit) (fun u hu => by
    obtain ⟨y, _, hy⟩ := List.mem_flatMap.1 hu
    exact hown.cell y u hy)
  rw [hl, Nat.add_zero] at hst
  have hf := run_firstC (P := Tryz.prog) (d := d) hr
  have hsz2 := I.size_ w
  have hrun : (Builtin.append_ #[t, t] o.type #[.slice A m c, .slice B n d]).run Tryz.prog w = .ok (.slice A (m + n) c) (w.setRow g (cur.toList.take (m * k) ++ news.flatMap cs ++ cur.toList.drop (m * k + n * k)).toArray) := by
    subst hA
    simp [Builtin.append_, run_underlying I.u, hsz2, Builtin.lenOf, hroom, hf, Addr.add_lit, hst]
  unfold Oper.wp execOp
  simp only [ho, resolve, invoke, builtin, Sem.run_bind, Sem.run_pure, Result.andThen_ok, List.map_toArray, List.map_cons, List.map_nil, hs, hx, hrun]
  refine h _ (OsC.of_row hA hg (setRow_heap' hh _) hroom hc (by rw [splice_size hl hfit, hsz]) ?_ hown.one hown.cell (by rw [List.length_append, hown.len, hr.len]) hle) (by rw [hA]; exact grown_setRow w g _) (setRow_size _ _ _)
  rw [List.flatMap_append, ← htk]
  show List.take ((m + n) * k) (_ ++ _ ++ _) = _
  exact take_mid _ _ _ _ (by rw [List.length_take, Array.length_toList, hl, Nat.add_mul]; omega)
theorem appRoomC (I : EInfo t e k by_) {ops : Array Oper} {rest : List Oper} {o : Oper} {a : Act} {Q : Exit → Act → World → Prop} (hgd : Region.wanted o (yielded ops a.tmps) = true) (s x : Operand)
    (ho : o.op = .call { callee := .builtin .append, args := #[s, x], argTypes := #[t, t] })
    {g : Nat} (hown : OsC cs e k w base A m c l) (hA : A = some ⟨g, 0, none⟩) (hs : a.eval s = .slice A m c)
    {B : Option Addr} {n d : Nat} {news : List α} (hr : SlC cs k w B n news) (hx : a.eval x = .slice B n d)
    (hroom : m + n ≤ c) (hle : m + n ≤ 17592186044416)
    (h : ∀ w', OsC cs e k w' base A (m + n) c (l ++ news) → w.grownBy w' (ob A) → w'.heap.size = w.heap.size → wpList Tryz.prog ops Q rest (a.put o.dst (.slice A (m + n) c)) w') : wpList Tryz.prog ops Q (o :: rest) a w :=
  BigFrame.wpList_want hgd fun _ hK => wp_appRoomC I s x ho hown hA hs hr hx hroom hle fun w' h1 h2 h3 => hK _ _ (h w' h1 h2 h3)
/-- clear(s[p:p+n]) behind the elements, as a run. -/
theorem run_clearC (I : EInfo t e k by_) (hz : ∀ i z, Tryz.prog.info? e = some i → i.zero = some z → ∀ u ∈ z.cells.toList, u.oneCell' = true) {p n d : Nat} (hown : OsC cs e k w base A m c l) {g : Nat} (hA : A = some ⟨g, 0, none⟩) (hm : m ≤ p) (hp : p + n ≤ c) :
    ∃ w', (∀ ty, (Builtin.clear_ #[t] ty #[.slice (some ⟨g, p * k, none⟩) n d]).run Tryz.prog w = .ok (.tuple #[]) w') ∧ OsC cs e k w' base A m c l ∧ w.grownBy w' (ob A) ∧ w'.heap.size = w.heap.size := by
  rcases Nat.eq_zero_or_pos n with h0 | h0
  · subst h0
    exact ⟨w, fun ty => by simp [Builtin.clear_, run_underlying I.u], hown, World.grownBy.refl w _, rfl⟩
  · obtain ⟨i0, z, hi0, hz0, hz1, _, hz3⟩ := I.i
    have hrow : ∃ cur, base ≤ g ∧ w.heap[g]? = some (.cells cur e (0, 0)) ∧ m ≤ c ∧ c ≤ maxLen ∧ cur.size = c * k ∧ cur.toList.take (m * k) = l.flatMap cs := by
      rcases hown.own.2 with ⟨hv, _⟩ | ⟨g', cap, cur, hv, hg, hh, hn, hc, hsz, htk⟩
      · injection hv with e1 _ e3
        omega
      · injection hv with e1 _ e3
        rw [hA] at e1
        simp only [Option.some.injEq, Addr.mk.injEq, and_true] at e1
        subst e1 e3
        exact ⟨cur, hg, hh, hn, hc, hsz, htk⟩
    obtain ⟨cur, hg, hh, hmc, hc, hsz, htk⟩ := hrow
    obtain ⟨zs, hzs⟩ : ∃ zs, zs = (Builtin.zeroCells z.cells n).toList := ⟨_, rfl⟩
    have hzl : zs.length = n * k := by rw [hzs]; simp [Builtin.zeroCells, hz3]
    have hz1' : ∀ u ∈ zs, u.oneCell' = true := by
      rw [hzs]
      intro u hu
      simp only [Builtin.zeroCells, Array.toList_map, Array.toList_range, List.mem_map, List.mem_range] at hu
      obtain ⟨j, hj, rfl⟩ := hu
      have hlt : j % z.cells.size < z.cells.size := Nat.mod_lt _ (by rw [hz3]; exact I.kp)
      rw [getElem!_pos z.cells _ hlt]
      exact hz i0 z hi0 hz0 _ (by simp)
    have hpk : p * k + n * k ≤ c * k := by rw [← Nat.add_mul]; exact Nat.mul_le_mul_right _ hp
    have hst := run_storeCells_at Tryz.prog g (p * k) e zs 0 cur w hh (by rw [hzl, hsz, Nat.add_zero]; exact hpk) hz1'
    rw [hzl, Nat.add_zero] at hst
    have hmk : m * k ≤ p * k := Nat.mul_le_mul_right _ hm
    refine ⟨_, fun ty => ?_, OsC.of_row (cur := (cur.toList.take (p * k) ++ zs ++ cur.toList.drop (p * k + n * k)).toArray) hA hg (setRow_heap' hh _) hmc hc (by rw [splice_size hzl (by rw [hsz]; exact hpk), hsz]) ?_ hown.one hown.cell hown.len hown.le, by rw [hA]; exact grown_setRow w g _, setRow_size _ _ _⟩
    · obtain ⟨n', rfl⟩ : ∃ n', n = n' + 1 := ⟨n - 1, by omega⟩
      rw [hzs] at hst ⊢
      simp [Builtin.clear_, run_underlying I.u, zeroValue, typeInfo, hi0, hz0] at hst ⊢
      rw [hst]
      rfl
    · show List.take (m * k) (_ ++ _ ++ _) = _
      rw [List.append_assoc, List.take_append_of_le_length (by rw [List.length_take, Array.length_toList, hsz]; omega), List.take_take, Nat.min_eq_left hmk, htk]
end
end Go.Proofs.YtdgppdiickmofaaGreatDoor
