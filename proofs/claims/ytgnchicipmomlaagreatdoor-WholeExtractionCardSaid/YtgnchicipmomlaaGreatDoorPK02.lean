/- Slices of any elements of k cells, as lists. -/
import Derived.Test.YtgnchicipmomlaaGreatDoorPK01
import Derived.Deep.Slices
import Derived.SizedLaws
import Derived.OpenShut
import Derived.Laws.CopyRow
import Derived.Lib.AppendZerosOnto
import Derived.Laws.Rows
namespace Go.Proofs.YtgnchicipmomlaaGreatDoor
open Go.RowKit
open Go.WideShapes Go.ChangeShapes Go.Deep
set_option maxRecDepth 100000

/-- The slice (A, m) holds the elements l, each of k cells. -/
structure SlC {α : Type} (cs : α → List Value) (k : Nat) (w : World) (A : Option Addr) (m : Nat) (l : List α) : Prop where
  rd : Reads w w.heap.size k A m (l.flatMap cs)
  one : ∀ x, (cs x).length = k
  len : m = l.length
  le : m ≤ 140737488355328

section
variable {α : Type} {cs : α → List Value} {k : Nat} {w w' : World} {A : Option Addr} {m : Nat} {l : List α}
theorem flat_at (h : ∀ x, (cs x).length = k) (l : List α) (q j : Nat) (hq : q < l.length) (hj : j < k) : (l.flatMap cs)[q * k + j]? = (cs l[q])[j]? := by
  induction l generalizing q with
  | nil => simp at hq
  | cons x t ih =>
    rw [List.flatMap_cons]
    cases q with
    | zero => rw [List.getElem?_append_left (by rw [h x]; omega)]; simp
    | succ q =>
      rw [List.getElem?_append_right (by rw [h x, Nat.succ_mul]; omega), h x]
      have e1 : (q + 1) * k + j - k = q * k + j := by rw [Nat.succ_mul]; omega
      rw [e1, ih q (by simpa using hq)]
      simp
theorem SlC.ext (h : SlC cs k w A m l) (hE : Ext w w') : SlC cs k w' A m l := ⟨Reads.more (Reads.below h.rd hE) hE.size_le, h.one, h.len, h.le⟩
theorem SlC.nil_ (h : ∀ x, (cs x).length = k) : SlC cs k w none 0 [] := ⟨⟨by simp, fun h => absurd h (by omega)⟩, h, rfl, by omega⟩
theorem SlC.kept {r : Option Nat} (h : SlC cs k w A m l) (hg : w.grownBy w' r) (h2 : ob A = none ∨ ob A ≠ r) : SlC cs k w' A m l := by
  refine ⟨⟨h.rd.1, fun hn => ?_⟩, h.one, h.len, h.le⟩
  obtain ⟨ad, e, hb, hc⟩ := h.rd.2 hn
  refine ⟨ad, e, Nat.lt_of_lt_of_le hb hg.size, fun j u hu => ?_⟩
  have hne : some (ad.add j).block ≠ r := by
    rw [block_of_add]
    subst e
    rcases h2 with h2 | h2
    · cases h2
    · exact h2
  exact hg.cell (hc j u hu) hne
/-- The address of a slice that has an element, and the cells of every element. -/
theorem SlC.at_ {i : Nat} (h : SlC cs k w A m l) (hi : i < m) (hk : 0 < k) : ∃ b off, A = some ⟨b, off, none⟩ ∧ b < w.heap.size ∧
    ∀ q (hq : q < l.length) j (hj : j < k), w.cell? ⟨b, off + (q * k + j), none⟩ = some ((cs l[q])[j]'(by rw [h.one]; exact hj)) := by
  have hl := h.len
  obtain ⟨⟨b, off, sp⟩, hA, hbl, hc⟩ := h.rd.2 (by omega)
  have hx : ∀ q (hq : q < l.length) j (hj : j < k), (l.flatMap cs)[q * k + j]? = some ((cs l[q])[j]'(by rw [h.one]; exact hj)) := fun q hq j hj => by
    rw [flat_at h.one l q j hq hj]
    exact List.getElem?_eq_getElem _
  have h0 := hc (0 * k + 0) _ (hx 0 (by omega) 0 hk)
  have hsp : sp = none := by
    cases sp with
    | none => rfl
    | some s =>
      simp only [Nat.zero_mul, Nat.add_zero, Addr.add, if_pos, World.cell?] at h0
      split at h0
      · simp at h0
      · cases h0
  subst hsp
  refine ⟨b, off, hA, hbl, fun q hq j hj => ?_⟩
  have := hc _ _ (hx q hq j hj)
  rw [Addr.add_lit] at this
  exact this
end

section
variable {H : Type} {enc : TypeId × Value → H} {W : World} {base : Nat} {v : Value} {d : DataW H} {p : List MemPlace}
theorem flat_list {α : Type} (cs : α → List Value) (good : α → Prop) (m : Nat) (f : Nat → List Value → Prop) (h : ∀ i, i < m → ∃ x, f i (cs x) ∧ good x) :
    ∃ l : List α, l.length = m ∧ (∀ x ∈ l, good x) ∧ ∀ i (hi : i < l.length), f i (cs l[i]) := by
  induction m with
  | zero => exact ⟨[], rfl, by simp, by simp⟩
  | succ m ih =>
    obtain ⟨l, hl, hg, hc⟩ := ih fun i hi => h i (by omega)
    obtain ⟨x, hx, hgx⟩ := h m (by omega)
    refine ⟨l ++ [x], by simp [hl], ?_, fun i hi => ?_⟩
    · intro y hy
      rcases List.mem_append.1 hy with hy | hy
      · exact hg y hy
      · simp at hy; subst hy; exact hgx
    · by_cases hlt : i < l.length
      · rw [List.getElem_append_left hlt]; exact hc i hlt
      · have : i = l.length := by simp at hi; omega
        subst this
        rw [List.getElem_append_right (Nat.le_refl _)]
        simp only [Nat.sub_self, List.getElem_cons_zero]
        rw [hl]; exact hx
end

end Go.Proofs.YtgnchicipmomlaaGreatDoor

/- Slices of any elements of k cells that are the call's own: append. -/
namespace Go.Proofs.YtgnchicipmomlaaGreatDoor
open Go.RowKit
set_option maxRecDepth 100000

/-- What the program's table says of a slice type t over elements e: k cells, so many bytes. -/
structure EInfo (t e : TypeId) (k by_ : Nat) : Prop where
  u : Tryz.prog.underlying t = some (.slice e)
  i : ∃ i z, Tryz.prog.info? e = some i ∧ i.zero = some z ∧ i.size = k ∧ i.bytes = by_ ∧ z.cells.size = k
  kp : 0 < k
  bp : 8 ≤ by_
theorem EInfo.mk_ {t e : TypeId} {k by_ : Nat} {z : Value} (hu : Tryz.prog.underlying t = some (.slice e)) (hi : (Tryz.prog.info? e).map (fun i => (i.zero, i.size, i.bytes)) = some (some z, k, by_)) (hz : z.cells.size = k) (hk : 0 < k) (hb : 8 ≤ by_) : EInfo t e k by_ := by
  obtain ⟨i0, h0, h1, h2, h3⟩ := info_parts hi
  exact ⟨hu, ⟨i0, z, h0, h1, h2, h3, hz⟩, hk, hb⟩

/-- The slice (A, m, c) is the call's own from block base on and holds l. -/
structure OsC {α : Type} (cs : α → List Value) (e : TypeId) (k : Nat) (w : World) (base : Nat) (A : Option Addr) (m c : Nat) (l : List α) : Prop where
  own : w.ownsRow base e k (.slice A m c) m (l.flatMap cs)
  one : ∀ x, (cs x).length = k
  cell : ∀ x, ∀ u ∈ cs x, u.oneCell' = true
  len : m = l.length
  le : m ≤ 17592186044416

section
variable {α : Type} {cs : α → List Value} {t e : TypeId} {k by_ : Nat} {w w' : World} {base : Nat} {A : Option Addr} {m c : Nat} {l : List α}
theorem OsC.ge (h : OsC cs e k w base A m c l) : ∀ j, ob A = some j → base ≤ j := fun j hj => (World.ownsRow.lt h.own j (by rw [ob_own]; exact hj)).1
theorem OsC.lt (h : OsC cs e k w base A m c l) : ∀ j, ob A = some j → j < w.heap.size := fun j hj => (World.ownsRow.lt h.own j (by rw [ob_own]; exact hj)).2
theorem OsC.nil_ (h1 : ∀ x, (cs x).length = k) (h2 : ∀ x, ∀ u ∈ cs x, u.oneCell' = true) : OsC cs e k w base none 0 0 ([] : List α) := ⟨World.ownsRow_nil _ _ _ _, h1, h2, rfl, by omega⟩
theorem OsC.ext (h : OsC cs e k w base A m c l) (hE : Ext w w') : OsC cs e k w' base A m c l := ⟨World.ownsRow.kept h.own (hE.grownBy none) (by rw [ob_own]; cases hv : ob A <;> simp), h.one, h.cell, h.len, h.le⟩
theorem OsC.kept {row : Option Nat} (h : OsC cs e k w base A m c l) (hg : w.grownBy w' row) (hne : ob A = none ∨ ob A ≠ row) : OsC cs e k w' base A m c l := ⟨World.ownsRow.kept h.own hg (by rw [ob_own]; exact hne), h.one, h.cell, h.len, h.le⟩
theorem OsC.sl (h : OsC cs e k w base A m c l) : SlC cs k w A m l := ⟨Reads.of_own h.own, h.one, h.len, by have := h.le; omega⟩
theorem OsC.mono {base' : Nat} (h : OsC cs e k w base A m c l) (hb : base' ≤ base) : OsC cs e k w base' A m c l := by
  refine ⟨⟨h.own.1, ?_⟩, h.one, h.cell, h.len, h.le⟩
  rcases h.own.2 with hn | ⟨g, cap, cur, hv, hg, r⟩
  · exact .inl hn
  · exact .inr ⟨g, cap, cur, hv, by omega, r⟩
theorem OsC.cap (h : OsC cs e k w base A m c l) : m ≤ c := by
  rcases h.own.2 with ⟨hv, h0⟩ | ⟨g, cap, cur, hv, _, _, hn, _⟩
  · injection hv with _ h1 h2
    omega
  · injection hv with _ h1 h2
    omega
theorem SlC.new_ (w : World) (l : List α) (h1 : ∀ x, (cs x).length = k) (hb : l.length ≤ 8796093022208) (xs : Array Value) (hxs : xs = (l.flatMap cs).toArray) (fr : Nat × Nat := (0, 0)) (n : Nat) (hn : n = l.length) (t : TypeId) :
    SlC cs k (w.alloc (.cells xs t fr)) (some ⟨w.heap.size, 0, none⟩) n l := by
  subst hxs
  subst hn
  refine ⟨⟨?_, fun _ => ⟨_, rfl, by simp, fun j u hj => ?_⟩⟩, h1, rfl, by omega⟩
  · clear hb
    induction l with
    | nil => simp
    | cons x t ih => rw [List.flatMap_cons, List.length_append, ih, h1 x, List.length_cons, Nat.succ_mul]; omega
  · rw [Addr.add_lit, Nat.zero_add, cell_of_row _ w.heap.size j _ t fr (heap_alloc_new w _)]
    simpa using hj
theorem OsC.new0 (w : World) (base : Nat) (hbase : base ≤ w.heap.size) (h1 : ∀ x, (cs x).length = k) (h2 : ∀ x, ∀ u ∈ cs x, u.oneCell' = true) :
    OsC cs e k (w.alloc (.cells #[] e)) base (some ⟨w.heap.size, 0, none⟩) 0 0 ([] : List α) := by
  have h3 := World.ownsRow_lit (e := e) (size := k) w #[] 0 hbase (by simp [maxLen]) (by simp)
  exact ⟨by simpa using h3, h1, h2, rfl, by omega⟩

theorem wp_appC (I : EInfo t e k by_) {o : Oper} {a : Act} {K : Act → World → Prop} {Q : Exit → Act → World → Prop} (s x : Operand)
    (ho : o.op = .call { callee := .builtin .append, args := #[s, x], argTypes := #[t, t] })
    (hown : OsC cs e k w base A m c l) (hs : a.eval s = .slice A m c)
    {B : Option Addr} {n d : Nat} {news : List α} (hr : SlC cs k w B n news) (hx : a.eval x = .slice B n d)
    (hb : (m + n) * by_ ≤ 140737488355328) (hbase : base ≤ w.heap.size)
    (h : ∀ A' m' c' w', OsC cs e k w' base A' m' c' (l ++ news) → w.grownBy w' (ob A) → NewOr w.heap.size (ob A) (ob A') →
      K (a.put o.dst (.slice A' m' c')) w') : o.wp Tryz.prog a w K Q := by
  obtain ⟨i0, z, hi0, hz0, hz1, hz2, hz3⟩ := I.i
  have hmn : (m + n) * 8 ≤ 140737488355328 := Nat.le_trans (Nat.mul_le_mul_left _ I.bp) hb
  refine wp_append_any w s x _ ho base e i0 z k by_ I.u hi0 hz0 hz1 hz2 hz3 I.kp _ m (l.flatMap cs) hs hown.own _ B n d (news.flatMap cs) hx hr.rd (fun u hu => ?_) (by simp only [maxLen]; omega) hb hbase ?_
  · obtain ⟨y, _, hy⟩ := List.mem_flatMap.1 hu
    exact hown.cell y u hy
  intro v' w' hown' hg hat
  have hv : ∃ A' c', v' = .slice A' (m + n) c' := by
    rcases hown'.2 with ⟨rfl, h0⟩ | ⟨g, cap, cur, rfl, _⟩
    · exact ⟨none, 0, by rw [h0]⟩
    · exact ⟨_, _, rfl⟩
  obtain ⟨A', c', rfl⟩ := hv
  rw [ob_own] at hg
  rw [ob_own, ob_own] at hat
  refine h A' (m + n) c' w' ⟨by rw [List.flatMap_append]; exact hown', hown.one, hown.cell, by rw [List.length_append, hown.len, hr.len], by omega⟩ hg (fun k hk => ?_)
  rcases hat with h1 | h1
  · exact .inr (h1 ▸ hk)
  · rw [h1] at hk
    injection hk with hk
    exact .inl (by omega)
theorem appC (I : EInfo t e k by_) {ops : Array Oper} {rest : List Oper} {o : Oper} {a : Act} {Q : Exit → Act → World → Prop} (hgd : Region.wanted o (yielded ops a.tmps) = true) (s x : Operand)
    (ho : o.op = .call { callee := .builtin .append, args := #[s, x], argTypes := #[t, t] })
    (hown : OsC cs e k w base A m c l) (hs : a.eval s = .slice A m c)
    {B : Option Addr} {n d : Nat} {news : List α} (hr : SlC cs k w B n news) (hx : a.eval x = .slice B n d)
    (hb : (m + n) * by_ ≤ 140737488355328) (hbase : base ≤ w.heap.size)
    (h : ∀ A' m' c' w', OsC cs e k w' base A' m' c' (l ++ news) → w.grownBy w' (ob A) → NewOr w.heap.size (ob A) (ob A') →
      wpList Tryz.prog ops Q rest (a.put o.dst (.slice A' m' c')) w') : wpList Tryz.prog ops Q (o :: rest) a w :=
  BigFrame.wpList_want hgd fun _ hK => wp_appC I s x ho hown hs hr hx hb hbase fun A' m' c' w' h1 h2 h3 => hK _ _ (h A' m' c' w' h1 h2 h3)
theorem step_appC (I : EInfo t e k by_) {ops : Array Oper} {o : Oper} {a : Act} {K : Act → World → Prop} {Q : Exit → Act → World → Prop} {E : Prop} (hgd : Region.wanted o (yielded ops a.tmps) = true) (s x : Operand)
    (ho : o.op = .call { callee := .builtin .append, args := #[s, x], argTypes := #[t, t] })
    (hown : OsC cs e k w base A m c l) (hs : a.eval s = .slice A m c)
    {B : Option Addr} {n d : Nat} {news : List α} (hr : SlC cs k w B n news) (hx : a.eval x = .slice B n d)
    (hb : (m + n) * by_ ≤ 140737488355328) (hbase : base ≤ w.heap.size)
    (h : ∀ A' m' c' w', OsC cs e k w' base A' m' c' (l ++ news) → w.grownBy w' (ob A) → NewOr w.heap.size (ob A) (ob A') →
      K (a.put o.dst (.slice A' m' c')) w') : if Region.wanted o (yielded ops a.tmps) = true then Oper.wp Tryz.prog o a w K Q else E := by
  rw [if_pos hgd]
  exact wp_appC I s x ho hown hs hr hx hb hbase h
end

end Go.Proofs.YtgnchicipmomlaaGreatDoor

/- Rows of a call's own, of elements of k cells: cuts, copies, stores, clearing, growth by zeros. -/
namespace Go.Proofs.YtgnchicipmomlaaGreatDoor
open Go.RowKit
set_option maxRecDepth 100000

section
variable {α : Type} {cs : α → List Value} {t e : TypeId} {k by_ : Nat} {w w' : World} {base : Nat} {A : Option Addr} {m c : Nat} {l : List α}
theorem flat_len (h1 : ∀ x, (cs x).length = k) (l : List α) : (l.flatMap cs).length = l.length * k := by
  induction l with
  | nil => simp
  | cons x t ih => rw [List.flatMap_cons, List.length_append, ih, h1 x, List.length_cons, Nat.succ_mul]; omega
theorem flat_take (h1 : ∀ x, (cs x).length = k) (l : List α) (i : Nat) : (l.flatMap cs).take (i * k) = (l.take i).flatMap cs := by
  induction l generalizing i with
  | nil => simp
  | cons x t ih =>
    cases i with
    | zero => simp
    | succ i =>
      rw [List.flatMap_cons, List.take_succ_cons, List.flatMap_cons, List.take_append, h1 x, List.take_of_length_le (by rw [h1 x, Nat.succ_mul]; omega), show (i + 1) * k - k = i * k by rw [Nat.succ_mul]; omega, ih]
theorem flat_drop (h1 : ∀ x, (cs x).length = k) (l : List α) (i : Nat) : (l.flatMap cs).drop (i * k) = (l.drop i).flatMap cs := by
  induction l generalizing i with
  | nil => simp
  | cons x t ih =>
    cases i with
    | zero => simp
    | succ i =>
      rw [List.flatMap_cons, List.drop_succ_cons, List.drop_append, h1 x, List.drop_eq_nil_of_le (by rw [h1 x, Nat.succ_mul]; omega), show (i + 1) * k - k = i * k by rw [Nat.succ_mul]; omega, ih, List.nil_append]

/-- The row of a slice that holds an element. -/
theorem OsC.row (h : OsC cs e k w base A m c l) (hm : 0 < m) : ∃ g cur, A = some ⟨g, 0, none⟩ ∧ base ≤ g ∧ w.heap[g]? = some (.cells cur e (0, 0)) ∧ m ≤ c ∧ c ≤ maxLen ∧ cur.size = c * k ∧ cur.toList.take (m * k) = l.flatMap cs := by
  rcases h.own.2 with ⟨_, h0⟩ | ⟨g, cap, cur, hv, hg, hh, hn, hc, hsz, htk⟩
  · omega
  · injection hv with e1 _ e3
    subst e3
    exact ⟨g, cur, e1, hg, hh, hn, hc, hsz, htk⟩
theorem OsC.of_row {g : Nat} {cur : Array Value} (hA : A = some ⟨g, 0, none⟩) (hg : base ≤ g) (hh : w.heap[g]? = some (.cells cur e (0, 0))) (hmc : m ≤ c) (hc : c ≤ maxLen) (hsz : cur.size = c * k) (htk : cur.toList.take (m * k) = l.flatMap cs)
    (h1 : ∀ x, (cs x).length = k) (h2 : ∀ x, ∀ u ∈ cs x, u.oneCell' = true) (hl : m = l.length) (hle : m ≤ 17592186044416) : OsC cs e k w base A m c l :=
  ⟨⟨by rw [flat_len h1, hl], .inr ⟨g, c, cur, by rw [hA], hg, hh, hmc, hc, hsz, htk⟩⟩, h1, h2, hl, hle⟩
theorem setRow_heap' {g : Nat} {cur : Array Value} (hh : w.heap[g]? = some (.cells cur e (0, 0))) (xs : Array Value) : (w.setRow g xs).heap[g]? = some (.cells xs e (0, 0)) := setRow_heap w g cur xs e (0, 0) hh
theorem setRow_size (w : World) (g : Nat) (xs : Array Value) : (w.setRow g xs).heap.size = w.heap.size := by simp [World.setRow]
theorem grown_setRow (w : World) (g : Nat) (xs : Array Value) : w.grownBy (w.setRow g xs) (some g) := by
  refine ⟨rfl, rfl, rfl, by rw [setRow_size]; exact Nat.le_refl _, fun j _ hne => ?_⟩
  exact setRow_other w g j xs (fun e => hne (by rw [e]))
theorem splice_size {cur : Array Value} {o n : Nat} {xs : List Value} (hx : xs.length = n) (hfit : o + n ≤ cur.size) : (cur.toList.take o ++ xs ++ cur.toList.drop (o + n)).toArray.size = cur.size := by
  simp only [List.size_toArray, List.length_append, List.length_take, List.length_drop, Array.length_toList]
  omega

variable {P : Program}
/-- The cells of a slice, read. -/
theorem run_firstC {W : World} {B : Option Addr} {n d : Nat} {news : List α} (hr : SlC cs k W B n news) : (Builtin.firstCells k n (.slice B n d)).run P W = .ok (news.flatMap cs).toArray W := by
  have hl : (news.flatMap cs).length = n * k := by rw [flat_len hr.one, hr.len]
  cases B with
  | none =>
    have h0 : n = 0 := by
      rcases Nat.eq_zero_or_pos n with h0 | h0
      · exact h0
      · obtain ⟨ad, h, _⟩ := hr.rd.2 h0
        cases h
    have hn : news.flatMap cs = [] := List.eq_nil_of_length_eq_zero (by rw [hl, h0, Nat.zero_mul])
    rw [hn]
    simp [Builtin.firstCells]
  | some a =>
    have hcells : ∀ j u, (news.flatMap cs)[j]? = some u → W.cell? (a.add j) = some u := by
      intro j u hu
      rcases Nat.eq_zero_or_pos n with h0 | h0
      · have hn : news.flatMap cs = [] := List.eq_nil_of_length_eq_zero (by rw [hl, h0, Nat.zero_mul])
        rw [hn] at hu
        simp at hu
      · obtain ⟨ad', h, _, hc⟩ := hr.rd.2 h0
        injection h with h
        subst h
        exact hc j u hu
    have h1 := run_loadCells_list (P := P) W a _ hcells
    rw [hl] at h1
    simpa [Builtin.firstCells] using h1
end

section
variable {α : Type} {cs : α → List Value} {t e : TypeId} {k by_ : Nat} {w w' : World} {base : Nat} {A : Option Addr} {m c : Nat} {l : List α}
theorem EInfo.size_ (I : EInfo t e k by_) (W : World) : (sizeOf e).run Tryz.prog W = .ok k W := by
  obtain ⟨i0, z, hi0, _, hz1, _⟩ := I.i
  simp [sizeOf, typeInfo, hi0, hz1]
/-- copy(s[o:], x): the row afterwards. -/
theorem run_copyC (I : EInfo t e k by_) (ty : TypeId) {W : World} {g : Nat} {cur : Array Value} {o dLen dCap : Nat} {B : Option Addr} {sl d n : Nat} {news : List α} (hh : W.heap[g]? = some (.cells cur e (0, 0)))
    (hr : SlC cs k W B n news) (h2 : ∀ x, ∀ u ∈ cs x, u.oneCell' = true) (hn : Nat.min sl dLen = n) (hfit : (o + n) * k ≤ cur.size) :
    (Builtin.copy_ #[t, t] ty #[.slice (some ⟨g, o * k, none⟩) dLen dCap, .slice B sl d]).run Tryz.prog W = .ok (goInt n) (W.setRow g (cur.toList.take (o * k) ++ news.flatMap cs ++ cur.toList.drop ((o + n) * k)).toArray) := by
  have hl : (news.flatMap cs).length = n * k := by rw [flat_len hr.one, hr.len]
  have hst := run_storeCells_at Tryz.prog g (o * k) e (news.flatMap cs) 0 cur W hh (by rw [hl, Nat.add_zero, ← Nat.add_mul]; exact hfit) (fun u hu => by
    obtain ⟨y, _, hy⟩ := List.mem_flatMap.1 hu
    exact h2 y u hy)
  rw [hl, Nat.add_zero, ← Nat.add_mul] at hst
  have hf : (Builtin.firstCells k n (.slice B sl d)).run Tryz.prog W = .ok (news.flatMap cs).toArray W := by
    have h1 := run_firstC (P := Tryz.prog) (d := d) hr
    cases B <;> simpa [Builtin.firstCells] using h1
  have hsz := I.size_ W
  simp [Builtin.copy_, run_underlying I.u, Builtin.lenOf, hn, hsz, hf, hst]
/-- Where a cut from i on of a slice of capacity c lies. -/
def cutA (A : Option Addr) (c k i : Nat) : Option Addr := if c = i then A else A.map (·.add (i * k))
theorem cutA_lt {g o c k i : Nat} (h : i < c) : cutA (some ⟨g, o, none⟩) c k i = some ⟨g, o + i * k, none⟩ := by
  unfold cutA
  rw [if_neg (by omega), Option.map_some, Addr.add_lit]
theorem SlC.cut {A : Option Addr} {m c : Nat} {l : List α} (h : SlC cs k w A m l) {i : Nat} (hi : i ≤ m) (hc : m ≤ c) : SlC cs k w (cutA A c k i) (m - i) (l.drop i) :=
  ⟨by have := Reads.cut h.rd hi hc; rw [flat_drop h.one] at this; exact this, h.one, by rw [List.length_drop, h.len], by have := h.le; omega⟩
theorem SlC.take_ {A : Option Addr} {m : Nat} {l : List α} (h : SlC cs k w A m l) {i : Nat} (hi : i ≤ m) : SlC cs k w A i (l.take i) := by
  refine ⟨⟨by rw [flat_len h.one, List.length_take, ← h.len, Nat.min_eq_left hi], fun hn => ?_⟩, h.one, by rw [List.length_take, ← h.len, Nat.min_eq_left hi], by have := h.le; omega⟩
  obtain ⟨ad, e1, hb, hcell⟩ := h.rd.2 (by omega)
  refine ⟨ad, e1, hb, fun j u hu => hcell j u ?_⟩
  rw [← flat_take h.one, List.getElem?_take] at hu
  split at hu
  · exact hu
  · cases hu
theorem sliceAtC (I : EInfo t e k by_) {W : World} {A : Option Addr} {m c : Nat} {lo hi : Option Value} {r : Result Value} (h : (Instr.slice t (.slice A m c) lo hi none).run Tryz.prog W = r) :
    (Instr.sliceAt t (.slice A m c) lo hi none).run Tryz.prog W = r ∧ (Instr.slice t (.slice A m c) lo hi none).run Tryz.prog W = r :=
  ⟨by rw [run_sliceAt_slice W _ _ _ _ _ (show Tryz.prog.underlying t = some (.slice (Tryz.prog.elem t)) by rw [show Tryz.prog.elem t = e by simp [Program.elem, I.u]]; exact I.u), h], h⟩
/-- s[i:], s[:j], s[i:j]. -/
theorem cut_runC (I : EInfo t e k by_) {A : Option Addr} {m c : Nat} :
    (∀ (W : World) (kl : IntKind) (i : Nat), i ≤ m → m ≤ c → (Instr.sliceAt t (.slice A m c) (some (.int kl i)) none none).run Tryz.prog W = .ok (.slice (cutA A c k i) (m - i) (c - i)) W ∧
      (Instr.slice t (.slice A m c) (some (.int kl i)) none none).run Tryz.prog W = .ok (.slice (cutA A c k i) (m - i) (c - i)) W) ∧
    (∀ (W : World) (kh : IntKind) (j : Nat), j ≤ c → (Instr.sliceAt t (.slice A m c) none (some (.int kh j)) none).run Tryz.prog W = .ok (.slice A j c) W ∧
      (Instr.slice t (.slice A m c) none (some (.int kh j)) none).run Tryz.prog W = .ok (.slice A j c) W) ∧
    (∀ (W : World) (kl kh : IntKind) (i j : Nat), i ≤ j → j ≤ c → (Instr.sliceAt t (.slice A m c) (some (.int kl i)) (some (.int kh j)) none).run Tryz.prog W = .ok (.slice (cutA A c k i) (j - i) (c - i)) W ∧
      (Instr.slice t (.slice A m c) (some (.int kl i)) (some (.int kh j)) none).run Tryz.prog W = .ok (.slice (cutA A c k i) (j - i) (c - i)) W) := by
  obtain ⟨i0, z, hi0, hz0, hz1, _, hz3⟩ := I.i
  have e1 : (Tryz.prog.elem t) = e := by simp [Program.elem, I.u]
  have hu : Tryz.prog.underlying t = some (.slice (Tryz.prog.elem t)) := by rw [e1]; exact I.u
  refine ⟨fun W kl i hi hm => ?_, fun W kh j hj => ?_, fun W kl kh i j hij hj => ?_⟩
  · apply sliceAtC I
    rw [run_slice_l W _ _ _ _ hu _ _ (by omega) (by omega), e1]
    by_cases hc : c = i
    · simp [sizeOf, typeInfo, hi0, hz1, sliced, hc, cutA]
    · simp [sizeOf, typeInfo, hi0, hz1, sliced, hc, cutA]
  · apply sliceAtC I
    rw [run_slice_h W _ _ _ _ hu _ _ (by omega) (by omega), e1]
    by_cases hc : c = 0
    · simp [sizeOf, typeInfo, hi0, hz1, sliced, hc]
    · cases A <;> simp [sizeOf, typeInfo, hi0, hz1, sliced, hc, Addr.add]
  · apply sliceAtC I
    rw [run_slice_lh W _ _ _ _ hu _ _ _ _ (by omega) (by omega) (by omega), e1]
    by_cases hc : c = i
    · simp [sizeOf, typeInfo, hi0, hz1, sliced, hc, cutA]
    · simp [sizeOf, typeInfo, hi0, hz1, sliced, hc, cutA]
end

end Go.Proofs.YtgnchicipmomlaaGreatDoor

/- append within the capacity of a row of the call's own: the slice stays where it is. -/
namespace Go.Proofs.YtgnchicipmomlaaGreatDoor
open Go.RowKit
set_option maxRecDepth 100000
section
variable {α : Type} {cs : α → List Value} {t e : TypeId} {k by_ : Nat} {w w' : World} {base : Nat} {A : Option Addr} {m c : Nat} {l : List α}
end
end Go.Proofs.YtgnchicipmomlaaGreatDoor

/- Data that came in, opened by type: strings, numbers, structs, arrays, slices of these. -/
namespace Go.Proofs.YtgnchicipmomlaaGreatDoor
open Go.RowKit
open Go.WideShapes Go.ChangeShapes Go.Deep
set_option maxRecDepth 100000

theorem weights_mem_all {H : Type} {P : Program} {e : TypeId} : ∀ {ds : List (DataW H)} {d : DataW H}, d ∈ ds → ∀ n ∈ d.weights P e, n ∈ DataW.weightsAll P e ds
  | d0 :: ds, d, hd, n, hn => by
    simp only [DataW.weightsAll, List.mem_append]
    rcases List.mem_cons.1 hd with rfl | hd
    · exact Or.inl hn
    · exact Or.inr (weights_mem_all hd n hn)

section
variable {H : Type}
/-- No part of a datum is too great. -/
def WOk (t : TypeId) (d : DataW H) : Prop := ∀ n ∈ d.weights Tryz.prog t, n ≤ 140737488351232
theorem WOk.top {ts : List TypeId} {ds : List (DataW H)} (h : (DataW.weightsEach Tryz.prog ts ds).all (· ≤ reachBytes) = true) {j : Nat} {t : TypeId} {d : DataW H} (ht : ts[j]? = some t) (hd : ds[j]? = some d) : WOk t d := fun n hn => by
  have := List.all_eq_true.1 h _ (DataW.weights_mem_each ht hd n hn)
  have h2 : n ≤ reachBytes := by simpa using this
  exact h2

variable (enc : TypeId × Value → H) (W : World)
/-- Every reading of type t in W is f of a good y. -/
def Opn {α : Type} (t : TypeId) (f : α → List Value) (good : α → Prop) : Prop :=
  ∀ n cs x, DataW.trod enc Tryz.prog W 0 (fun _ => true) true n t cs = some x → WOk t x.1 → ∃ y, cs = f y ∧ good y
variable {enc W}
def strF (s : ByteArray) : List Value := [.string s]
def GoodStr (s : ByteArray) : Prop := s.size ≤ 140737488351232
theorem opn_string {t : TypeId} (ht : Tryz.prog.underlying t = some .string) : Opn enc W t strF GoodStr := by
  intro n cs x h hw
  obtain ⟨s, rfl, rfl, _⟩ := DataW.trod_string ht h
  refine ⟨s, rfl, ?_⟩
  have := hw s.data.toList.length (by simp [DataW.weights])
  simpa [GoodStr] using this
def intF (k : IntKind) (z : Int) : List Value := [.int k z]
theorem opn_int {t : TypeId} {k : IntKind} (ht : Tryz.prog.underlying t = some (.int k)) : Opn enc W t (intF k) (fun z => (Lit.int k z).wf = true) := by
  intro n cs x h hw
  obtain ⟨z, rfl, rfl, hz⟩ := DataW.trod_int ht h
  exact ⟨z, rfl, hz⟩
def boolF (b : Bool) : List Value := [.bool b]
theorem opn_bool {t : TypeId} (ht : Tryz.prog.underlying t = some .bool) : Opn enc W t boolF (fun _ => True) := by
  intro n cs x h hw
  obtain ⟨b, rfl, rfl⟩ := DataW.trod_bool ht h
  exact ⟨b, rfl, trivial⟩
/-- A struct's parts. -/
theorem opn_part {t : TypeId} {fs : Array Field} (ht : Tryz.prog.underlying t = some (.struct fs)) {n : Nat} {cs : List Value} {x : DataW H × List MemPlace} (h : DataW.trod enc Tryz.prog W 0 (fun _ => true) true n t cs = some x) (hw : WOk t x.1) :
    cs.length = Tryz.prog.cellsOf t ∧ ∀ (i : Nat) (fd : Field), fs[i]? = some fd → ∀ {α : Type} {f : α → List Value} {good : α → Prop}, Opn enc W fd.type f good → ∃ y, (cs.drop fd.offset).take (Tryz.prog.cellsOf fd.type) = f y ∧ good y := by
  obtain ⟨xs, m, rfl, rfl, hl, hlen, hp⟩ := DataW.trod_struct ht h
  refine ⟨hl, fun i fd hi {α f good} ho => ?_⟩
  have h1 := hp i fd hi
  have hi2 : i < xs.length := by rw [hlen]; exact (Array.getElem?_eq_some_iff.1 hi).1
  rw [List.getElem?_eq_getElem hi2] at h1
  refine ho m _ _ h1 fun k hk => hw k ?_
  simp only [DataW.weights, ht]
  refine DataW.weights_mem_each (j := i) (t := fd.type) (d := xs[i].1) ?_ ?_ k hk
  · rw [List.getElem?_map, Array.getElem?_toList, hi]; rfl
  · rw [List.getElem?_map, List.getElem?_eq_getElem hi2]; rfl
/-- A slice as a value: its address, length, capacity. -/
structure SlH where
  A : Option Addr
  m : Nat
  c : Nat
def slF (h : SlH) : List Value := [.slice h.A h.m h.c]
def GoodSl {α : Type} (W : World) (f : α → List Value) (k b : Nat) (good : α → Prop) (h : SlH) : Prop :=
  ∃ l, SlC f k W h.A h.m l ∧ (∀ x ∈ l, good x) ∧ h.m ≤ h.c ∧ h.c * b ≤ 140737488351232
theorem opn_slice {α : Type} {t e : TypeId} {f : α → List Value} {good : α → Prop} {k b : Nat} (ht : Tryz.prog.underlying t = some (.slice e)) (hC : Tryz.prog.cellsOf e = k) (hB : Tryz.prog.bytesOf e = b) (hk : 0 < k) (hb : 1 ≤ b) (hone : ∀ x, (f x).length = k)
    (he : Opn enc W e f good) : Opn enc W t slF (GoodSl W f k b good) := by
  intro n cs x h hw
  rcases DataW.trod_slice ht h with ⟨rfl, rfl⟩ | ⟨a, len, cap, elems, rest, n', rfl, rfl, rfl, _, hlc, hcap, hel, hat, hsp, _⟩
  · exact ⟨⟨none, 0, 0⟩, rfl, [], SlC.nil_ hone, by simp, Nat.le_refl _, by simp⟩
  · have hrl := (hsp rfl).1
    have h1 := hw ((elems.length + rest.length) * Tryz.prog.bytesOf e) (by simp [DataW.weights, ht])
    have hcb : cap * b ≤ 140737488351232 := by
      rw [hB, hel, hrl, show len + (cap - len) = cap by omega] at h1
      exact h1
    have hc1 : cap * 1 ≤ cap * b := Nat.mul_le_mul_left _ hb
    rw [hC] at hat
    obtain ⟨l, hll, hg, hcl⟩ := flat_list f good len (fun i cs' => W.cells? 0 (a.add (i * k)) k = some cs') (fun i hlt => by
      have h3 := hat i hlt
      rw [List.getElem?_eq_getElem (by omega)] at h3
      obtain ⟨cs', h4, h5⟩ := Option.bind_eq_some_iff.1 h3
      obtain ⟨y, rfl, hy⟩ := he _ _ _ h5 (fun q hq => hw q (by
        simp only [DataW.weights, ht, List.mem_cons, List.mem_append]
        exact .inr (.inl (weights_mem_all (List.mem_map.2 ⟨_, List.getElem_mem (by omega), rfl⟩) q hq))))
      exact ⟨y, h4, hy⟩)
    refine ⟨⟨some a, len, cap⟩, rfl, l, ?_, hg, hlc, hcb⟩
    show SlC f k W (some a) len l
    refine ⟨⟨?_, fun hn => ⟨a, rfl, ?_, fun j u hu => ?_⟩⟩, hone, hll.symm, by omega⟩
    · rw [← hll]
      clear hcl hg hll
      induction l with
      | nil => simp
      | cons x t ih => rw [List.flatMap_cons, List.length_append, ih, hone x, List.length_cons, Nat.succ_mul]; omega
    · obtain ⟨_, _, hat⟩ := World.cells?_some (hcl 0 (by omega))
      have h3 := hat 0 hk
      have h4 : (f l[0])[0]? = some ((f l[0])[0]'(by rw [hone]; exact hk)) := List.getElem?_eq_getElem _
      have h5 := World.block_lt_of_cell? W _ (h3.trans h4)
      rw [block_of_add, block_of_add] at h5
      exact h5
    · have hjl : j < (l.flatMap f).length := (List.getElem?_eq_some_iff.1 hu).1
      have hfl : (l.flatMap f).length = l.length * k := by
        clear hcl hg hll hu hjl
        induction l with
        | nil => simp
        | cons x t ih => rw [List.flatMap_cons, List.length_append, ih, hone x, List.length_cons, Nat.succ_mul]; omega
      have hq : j / k < l.length := by rw [Nat.div_lt_iff_lt_mul hk]; omega
      have hr : j % k < k := Nat.mod_lt _ hk
      have hj : j = j / k * k + j % k := by rw [Nat.mul_comm]; exact (Nat.div_add_mod j k).symm
      obtain ⟨_, _, hat⟩ := World.cells?_some (hcl (j / k) hq)
      have h3 := hat (j % k) hr
      rw [add_of_add, ← hj] at h3
      rw [h3, ← flat_at hone l _ _ hq hr, ← hj]
      exact hu

theorem opn_top_agg {α : Type} {t : TypeId} {f : α → List Value} {good : α → Prop} (ho : Opn enc W t f good) {v : Value} {d : DataW H} {p : List MemPlace} (hv : ∃ cs, v = .agg cs) (h : DataW.Trod enc Tryz.prog W 0 (fun _ => true) true t v d p) (hw : WOk t d) :
    ∃ y, v = .agg (f y).toArray ∧ good y := by
  obtain ⟨cs, rfl⟩ := hv
  obtain ⟨n, hn⟩ := h
  obtain ⟨y, hy, hg⟩ := ho n _ _ hn hw
  refine ⟨y, ?_, hg⟩
  have e1 : cs.toList = f y := hy
  rw [← e1]
theorem opn_top_slice {α : Type} {t e : TypeId} {f : α → List Value} {good : α → Prop} {k b base : Nat} (ht : Tryz.prog.underlying t = some (.slice e)) (ho : Opn enc W t slF (GoodSl W f k b good)) {v : Value} {d : DataW H} {p : List MemPlace} (hv : Value.okWide Tryz.prog W .any base t v) (h : DataW.Trod enc Tryz.prog W 0 (fun _ => true) true t v d p) (hw : WOk t d) :
    ∃ A m c l, v = .slice A m c ∧ SlC f k W A m l ∧ (∀ x ∈ l, good x) ∧ m ≤ c ∧ c * b ≤ 140737488351232 := by
  obtain ⟨A, m, c, rfl⟩ := okWide_slice ht hv
  obtain ⟨n, hn⟩ := h
  obtain ⟨⟨A', m', c'⟩, hy, l, h1, h2, h3, h4⟩ := ho n _ _ hn hw
  simp [Value.cells, slF] at hy
  obtain ⟨rfl, rfl, rfl⟩ := hy
  exact ⟨A, m, c, l, rfl, h1, h2, h3, h4⟩
end

end Go.Proofs.YtgnchicipmomlaaGreatDoor
