/- Slices of any elements of k cells, as lists. -/
import Derived.Test.YtikbjaopcminaaaDoorBytes
import Derived.Deep.Slices
import Derived.SizedLaws
import Derived.OpenShut
namespace Go.Proofs.YtikbjaopcminaaaDoor
open Go.RowKit
open Go.WideShapes Go.ChangeShapes Go.Deep
set_option maxRecDepth 100000

/-- The slice (A, m) holds the elements l, each of k cells. -/
structure SlC {α : Type} (cs : α → List Value) (k : Nat) (w : World) (A : Option Addr) (m : Nat) (l : List α) : Prop where
  rd : Reads w w.heap.size k A m (l.flatMap cs)
  one : ∀ x, (cs x).length = k
  len : m = l.length
  le : m ≤ 140737488355328

section
variable {α : Type} {cs : α → List Value} {k : Nat} {w w' : World} {A : Option Addr} {m : Nat} {l : List α}
theorem flat_at (h : ∀ x, (cs x).length = k) (l : List α) (q j : Nat) (hq : q < l.length) (hj : j < k) : (l.flatMap cs)[q * k + j]? = (cs l[q])[j]? := by
  induction l generalizing q with
  | nil => simp at hq
  | cons x t ih =>
    rw [List.flatMap_cons]
    cases q with
    | zero => rw [List.getElem?_append_left (by rw [h x]; omega)]; simp
    | succ q =>
      rw [List.getElem?_append_right (by rw [h x, Nat.succ_mul]; omega), h x]
      have e1 : (q + 1) * k + j - k = q * k + j := by rw [Nat.succ_mul]; omega
      rw [e1, ih q (by simpa using hq)]
      simp
theorem SlC.ext (h : SlC cs k w A m l) (hE : Ext w w') : SlC cs k w' A m l := ⟨Reads.more (Reads.below h.rd hE) hE.size_le, h.one, h.len, h.le⟩
theorem SlC.nil_ (h : ∀ x, (cs x).length = k) : SlC cs k w none 0 [] := ⟨⟨by simp, fun h => absurd h (by omega)⟩, h, rfl, by omega⟩
theorem SlC.kept {r : Option Nat} (h : SlC cs k w A m l) (hg : w.grownBy w' r) (h2 : ob A = none ∨ ob A ≠ r) : SlC cs k w' A m l := by
  refine ⟨⟨h.rd.1, fun hn => ?_⟩, h.one, h.len, h.le⟩
  obtain ⟨ad, e, hb, hc⟩ := h.rd.2 hn
  refine ⟨ad, e, Nat.lt_of_lt_of_le hb hg.size, fun j u hu => ?_⟩
  have hne : some (ad.add j).block ≠ r := by
    rw [block_of_add]
    subst e
    rcases h2 with h2 | h2
    · cases h2
    · exact h2
  exact hg.cell (hc j u hu) hne
/-- The address of a slice that has an element, and the cells of every element. -/
theorem SlC.at_ {i : Nat} (h : SlC cs k w A m l) (hi : i < m) (hk : 0 < k) : ∃ b off, A = some ⟨b, off, none⟩ ∧ b < w.heap.size ∧
    ∀ q (hq : q < l.length) j (hj : j < k), w.cell? ⟨b, off + (q * k + j), none⟩ = some ((cs l[q])[j]'(by rw [h.one]; exact hj)) := by
  have hl := h.len
  obtain ⟨⟨b, off, sp⟩, hA, hbl, hc⟩ := h.rd.2 (by omega)
  have hx : ∀ q (hq : q < l.length) j (hj : j < k), (l.flatMap cs)[q * k + j]? = some ((cs l[q])[j]'(by rw [h.one]; exact hj)) := fun q hq j hj => by
    rw [flat_at h.one l q j hq hj]
    exact List.getElem?_eq_getElem _
  have h0 := hc (0 * k + 0) _ (hx 0 (by omega) 0 hk)
  have hsp : sp = none := by
    cases sp with
    | none => rfl
    | some s =>
      simp only [Nat.zero_mul, Nat.add_zero, Addr.add, if_pos, World.cell?] at h0
      split at h0
      · simp at h0
      · cases h0
  subst hsp
  refine ⟨b, off, hA, hbl, fun q hq j hj => ?_⟩
  have := hc _ _ (hx q hq j hj)
  rw [Addr.add_lit] at this
  exact this
end

section
variable {H : Type} {enc : TypeId × Value → H} {W : World} {base : Nat} {v : Value} {d : DataW H} {p : List MemPlace}
theorem flat_list {α : Type} (cs : α → List Value) (good : α → Prop) (m : Nat) (f : Nat → List Value → Prop) (h : ∀ i, i < m → ∃ x, f i (cs x) ∧ good x) :
    ∃ l : List α, l.length = m ∧ (∀ x ∈ l, good x) ∧ ∀ i (hi : i < l.length), f i (cs l[i]) := by
  induction m with
  | zero => exact ⟨[], rfl, by simp, by simp⟩
  | succ m ih =>
    obtain ⟨l, hl, hg, hc⟩ := ih fun i hi => h i (by omega)
    obtain ⟨x, hx, hgx⟩ := h m (by omega)
    refine ⟨l ++ [x], by simp [hl], ?_, fun i hi => ?_⟩
    · intro y hy
      rcases List.mem_append.1 hy with hy | hy
      · exact hg y hy
      · simp at hy; subst hy; exact hgx
    · by_cases hlt : i < l.length
      · rw [List.getElem_append_left hlt]; exact hc i hlt
      · have : i = l.length := by simp at hi; omega
        subst this
        rw [List.getElem_append_right (Nat.le_refl _)]
        simp only [Nat.sub_self, List.getElem_cons_zero]
        rw [hl]; exact hx
/-- A slice that came in, opened to a list of its elements. -/
theorem open_sliceK {α : Type} (cs : α → List Value) (good : α → Prop) {k : Nat} {t e : TypeId} (ht : Tryd.prog.underlying t = some (.slice e)) (hC : Tryd.prog.cellsOf e = k) (hk : 0 < k) (hone : ∀ x, (cs x).length = k)
    (hB : 1 ≤ Tryd.prog.bytesOf e) (hv : Value.okWide Tryd.prog W .any base t v) (h : DataW.Trod enc Tryd.prog W 0 (fun _ => true) true t v d p)
    (hz : ∀ elems spare, d = .slice elems spare → (elems.length + spare.length) * Tryd.prog.bytesOf e ≤ reachBytes)
    (elem : ∀ n cs' x, DataW.trod enc Tryd.prog W 0 (fun _ => true) true n e cs' = some x → ∃ y, cs' = cs y ∧ good y) :
    ∃ A m c l, v = .slice A m c ∧ SlC cs k W A m l ∧ (∀ x ∈ l, good x) ∧ m ≤ c := by
  obtain ⟨A, m, c, rfl⟩ := okWide_slice ht hv
  obtain ⟨fuel, hf⟩ := h
  rcases open_slice ht hf with ⟨hcs, _⟩ | ⟨a, len, cap, m', n, D, Pl, hcs, _, hl, hm, hmm, hx, hi⟩
  · simp [Value.cells] at hcs
    obtain ⟨rfl, rfl, rfl⟩ := hcs
    exact ⟨none, 0, 0, [], rfl, SlC.nil_ hone, by simp, Nat.le_refl _⟩
  · simp [Value.cells] at hcs
    obtain ⟨rfl, rfl, rfl⟩ := hcs
    simp only [Prod.mk.injEq] at hx
    obtain ⟨rfl, rfl⟩ := hx
    have hmm' : m' = c := by simpa using hmm
    subst hmm'
    have h1 := hz _ _ rfl
    have h2 : m' * 1 ≤ reachBytes := Nat.le_trans (Nat.mul_le_mul_left _ hB) (by simpa [show m + (m' - m) = m' by omega] using h1)
    simp only [reachBytes] at h2
    rw [hC] at hi
    obtain ⟨l, hll, hg, hc⟩ := flat_list cs good m (fun i cs' => W.cells? 0 (a.add (i * k)) k = some cs') (fun i hlt => by
      obtain ⟨cs', h3, h4⟩ := hi i (by omega)
      obtain ⟨y, rfl, hy⟩ := elem _ _ _ h4
      exact ⟨y, h3, hy⟩)
    refine ⟨some a, m, m', l, rfl, ⟨⟨?_, fun hn => ⟨a, rfl, ?_, fun j u hu => ?_⟩⟩, hone, hll.symm, by omega⟩, hg, hl⟩
    · rw [← hll]
      clear hc hg hll
      induction l with
      | nil => simp
      | cons x t ih => rw [List.flatMap_cons, List.length_append, ih, hone x, List.length_cons, Nat.succ_mul]; omega
    · obtain ⟨_, _, hat⟩ := World.cells?_some (hc 0 (by omega))
      have h3 := hat 0 hk
      have h4 : (cs l[0])[0]? = some ((cs l[0])[0]'(by rw [hone]; exact hk)) := List.getElem?_eq_getElem _
      have h5 := World.block_lt_of_cell? W _ (h3.trans h4)
      rw [block_of_add, block_of_add] at h5
      exact h5
    · have hjl : j < (l.flatMap cs).length := (List.getElem?_eq_some_iff.1 hu).1
      have hfl : (l.flatMap cs).length = l.length * k := by
        clear hc hg hll hu hjl
        induction l with
        | nil => simp
        | cons x t ih => rw [List.flatMap_cons, List.length_append, ih, hone x, List.length_cons, Nat.succ_mul]; omega
      have hq : j / k < l.length := by rw [Nat.div_lt_iff_lt_mul hk]; omega
      have hr : j % k < k := Nat.mod_lt _ hk
      have hj : j = j / k * k + j % k := by rw [Nat.mul_comm]; exact (Nat.div_add_mod j k).symm
      obtain ⟨_, _, hat⟩ := World.cells?_some (hc (j / k) hq)
      have h3 := hat (j % k) hr
      rw [add_of_add, ← hj] at h3
      rw [h3, ← flat_at hone l _ _ hq hr, ← hj]
      exact hu
end

end Go.Proofs.YtikbjaopcminaaaDoor
