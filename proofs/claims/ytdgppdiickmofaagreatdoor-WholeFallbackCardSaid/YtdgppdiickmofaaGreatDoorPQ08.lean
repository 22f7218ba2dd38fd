/- Data that came in, opened by type: strings, numbers, structs, arrays, slices of these. -/
import Derived.Test.YtdgppdiickmofaaGreatDoorPQ04
import Derived.Test.YtdgppdiickmofaaGreatDoorPQ01
import Derived.Laws.Rows
namespace Go.Proofs.YtdgppdiickmofaaGreatDoor
open Go.RowKit
open Go.WideShapes Go.ChangeShapes Go.Deep
set_option maxRecDepth 100000

theorem weights_mem_all {H : Type} {P : Program} {e : TypeId} : ∀ {ds : List (DataW H)} {d : DataW H}, d ∈ ds → ∀ n ∈ d.weights P e, n ∈ DataW.weightsAll P e ds
  | d0 :: ds, d, hd, n, hn => by
    simp only [DataW.weightsAll, List.mem_append]
    rcases List.mem_cons.1 hd with rfl | hd
    · exact Or.inl hn
    · exact Or.inr (weights_mem_all hd n hn)

section
variable {H : Type}
/-- No part of a datum is too great. -/
def WOk (t : TypeId) (d : DataW H) : Prop := ∀ n ∈ d.weights Tryz.prog t, n ≤ 140737488351232
theorem WOk.top {ts : List TypeId} {ds : List (DataW H)} (h : (DataW.weightsEach Tryz.prog ts ds).all (· ≤ reachBytes) = true) {j : Nat} {t : TypeId} {d : DataW H} (ht : ts[j]? = some t) (hd : ds[j]? = some d) : WOk t d := fun n hn => by
  have := List.all_eq_true.1 h _ (DataW.weights_mem_each ht hd n hn)
  have h2 : n ≤ reachBytes := by simpa using this
  exact h2

variable (enc : TypeId × Value → H) (W : World)
/-- Every reading of type t in W is f of a good y. -/
def Opn {α : Type} (t : TypeId) (f : α → List Value) (good : α → Prop) : Prop :=
  ∀ n cs x, DataW.trod enc Tryz.prog W 0 (fun _ => true) true n t cs = some x → WOk t x.1 → ∃ y, cs = f y ∧ good y
variable {enc W}
def strF (s : ByteArray) : List Value := [.string s]
def GoodStr (s : ByteArray) : Prop := s.size ≤ 140737488351232
theorem opn_string {t : TypeId} (ht : Tryz.prog.underlying t = some .string) : Opn enc W t strF GoodStr := by
  intro n cs x h hw
  obtain ⟨s, rfl, rfl, _⟩ := DataW.trod_string ht h
  refine ⟨s, rfl, ?_⟩
  have := hw s.data.toList.length (by simp [DataW.weights])
  simpa [GoodStr] using this
def intF (k : IntKind) (z : Int) : List Value := [.int k z]
theorem opn_int {t : TypeId} {k : IntKind} (ht : Tryz.prog.underlying t = some (.int k)) : Opn enc W t (intF k) (fun z => (Lit.int k z).wf = true) := by
  intro n cs x h hw
  obtain ⟨z, rfl, rfl, hz⟩ := DataW.trod_int ht h
  exact ⟨z, rfl, hz⟩
def boolF (b : Bool) : List Value := [.bool b]
theorem opn_bool {t : TypeId} (ht : Tryz.prog.underlying t = some .bool) : Opn enc W t boolF (fun _ => True) := by
  intro n cs x h hw
  obtain ⟨b, rfl, rfl⟩ := DataW.trod_bool ht h
  exact ⟨b, rfl, trivial⟩
theorem Opn.mono {α : Type} {t : TypeId} {f : α → List Value} {good good' : α → Prop} (h : Opn enc W t f good) (hg : ∀ y, good y → good' y) : Opn enc W t f good' := fun n cs x h1 h2 => by
  obtain ⟨y, e, hy⟩ := h n cs x h1 h2
  exact ⟨y, e, hg y hy⟩
/-- A struct's parts. -/
theorem opn_part {t : TypeId} {fs : Array Field} (ht : Tryz.prog.underlying t = some (.struct fs)) {n : Nat} {cs : List Value} {x : DataW H × List MemPlace} (h : DataW.trod enc Tryz.prog W 0 (fun _ => true) true n t cs = some x) (hw : WOk t x.1) :
    cs.length = Tryz.prog.cellsOf t ∧ ∀ (i : Nat) (fd : Field), fs[i]? = some fd → ∀ {α : Type} {f : α → List Value} {good : α → Prop}, Opn enc W fd.type f good → ∃ y, (cs.drop fd.offset).take (Tryz.prog.cellsOf fd.type) = f y ∧ good y := by
  obtain ⟨xs, m, rfl, rfl, hl, hlen, hp⟩ := DataW.trod_struct ht h
  refine ⟨hl, fun i fd hi {α f good} ho => ?_⟩
  have h1 := hp i fd hi
  have hi2 : i < xs.length := by rw [hlen]; exact (Array.getElem?_eq_some_iff.1 hi).1
  rw [List.getElem?_eq_getElem hi2] at h1
  refine ho m _ _ h1 fun k hk => hw k ?_
  simp only [DataW.weights, ht]
  refine DataW.weights_mem_each (j := i) (t := fd.type) (d := xs[i].1) ?_ ?_ k hk
  · rw [List.getElem?_map, Array.getElem?_toList, hi]; rfl
  · rw [List.getElem?_map, List.getElem?_eq_getElem hi2]; rfl
/-- An array's parts. -/
theorem opn_elem {t e : TypeId} {k : Nat} (ht : Tryz.prog.underlying t = some (.array k e)) {n : Nat} {cs : List Value} {x : DataW H × List MemPlace} (h : DataW.trod enc Tryz.prog W 0 (fun _ => true) true n t cs = some x) (hw : WOk t x.1) :
    cs.length = Tryz.prog.cellsOf t ∧ ∀ i, i < k → ∀ {α : Type} {f : α → List Value} {good : α → Prop}, Opn enc W e f good → ∃ y, (cs.drop (i * Tryz.prog.cellsOf e)).take (Tryz.prog.cellsOf e) = f y ∧ good y := by
  obtain ⟨xs, m, rfl, rfl, hl, hlen, hp⟩ := DataW.trod_array ht h
  refine ⟨hl, fun i hi {α f good} ho => ?_⟩
  have h1 := hp i hi
  have hi2 : i < xs.length := by omega
  rw [List.getElem?_eq_getElem hi2] at h1
  refine ho m _ _ h1 fun k hk => hw k ?_
  simp only [DataW.weights, ht]
  exact weights_mem_all (d := xs[i].1) (List.mem_map.2 ⟨_, List.getElem_mem hi2, rfl⟩) k hk
/-- A slice as a value: its address, length, capacity. -/
structure SlH where
  A : Option Addr
  m : Nat
  c : Nat
def slF (h : SlH) : List Value := [.slice h.A h.m h.c]
def GoodSl {α : Type} (W : World) (f : α → List Value) (k b : Nat) (good : α → Prop) (h : SlH) : Prop :=
  ∃ l, SlC f k W h.A h.m l ∧ (∀ x ∈ l, good x) ∧ h.m ≤ h.c ∧ h.c * b ≤ 140737488351232
theorem opn_slice {α : Type} {t e : TypeId} {f : α → List Value} {good : α → Prop} {k b : Nat} (ht : Tryz.prog.underlying t = some (.slice e)) (hC : Tryz.prog.cellsOf e = k) (hB : Tryz.prog.bytesOf e = b) (hk : 0 < k) (hb : 1 ≤ b) (hone : ∀ x, (f x).length = k)
    (he : Opn enc W e f good) : Opn enc W t slF (GoodSl W f k b good) := by
  intro n cs x h hw
  rcases DataW.trod_slice ht h with ⟨rfl, rfl⟩ | ⟨a, len, cap, elems, rest, n', rfl, rfl, rfl, _, hlc, hcap, hel, hat, hsp, _⟩
  · exact ⟨⟨none, 0, 0⟩, rfl, [], SlC.nil_ hone, by simp, Nat.le_refl _, by simp⟩
  · have hrl := (hsp rfl).1
    have h1 := hw ((elems.length + rest.length) * Tryz.prog.bytesOf e) (by simp [DataW.weights, ht])
    have hcb : cap * b ≤ 140737488351232 := by
      rw [hB, hel, hrl, show len + (cap - len) = cap by omega] at h1
      exact h1
    have hc1 : cap * 1 ≤ cap * b := Nat.mul_le_mul_left _ hb
    rw [hC] at hat
    obtain ⟨l, hll, hg, hcl⟩ := flat_list f good len (fun i cs' => W.cells? 0 (a.add (i * k)) k = some cs') (fun i hlt => by
      have h3 := hat i hlt
      rw [List.getElem?_eq_getElem (by omega)] at h3
      obtain ⟨cs', h4, h5⟩ := Option.bind_eq_some_iff.1 h3
      obtain ⟨y, rfl, hy⟩ := he _ _ _ h5 (fun q hq => hw q (by
        simp only [DataW.weights, ht, List.mem_cons, List.mem_append]
        exact .inr (.inl (weights_mem_all (List.mem_map.2 ⟨_, List.getElem_mem (by omega), rfl⟩) q hq))))
      exact ⟨y, h4, hy⟩)
    refine ⟨⟨some a, len, cap⟩, rfl, l, ?_, hg, hlc, hcb⟩
    show SlC f k W (some a) len l
    refine ⟨⟨?_, fun hn => ⟨a, rfl, ?_, fun j u hu => ?_⟩⟩, hone, hll.symm, by omega⟩
    · rw [← hll]
      clear hcl hg hll
      induction l with
      | nil => simp
      | cons x t ih => rw [List.flatMap_cons, List.length_append, ih, hone x, List.length_cons, Nat.succ_mul]; omega
    · obtain ⟨_, _, hat⟩ := World.cells?_some (hcl 0 (by omega))
      have h3 := hat 0 hk
      have h4 : (f l[0])[0]? = some ((f l[0])[0]'(by rw [hone]; exact hk)) := List.getElem?_eq_getElem _
      have h5 := World.block_lt_of_cell? W _ (h3.trans h4)
      rw [block_of_add, block_of_add] at h5
      exact h5
    · have hjl : j < (l.flatMap f).length := (List.getElem?_eq_some_iff.1 hu).1
      have hfl : (l.flatMap f).length = l.length * k := by
        clear hcl hg hll hu hjl
        induction l with
        | nil => simp
        | cons x t ih => rw [List.flatMap_cons, List.length_append, ih, hone x, List.length_cons, Nat.succ_mul]; omega
      have hq : j / k < l.length := by rw [Nat.div_lt_iff_lt_mul hk]; omega
      have hr : j % k < k := Nat.mod_lt _ hk
      have hj : j = j / k * k + j % k := by rw [Nat.mul_comm]; exact (Nat.div_add_mod j k).symm
      obtain ⟨_, _, hat⟩ := World.cells?_some (hcl (j / k) hq)
      have h3 := hat (j % k) hr
      rw [add_of_add, ← hj] at h3
      rw [h3, ← flat_at hone l _ _ hq hr, ← hj]
      exact hu

/-- At the top: an argument. -/
theorem okWide_array {k : Nat} {t e : TypeId} {v : Value} {base : Nat} (ht : Tryz.prog.underlying t = some (.array k e)) (h : Value.okWide Tryz.prog W .any base t v) : ∃ cs, v = .agg cs := by
  simp only [Value.okWide, ht] at h
  obtain ⟨cs, h1, _⟩ := h
  exact ⟨cs, h1⟩
theorem opn_top_agg {α : Type} {t : TypeId} {f : α → List Value} {good : α → Prop} (ho : Opn enc W t f good) {v : Value} {d : DataW H} {p : List MemPlace} (hv : ∃ cs, v = .agg cs) (h : DataW.Trod enc Tryz.prog W 0 (fun _ => true) true t v d p) (hw : WOk t d) :
    ∃ y, v = .agg (f y).toArray ∧ good y := by
  obtain ⟨cs, rfl⟩ := hv
  obtain ⟨n, hn⟩ := h
  obtain ⟨y, hy, hg⟩ := ho n _ _ hn hw
  refine ⟨y, ?_, hg⟩
  have e1 : cs.toList = f y := hy
  rw [← e1]
theorem opn_top_slice {α : Type} {t e : TypeId} {f : α → List Value} {good : α → Prop} {k b base : Nat} (ht : Tryz.prog.underlying t = some (.slice e)) (ho : Opn enc W t slF (GoodSl W f k b good)) {v : Value} {d : DataW H} {p : List MemPlace} (hv : Value.okWide Tryz.prog W .any base t v) (h : DataW.Trod enc Tryz.prog W 0 (fun _ => true) true t v d p) (hw : WOk t d) :
    ∃ A m c l, v = .slice A m c ∧ SlC f k W A m l ∧ (∀ x ∈ l, good x) ∧ m ≤ c ∧ c * b ≤ 140737488351232 := by
  obtain ⟨A, m, c, rfl⟩ := okWide_slice ht hv
  obtain ⟨n, hn⟩ := h
  obtain ⟨⟨A', m', c'⟩, hy, l, h1, h2, h3, h4⟩ := ho n _ _ hn hw
  simp [Value.cells, slF] at hy
  obtain ⟨rfl, rfl, rfl⟩ := hy
  exact ⟨A, m, c, l, rfl, h1, h2, h3, h4⟩
end

end Go.Proofs.YtdgppdiickmofaaGreatDoor
