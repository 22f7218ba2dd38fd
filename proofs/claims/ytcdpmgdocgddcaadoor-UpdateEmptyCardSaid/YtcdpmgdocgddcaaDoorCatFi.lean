/- Find: the first entry with an ID. -/
import Derived.Test.YtcdpmgdocgddcaaDoorCatV
namespace Go.Proofs.YtcdpmgdocgddcaaDoor
open Go.RowKit
set_option maxRecDepth 100000

/-- The index of the first entry with an ID, or -1. -/
def FindZ (l : List Ep) (id : ByteArray) (z : Int) : Prop :=
  (z = -1 ∧ ∀ j (h : j < l.length), l[j].id ≠ id) ∨ ∃ k : Nat, z = k ∧ ∃ h : k < l.length, l[k].id = id ∧ ∀ j (hj : j < k), (l[j]'(by omega)).id ≠ id
/-- What Find returns. -/
def FindV (z : Int) : Value := .tuple #[.int .i64 (if 0 ≤ z then z else 0), .bool (decide (0 ≤ z))]
theorem FindZ.lt {l : List Ep} {id : ByteArray} {k : Nat} (h : FindZ l id k) : k < l.length := by
  rcases h with ⟨h, _⟩ | ⟨j, h, hj, _⟩
  · omega
  · omega
theorem FindZ.cases_ {l : List Ep} {id : ByteArray} {z : Int} (h : FindZ l id z) : z = -1 ∨ ∃ k : Nat, z = k := by
  rcases h with ⟨h, _⟩ | ⟨k, h, _⟩
  · exact .inl h
  · exact .inr ⟨k, h⟩
theorem validC_len {c : Cp} (h : validC c = true) : c.es.length ≤ 1000 := by
  unfold validC at h
  simp only [Bool.and_eq_true, decide_eq_true_eq] at h
  exact h.1.2
theorem FindZ.uniq {l : List Ep} {id : ByteArray} {a b : Int} (h : FindZ l id a) (h' : FindZ l id b) : a = b := by
  rcases h with ⟨rfl, h1⟩ | ⟨k, rfl, hk, h1, h2⟩
  · rcases h' with ⟨rfl, _⟩ | ⟨j, rfl, hj, h3, _⟩
    · rfl
    · exact absurd h3 (h1 j hj)
  · rcases h' with ⟨rfl, h3⟩ | ⟨j, rfl, hj, h3, h4⟩
    · exact absurd h1 (h3 k hk)
    · rcases Nat.lt_trichotomy k j with h5 | h5 | h5
      · exact absurd h1 (h4 k h5)
      · rw [h5]
      · exact absurd h3 (h2 j h5)
section
variable {w : World}
end

end Go.Proofs.YtcdpmgdocgddcaaDoor
