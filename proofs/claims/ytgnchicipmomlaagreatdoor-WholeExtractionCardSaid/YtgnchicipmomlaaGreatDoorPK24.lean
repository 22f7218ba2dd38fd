/- What follows of Put, Remove, Move for the entries; plain. -/
import Derived.Test.YtgnchicipmomlaaGreatDoorPK02
import Derived.Laws.IdiomCopy
import Derived.Test.YtgnchicipmomlaaGreatDoorPK22
import Derived.Test.YtgnchicipmomlaaGreatDoorPK20
import Derived.Test.YtgnchicipmomlaaGreatDoorPK23
namespace Go.Proofs.YtgnchicipmomlaaGreatDoor
set_option maxRecDepth 100000
theorem esOk_iff {l : List Ep} : EsOk l ↔ (∀ x ∈ l, validE x = true) ∧ (l.map Ep.id).Nodup := by
  constructor
  · intro h
    refine ⟨fun x hx => ?_, ?_⟩
    · obtain ⟨i, hi, rfl⟩ := List.getElem_of_mem hx
      exact (h i hi).1
    · rw [List.Nodup, List.pairwise_iff_getElem]
      intro i j hi hj hij
      rw [List.getElem_map, List.getElem_map]
      exact (h j (by simpa using hj)).2 i hij
  · rintro ⟨h1, h2⟩ i hi
    refine ⟨h1 _ (List.getElem_mem hi), fun j hj => ?_⟩
    rw [List.Nodup, List.pairwise_iff_getElem] at h2
    have := h2 j i (by rw [List.length_map]; omega) (by rw [List.length_map]; exact hi) hj
    rwa [List.getElem_map, List.getElem_map] at this
theorem validC_parts {c : Cp} : validC c = true ↔ headP c = true ∧ c.es.length ≤ 1000 ∧ EsOk c.es := by
  unfold validC
  simp only [Bool.and_eq_true, decide_eq_true_eq, and_assoc]
/-- The catalog with other entries. -/
def Cp.w (c : Cp) (l : List Ep) : Cp := ⟨c.tag, c.com, c.fd, l⟩
end Go.Proofs.YtgnchicipmomlaaGreatDoor
