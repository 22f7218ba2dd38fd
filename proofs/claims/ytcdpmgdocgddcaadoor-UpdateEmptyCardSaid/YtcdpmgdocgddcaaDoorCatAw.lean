/- The document's example of a catalog. -/
import Derived.Test.YtcdpmgdocgddcaaDoorCatA
namespace Go.Proofs.YtcdpmgdocgddcaaDoor
open Go.RowKit
set_option maxRecDepth 100000

def awkC : Cp := ⟨sDe, [], [], [⟨#[97]⟩, ⟨#[98]⟩, ⟨#[99]⟩].map epOf⟩
theorem awk_find : FindZ awkC.es ⟨#[97]⟩ ((0 : Nat) : Int) := .inr ⟨0, rfl, by decide, rfl, fun j hj => absurd hj (Nat.not_lt_zero _)⟩
theorem awk_rem {c1 : Cp} {code1 : Int} (h : RemR awkC ⟨#[97]⟩ c1 code1) : code1 = 0 ∧ c1.es = [⟨#[98]⟩, ⟨#[99]⟩].map epOf := by
  rcases h with ⟨h, _⟩ | ⟨_, h, _⟩ | ⟨_, k, hk, _, h, rfl⟩
  · rw [show validC awkC = true from awk_valid] at h
    cases h
  · have := awk_find.uniq h
    omega
  · have := awk_find.uniq hk
    obtain rfl : k = 0 := by omega
    exact ⟨h, rfl⟩
theorem awk_mov {c2 : Cp} {code : Int} (h : MovR awkC ⟨#[97]⟩ 2 c2 code) : code = 0 ∧ c2.es.map Ep.id = [⟨#[98]⟩, ⟨#[99]⟩, ⟨#[97]⟩] := by
  obtain ⟨c1, code1, hr, h⟩ := h
  obtain ⟨h0, he⟩ := awk_rem hr
  rcases h with ⟨h, _⟩ | ⟨_, h, _⟩ | ⟨_, a, k, ha, _, hk, hkl, hc, rfl⟩
  · exact absurd h0 h
  · have : awkC.es.length = 3 := rfl
    omega
  · have := awk_find.uniq hk
    obtain rfl : k = 0 := by omega
    obtain rfl : a = 2 := by omega
    refine ⟨hc, ?_⟩
    show List.map Ep.id (c1.es.take 2 ++ _ ++ c1.es.drop 2) = _
    rw [he]
    rfl
attribute [local go_sem] ext_refl_t ext_alloc_t ext_drew_t ext_drewN_t ext_alloc2_t ext_alloc3_t ext_alloc4_t ext_alloc5_t ext_alloc6_t ext_alloc7_t ext_alloc8_t ext_alloc1d_t ext_alloc2d_t ext_alloc3d_t ext_alloc4d_t
section
variable {w : World}
end

end Go.Proofs.YtcdpmgdocgddcaaDoor
