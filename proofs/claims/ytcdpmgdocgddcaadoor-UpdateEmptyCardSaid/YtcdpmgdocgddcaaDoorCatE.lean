/- What the table says of slices of strings, fields, entries. -/
import Derived.Test.YtcdpmgdocgddcaaDoorCatV
import Derived.Test.YtcdpmgdocgddcaaDoorSlc
namespace Go.Proofs.YtcdpmgdocgddcaaDoor
open Go.RowKit
set_option maxRecDepth 100000
theorem einfo_ss : EInfo 22 9 1 16 := EInfo.mk_ (z := .string ⟨#[]⟩) Tryd.underlying22 (by kernel_rfl) rfl (by omega) (by omega)
theorem einfo_fd : EInfo 23 42 2 32 := EInfo.mk_ (z := .agg #[.string ⟨#[]⟩, .string ⟨#[]⟩]) Tryd.underlying23 (by kernel_rfl) rfl (by omega) (by omega)
def ent0 : Ent := ⟨⟨⟨#[]⟩, ⟨#[]⟩, ⟨#[]⟩, [], [], 0, []⟩, ⟨none, 0, 0⟩, ⟨none, 0, 0⟩, ⟨none, 0, 0⟩⟩
theorem einfo_ent : EInfo 24 35 7 128 := EInfo.mk_ (z := entV ent0) Tryd.underlying24 (by kernel_rfl) rfl (by omega) (by omega)
theorem zok_of {e : TypeId} {z0 : Value} (h : (Tryd.prog.info? e).map (·.zero) = some (some z0)) (h1 : z0.cells.toList.all (·.oneCell') = true) : ∀ i z, Tryd.prog.info? e = some i → i.zero = some z → ∀ u ∈ z.cells.toList, u.oneCell' = true := fun i z hi hz u hu => by
  rw [hi] at h
  simp only [Option.map_some, Option.some.injEq] at h
  rw [h] at hz
  injection hz with hz
  subst hz
  exact List.all_eq_true.1 h1 u hu
theorem zok_fd : ∀ i z, Tryd.prog.info? 42 = some i → i.zero = some z → ∀ u ∈ z.cells.toList, u.oneCell' = true := zok_of (z0 := .agg #[.string ⟨#[]⟩, .string ⟨#[]⟩]) (by kernel_rfl) (by decide)
theorem zok_ent : ∀ i z, Tryd.prog.info? 35 = some i → i.zero = some z → ∀ u ∈ z.cells.toList, u.oneCell' = true := zok_of (z0 := entV ent0) (by kernel_rfl) (by decide)
end Go.Proofs.YtcdpmgdocgddcaaDoor
