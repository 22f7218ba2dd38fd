/- strings.Builder of the call's own, as a list of bytes. -/
import Derived.Test.YtkicjbmljbfojaaDoorEscA
import Derived.Lib.Builder
namespace Go.Proofs.YtkicjbmljbfojaaDoor
open Go.RowKit Go.Shelf Go.Sort Go.Lib
set_option maxRecDepth 100000

/-- The builder in block b holds l; its memory was made from block B on. -/
def Bld (w : World) (B b : Nat) (l : List UInt8) : Prop := Lib.IsBuilder 36 5 B b (l.map bv) w
section
variable {w w' : World} {B b : Nat} {l : List UInt8}
theorem Bld.new (w : World) : Bld (w.alloc (.cells #[.pointer none, .slice none 0 0] 36)) w.heap.size w.heap.size [] := Lib.fresh_isBuilder _ _ w
theorem bldAt_ext {p : Value} {bs : List Value} (h : Lib.BuilderAt 36 5 B b p bs w) (hE : Ext w w') : Lib.BuilderAt 36 5 B b p bs w' := by
  have hlt := h.lt
  obtain ⟨hB, v, hb, ho, hn⟩ := h
  refine ⟨hB, v, (hE.block b hlt).trans hb, World.ownsRow.kept ho (hE.grownBy none) ?_, hn⟩
  cases hv : v.ownBlock <;> simp
theorem Bld.ext (h : Bld w B b l) (hE : Ext w w') : Bld w' B b l := by
  rcases h with h | h
  · exact .inl (bldAt_ext h hE)
  · exact .inr (bldAt_ext h hE)
theorem Bld.lt (h : Bld w B b l) : b < w.heap.size := by
  rcases h with h | h
  · exact h.lt
  · exact h.lt
theorem Bld.ge (h : Bld w B b l) : B ≤ b := by
  rcases h with h | h
  · exact h.1
  · exact h.1
theorem wstr_any (s : ByteArray) (h : Bld w B b l) (hl : l.length + s.size ≤ 140737488355328) (hB : B ≤ w.heap.size) :
    Calls Tryd.prog 20 #[.pointer (some ⟨b, 0, none⟩), .string s] w fun e w' => e = .returned (.tuple #[.int .i64 s.size, .nilIface]) ∧ Bld w' B b (l ++ bys s) ∧ Below B w w' := by
  have h1 := Any.Builder_WriteString Tryd.laysWS extraB B b (l.map bv) s w h (by simpa using hl) hB
  change Calls Tryd.prog 20 _ _ _ at h1
  refine h1.mono ?_
  rintro e w' ⟨he, h2, h3⟩
  refine ⟨he, .inr ?_, h3⟩
  rw [List.map_append]
  exact h2
theorem wbyte_any (c : Nat) (hc : c < 256) (h : Bld w B b l) (hl : l.length + 1 ≤ 140737488355328) (hB : B ≤ w.heap.size) :
    Calls Tryd.prog 28 #[.pointer (some ⟨b, 0, none⟩), .int .u8 (c : Int)] w fun e w' => e = .returned .nilIface ∧ Bld w' B b (l ++ [by_ c]) ∧ Below B w w' := by
  have h1 := Any.Builder_WriteByte Tryd.laysWB extraB B b (l.map bv) (c : Int) w h (by simpa using hl) hB
  change Calls Tryd.prog 28 _ _ _ at h1
  refine h1.mono ?_
  rintro e w' ⟨he, h2, h3⟩
  refine ⟨he, .inr ?_, h3⟩
  rw [List.map_append]
  have e1 : bv (by_ c) = .int .u8 (c : Int) := by unfold bv by_; rw [UInt8.toNat_ofNat', Nat.mod_eq_of_lt hc]
  rw [List.map_cons, List.map_nil, e1]
  exact h2
theorem bstr_any (h : Bld w B b l) (hB : B ≤ w.heap.size) :
    Calls Tryd.prog 23 #[.pointer (some ⟨b, 0, none⟩)] w fun e w' => e = .returned (.string (str l)) ∧ Below B w w' := by
  have h1 := Any.Builder_String_any Tryd.laysBS extraB B b l w h hB
  change Calls Tryd.prog 23 _ _ _ at h1
  exact h1
end

end Go.Proofs.YtkicjbmljbfojaaDoor
