/-
  DERIVED: THE SHELF's CONTRACTS AT THIS DUMP, IN PLAIN WORDS (tools/lay-plain.mjs out of 'YthmeobjomidkoaaDoorLayClonesrc.lean', which tools/lay-shelf.mjs wrote): THE SAME DECLARATIONS UNDER THE SAME NAMES: 'import', 'namespace', 'open', 'def', 'theorem' AND NOTHING ELSE: no command of the shelf's: FOR A HAND-IN. Each laying: the table of numbers ('.._ren') and one theorem, a field a fact of the dump's own or the kernel's comparison; each contract: ONE APPLICATION.
-/
import Derived.Ground.SlmcProg
import Derived.Shelf.SlMaps.Clone
import Derived.Test.YthmeobjomidkoaaDoorProg
namespace Go.Proofs
open Go.Shelf
def Tryd.cloneM_ren : Go.Shelf.Ren := ⟨fun | 5 => 38 | 7 => 47 | n => n, fun | 23 => 58 | 25 => 61 | 3 => 35 | 4 => 4 | 20 => 20 | n => n, fun | n => n⟩
theorem Tryd.cloneM : Go.Proofs.SlLaysW.n5 Tryd.prog Tryd.cloneM_ren := {
  mixed := by kernel_rfl
  f5 := ⟨Tryd.f38.name, by decide, Tryd.func38.trans (congrArg some (by kernel_rfl))⟩
  f7 := Tryd.func47.trans (congrArg some (by kernel_rfl))
  t4 := Tryd.underlying4
  a4 := Tryd.isAgg4
  z4 := Tryd.sizeOf4
  v4 := Tryd.zeroValue4
  t20 := Tryd.underlying20
  a20 := Tryd.isAgg20
  z20 := Tryd.sizeOf20
  v20 := Tryd.zeroValue20
  t23 := Tryd.underlying58
  a23 := Tryd.isAgg58
  z23 := Tryd.sizeOf58
  v23 := Tryd.zeroValue58 }
end Go.Proofs
