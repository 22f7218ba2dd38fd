/-
  DERIVED: THE SHELF's CONTRACTS AT THIS DUMP, IN PLAIN WORDS (tools/lay-plain.mjs out of 'YtdgppdiickmofaaGreatDoorLayZsrc.lean', which tools/lay-shelf.mjs wrote): THE SAME DECLARATIONS UNDER THE SAME NAMES: 'import', 'namespace', 'open', 'def', 'theorem' AND NOTHING ELSE: no command of the shelf's: FOR A HAND-IN. Each laying: the table of numbers ('.._ren') and one theorem, a field a fact of the dump's own or the kernel's comparison; each contract: ONE APPLICATION.
-/
import Derived.Ground.GgzProg
import Derived.Shelf.SlIter.Sorted
import Derived.Shelf.SlIter.Keys
import Derived.Test.YtdgppdiickmofaaGreatDoorProg
namespace Go.Proofs
open Go.Shelf
def Tryz.sortedZ_ren : Go.Shelf.Ren := ⟨fun | 6 => 148 | 8 => 181 | 9 => 95 | 11 => 203 | 13 => 83 | 12 => 143 | 23 => 118 | 24 => 119 | 14 => 170 | 15 => 171 | 16 => 172 | 17 => 173 | 18 => 174 | 19 => 175 | 20 => 176 | 21 => 177 | 22 => 178 | 25 => 200 | 26 => 153 | 27 => 154 | 28 => 201 | 29 => 202 | 30 => 59 | 31 => 213 | n => n, fun | 26 => 9 | 28 => 210 | 24 => 27 | 0 => 0 | 3 => 3 | 37 => 156 | 48 => 186 | 50 => 188 | 4 => 4 | 40 => 179 | 39 => 178 | 45 => 183 | 5 => 5 | 9 => 9 | 51 => 213 | 55 => 217 | 57 => 247 | 58 => 248 | 33 => 128 | n => n, fun | n => n⟩
theorem Tryz.sortedZ : Go.Proofs.SlLaysZ.n6 Tryz.prog Tryz.sortedZ_ren := {
  mixed := by kernel_rfl
  f6 := ⟨Tryz.f148.name, by decide, Tryz.func148.trans (congrArg some (by kernel_rfl))⟩
  f8 := ⟨Tryz.f181.name, by decide, Tryz.func181.trans (congrArg some (by kernel_rfl))⟩
  f11 := ⟨Tryz.f203.name, by decide, Tryz.func203.trans (congrArg some (by kernel_rfl))⟩
  t0 := Tryz.underlying0
  a0 := Tryz.isAgg0
  z0 := Tryz.sizeOf0
  v0 := Tryz.zeroValue0
  t24 := Tryz.underlying27
  a24 := Tryz.isAgg27
  z24 := Tryz.sizeOf27
  v24 := Tryz.zeroValue27
  t26 := Tryz.underlying9
  a26 := Tryz.isAgg9
  z26 := Tryz.sizeOf9
  v26 := Tryz.zeroValue9
  t28 := Tryz.underlying210
  a28 := Tryz.isAgg210
  z28 := Tryz.sizeOf210
  v28 := Tryz.zeroValue210
  i26 := by kernel_rfl }
def Tryz.keysZ_ren : Go.Shelf.Ren := ⟨fun | 7 => 149 | 10 => 182 | n => n, fun | 23 => 125 | 26 => 9 | 3 => 4 | 28 => 210 | 0 => 0 | 27 => 209 | 33 => 128 | 4 => 4 | n => n, fun | n => n⟩
theorem Tryz.keysZ : Go.Proofs.SlLaysZ.n7 Tryz.prog Tryz.keysZ_ren := {
  mixed := by kernel_rfl
  f7 := ⟨Tryz.f149.name, by decide, Tryz.func149.trans (congrArg some (by kernel_rfl))⟩
  f10 := ⟨Tryz.f182.name, by decide, Tryz.func182.trans (congrArg some (by kernel_rfl))⟩
  t0 := Tryz.underlying0
  a0 := Tryz.isAgg0
  z0 := Tryz.sizeOf0
  v0 := Tryz.zeroValue0
  t4 := Tryz.underlying4
  a4 := Tryz.isAgg4
  z4 := Tryz.sizeOf4
  v4 := Tryz.zeroValue4
  t23 := Tryz.underlying125
  a23 := Tryz.isAgg125
  z23 := Tryz.sizeOf125
  v23 := Tryz.zeroValue125
  t26 := Tryz.underlying9
  a26 := Tryz.isAgg9
  z26 := Tryz.sizeOf9
  v26 := Tryz.zeroValue9
  t27 := Tryz.underlying209
  a27 := Tryz.isAgg209
  z27 := Tryz.sizeOf209
  v27 := Tryz.zeroValue209
  t28 := Tryz.underlying210
  a28 := Tryz.isAgg210
  z28 := Tryz.sizeOf210
  v28 := Tryz.zeroValue210
  t33 := Tryz.underlying128
  a33 := Tryz.isAgg128
  z33 := Tryz.sizeOf128
  v33 := Tryz.zeroValue128 }
def Tryz.keys1Z_ren : Go.Shelf.Ren := ⟨fun | 10 => 182 | n => n, fun | 33 => 128 | 23 => 125 | 0 => 0 | 4 => 4 | 26 => 9 | 3 => 4 | n => n, fun | n => n⟩
theorem Tryz.keys1Z : Go.Proofs.SlLaysZ.n10 Tryz.prog Tryz.keys1Z_ren := {
  mixed := by kernel_rfl
  f10 := ⟨Tryz.f182.name, by decide, Tryz.func182.trans (congrArg some (by kernel_rfl))⟩
  t0 := Tryz.underlying0
  a0 := Tryz.isAgg0
  z0 := Tryz.sizeOf0
  v0 := Tryz.zeroValue0
  t4 := Tryz.underlying4
  a4 := Tryz.isAgg4
  z4 := Tryz.sizeOf4
  v4 := Tryz.zeroValue4
  t23 := Tryz.underlying125
  a23 := Tryz.isAgg125
  z23 := Tryz.sizeOf125
  v23 := Tryz.zeroValue125
  t26 := Tryz.underlying9
  a26 := Tryz.isAgg9
  z26 := Tryz.sizeOf9
  v26 := Tryz.zeroValue9
  t33 := Tryz.underlying128
  a33 := Tryz.isAgg128
  z33 := Tryz.sizeOf128
  v33 := Tryz.zeroValue128 }
end Go.Proofs
