/-
  DERIVED: THE SHELF's CONTRACTS AT THIS DUMP, IN PLAIN WORDS (tools/lay-plain.mjs out of 'YtdgppdiickmofaaGreatDoorLaySlsrc.lean', which tools/lay-shelf.mjs wrote): THE SAME DECLARATIONS UNDER THE SAME NAMES: 'import', 'namespace', 'open', 'def', 'theorem' AND NOTHING ELSE: no command of the shelf's: FOR A HAND-IN. Each laying: the table of numbers ('.._ren') and one theorem, a field a fact of the dump's own or the kernel's comparison; each contract: ONE APPLICATION.
-/
import Derived.Ground.SlgnProg
import Derived.Shelf.SlicesG.CompactS
import Derived.Shelf.SlicesG.Equal
import Derived.Shelf.SortG.Plain
import Derived.Shelf.SortG.SortNone
import Derived.Shelf.SlicesE.Clone
import Derived.Test.YtdgppdiickmofaaGreatDoorProg
namespace Go.Proofs
open Go.Shelf
def Tryz.eqS_ren : Go.Shelf.Ren := ⟨fun | 34 => 76 | n => n, fun | 25 => 27 | 26 => 9 | 4 => 4 | 3 => 3 | 0 => 0 | n => n, fun | n => n⟩
theorem Tryz.eqS : Go.Proofs.SlLaysN.n34 Tryz.prog Tryz.eqS_ren := {
  mixed := by kernel_rfl
  f34 := ⟨Tryz.f76.name, by decide, Tryz.func76.trans (congrArg some (by kernel_rfl))⟩
  t0 := Tryz.underlying0
  a0 := Tryz.isAgg0
  z0 := Tryz.sizeOf0
  v0 := Tryz.zeroValue0
  t3 := Tryz.underlying3
  a3 := Tryz.isAgg3
  z3 := Tryz.sizeOf3
  v3 := Tryz.zeroValue3
  t4 := Tryz.underlying4
  a4 := Tryz.isAgg4
  z4 := Tryz.sizeOf4
  v4 := Tryz.zeroValue4
  t25 := Tryz.underlying27
  a25 := Tryz.isAgg27
  z25 := Tryz.sizeOf27
  v25 := Tryz.zeroValue27
  t26 := Tryz.underlying9
  a26 := Tryz.isAgg9
  z26 := Tryz.sizeOf9
  v26 := Tryz.zeroValue9 }
def Tryz.compS_ren : Go.Shelf.Ren := ⟨fun | 44 => 96 | n => n, fun | 25 => 27 | 26 => 9 | 3 => 3 | 4 => 4 | 0 => 0 | n => n, fun | n => n⟩
theorem Tryz.compS : Go.Proofs.SlLaysN.n44 Tryz.prog Tryz.compS_ren := {
  mixed := by kernel_rfl
  f44 := ⟨Tryz.f96.name, by decide, Tryz.func96.trans (congrArg some (by kernel_rfl))⟩
  t0 := Tryz.underlying0
  a0 := Tryz.isAgg0
  z0 := Tryz.sizeOf0
  v0 := Tryz.zeroValue0
  t3 := Tryz.underlying3
  a3 := Tryz.isAgg3
  z3 := Tryz.sizeOf3
  v3 := Tryz.zeroValue3
  t4 := Tryz.underlying4
  a4 := Tryz.isAgg4
  z4 := Tryz.sizeOf4
  v4 := Tryz.zeroValue4
  t25 := Tryz.underlying27
  a25 := Tryz.isAgg27
  z25 := Tryz.sizeOf27
  v25 := Tryz.zeroValue27
  t26 := Tryz.underlying9
  a26 := Tryz.isAgg9
  z26 := Tryz.sizeOf9
  v26 := Tryz.zeroValue9
  i26 := by kernel_rfl }
def Tryz.sortS_ren : Go.Shelf.Ren := ⟨fun | 54 => 95 | 64 => 83 | 65 => 143 | 78 => 118 | 79 => 119 | 80 => 170 | 81 => 171 | 82 => 172 | 83 => 173 | 84 => 174 | 85 => 175 | 61 => 176 | 86 => 177 | 87 => 178 | 93 => 200 | 89 => 153 | 90 => 154 | 94 => 201 | 95 => 202 | 69 => 59 | 97 => 213 | n => n, fun | 25 => 27 | 26 => 9 | 3 => 3 | 51 => 156 | 0 => 0 | 67 => 186 | 69 => 188 | 4 => 4 | 61 => 179 | 60 => 178 | 44 => 183 | 5 => 5 | 9 => 9 | 75 => 213 | 79 => 217 | 83 => 247 | 84 => 248 | n => n, fun | n => n⟩
theorem Tryz.sortS : Go.Proofs.SlLaysN.n54 Tryz.prog Tryz.sortS_ren := {
  mixed := by kernel_rfl
  f54 := ⟨Tryz.f95.name, by decide, Tryz.func95.trans (congrArg some (by kernel_rfl))⟩
  f61 := ⟨Tryz.f176.name, by decide, Tryz.func176.trans (congrArg some (by kernel_rfl))⟩
  f64 := Tryz.func83.trans (congrArg some (by kernel_rfl))
  f65 := ⟨Tryz.f143.name, by decide, Tryz.func143.trans (congrArg some (by kernel_rfl))⟩
  f69 := ⟨Tryz.f59.name, by decide, Tryz.func59.trans (congrArg some (by kernel_rfl))⟩
  f78 := Tryz.func118.trans (congrArg some (by kernel_rfl))
  f79 := Tryz.func119.trans (congrArg some (by kernel_rfl))
  f80 := ⟨Tryz.f170.name, by decide, Tryz.func170.trans (congrArg some (by kernel_rfl))⟩
  f81 := ⟨Tryz.f171.name, by decide, Tryz.func171.trans (congrArg some (by kernel_rfl))⟩
  f82 := ⟨Tryz.f172.name, by decide, Tryz.func172.trans (congrArg some (by kernel_rfl))⟩
  f83 := ⟨Tryz.f173.name, by decide, Tryz.func173.trans (congrArg some (by kernel_rfl))⟩
  f84 := ⟨Tryz.f174.name, by decide, Tryz.func174.trans (congrArg some (by kernel_rfl))⟩
  f85 := ⟨Tryz.f175.name, by decide, Tryz.func175.trans (congrArg some (by kernel_rfl))⟩
  f86 := ⟨Tryz.f177.name, by decide, Tryz.func177.trans (congrArg some (by kernel_rfl))⟩
  f87 := ⟨Tryz.f178.name, by decide, Tryz.func178.trans (congrArg some (by kernel_rfl))⟩
  f89 := Tryz.func153.trans (congrArg some (by kernel_rfl))
  f90 := Tryz.func154.trans (congrArg some (by kernel_rfl))
  f93 := ⟨Tryz.f200.name, by decide, Tryz.func200.trans (congrArg some (by kernel_rfl))⟩
  f94 := ⟨Tryz.f201.name, by decide, Tryz.func201.trans (congrArg some (by kernel_rfl))⟩
  f95 := ⟨Tryz.f202.name, by decide, Tryz.func202.trans (congrArg some (by kernel_rfl))⟩
  f97 := ⟨Tryz.f213.name, by decide, Tryz.func213.trans (congrArg some (by kernel_rfl))⟩
  t0 := Tryz.underlying0
  a0 := Tryz.isAgg0
  z0 := Tryz.sizeOf0
  v0 := Tryz.zeroValue0
  t3 := Tryz.underlying3
  a3 := Tryz.isAgg3
  z3 := Tryz.sizeOf3
  v3 := Tryz.zeroValue3
  t4 := Tryz.underlying4
  a4 := Tryz.isAgg4
  z4 := Tryz.sizeOf4
  v4 := Tryz.zeroValue4
  t5 := Tryz.underlying5
  a5 := Tryz.isAgg5
  z5 := Tryz.sizeOf5
  v5 := Tryz.zeroValue5
  t9 := Tryz.underlying9
  a9 := Tryz.isAgg9
  z9 := Tryz.sizeOf9
  v9 := Tryz.zeroValue9
  t25 := Tryz.underlying27
  a25 := Tryz.isAgg27
  z25 := Tryz.sizeOf27
  v25 := Tryz.zeroValue27
  t26 := Tryz.underlying9
  a26 := Tryz.isAgg9
  z26 := Tryz.sizeOf9
  v26 := Tryz.zeroValue9
  t44 := Tryz.underlying183
  a44 := Tryz.isAgg183
  z44 := Tryz.sizeOf183
  v44 := Tryz.zeroValue183
  t51 := Tryz.underlying156
  a51 := Tryz.isAgg156
  z51 := Tryz.sizeOf156
  v51 := Tryz.zeroValue156
  t60 := Tryz.underlying178
  a60 := Tryz.isAgg178
  z60 := Tryz.sizeOf178
  v60 := Tryz.zeroValue178
  t61 := Tryz.underlying179
  a61 := Tryz.isAgg179
  z61 := Tryz.sizeOf179
  v61 := Tryz.zeroValue179
  t67 := Tryz.underlying186
  a67 := Tryz.isAgg186
  z67 := Tryz.sizeOf186
  v67 := Tryz.zeroValue186
  t69 := Tryz.underlying188
  a69 := Tryz.isAgg188
  z69 := Tryz.sizeOf188
  v69 := Tryz.zeroValue188
  t75 := Tryz.underlying213
  a75 := Tryz.isAgg213
  z75 := Tryz.sizeOf213
  v75 := Tryz.zeroValue213
  t79 := Tryz.underlying217
  a79 := Tryz.isAgg217
  z79 := Tryz.sizeOf217
  v79 := Tryz.zeroValue217
  t83 := Tryz.underlying247
  a83 := Tryz.isAgg247
  z83 := Tryz.sizeOf247
  v83 := Tryz.zeroValue247
  t84 := Tryz.underlying248
  a84 := Tryz.isAgg248
  z84 := Tryz.sizeOf248
  v84 := Tryz.zeroValue248 }
def Tryz.cloneS_ren : Go.Shelf.Ren := ⟨fun | 41 => 56 | n => n, fun | 22 => 27 | 23 => 9 | 4 => 4 | n => n, fun | n => n⟩
theorem Tryz.cloneS : Go.Proofs.SlLaysE0.n41 Tryz.prog Tryz.cloneS_ren := {
  mixed := by kernel_rfl
  f41 := ⟨Tryz.f56.name, by decide, Tryz.func56.trans (congrArg some (by kernel_rfl))⟩
  t4 := Tryz.underlying4
  a4 := Tryz.isAgg4
  z4 := Tryz.sizeOf4
  v4 := Tryz.zeroValue4
  t22 := Tryz.underlying27
  a22 := Tryz.isAgg27
  z22 := Tryz.sizeOf27
  v22 := Tryz.zeroValue27 }
end Go.Proofs
