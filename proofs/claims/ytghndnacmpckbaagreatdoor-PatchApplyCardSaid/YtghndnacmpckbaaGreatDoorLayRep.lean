/-
  DERIVED: THE SHELF's CONTRACTS AT THIS DUMP, IN PLAIN WORDS (tools/lay-plain.mjs out of 'YtghndnacmpckbaaGreatDoorLayRepsrc.lean', which tools/lay-shelf.mjs wrote): THE SAME DECLARATIONS UNDER THE SAME NAMES: 'import', 'namespace', 'open', 'def', 'theorem' AND NOTHING ELSE: no command of the shelf's: FOR A HAND-IN. Each laying: the table of numbers ('.._ren') and one theorem, a field a fact of the dump's own or the kernel's comparison; each contract: ONE APPLICATION.
-/
import Derived.Ground.NamesProg
import Derived.Shelf.Strings.Repeat
import Derived.Test.YtghndnacmpckbaaGreatDoorProg
namespace Go.Proofs
open Go.Shelf
def Tryz.laysRepeat_ren : Go.Shelf.Ren := ⟨fun | 105 => 58 | 212 => 64 | 99 => 65 | 165 => 66 | 166 => 67 | 170 => 68 | 169 => 69 | 263 => 80 | 264 => 81 | 206 => 82 | 240 => 83 | 241 => 84 | 276 => 93 | 277 => 94 | n => n, fun | 9 => 9 | 3 => 3 | 4 => 4 | 20 => 20 | 0 => 0 | 46 => 78 | 109 => 99 | 5 => 5 | 72 => 104 | 76 => 105 | 51 => 119 | 146 => 120 | 53 => 32 | 148 => 122 | 70 => 102 | 37 => 22 | 75 => 87 | 127 => 124 | 164 => 135 | 80 => 66 | n => n, fun | n => n⟩
theorem Tryz.laysRepeat : Go.Proofs.Lays.n105 Tryz.prog Tryz.laysRepeat_ren := {
  mixed := by kernel_rfl
  f99 := Tryz.func65.trans (congrArg some (by kernel_rfl))
  f105 := Tryz.func58.trans (congrArg some (by kernel_rfl))
  f165 := Tryz.func66.trans (congrArg some (by kernel_rfl))
  f166 := Tryz.func67.trans (congrArg some (by kernel_rfl))
  f169 := Tryz.func69.trans (congrArg some (by kernel_rfl))
  f170 := Tryz.func68.trans (congrArg some (by kernel_rfl))
  f206 := Tryz.func82.trans (congrArg some (by kernel_rfl))
  f212 := Tryz.func64.trans (congrArg some (by kernel_rfl))
  f240 := Tryz.func83.trans (congrArg some (by kernel_rfl))
  f241 := Tryz.func84.trans (congrArg some (by kernel_rfl))
  f263 := Tryz.func80.trans (congrArg some (by kernel_rfl))
  f264 := Tryz.func81.trans (congrArg some (by kernel_rfl))
  f276 := Tryz.func93.trans (congrArg some (by kernel_rfl))
  f277 := Tryz.func94.trans (congrArg some (by kernel_rfl))
  t0 := Tryz.underlying0
  a0 := Tryz.isAgg0
  z0 := Tryz.sizeOf0
  v0 := Tryz.zeroValue0
  t3 := Tryz.underlying3
  a3 := Tryz.isAgg3
  z3 := Tryz.sizeOf3
  v3 := Tryz.zeroValue3
  t4 := Tryz.underlying4
  a4 := Tryz.isAgg4
  z4 := Tryz.sizeOf4
  v4 := Tryz.zeroValue4
  t5 := Tryz.underlying5
  a5 := Tryz.isAgg5
  z5 := Tryz.sizeOf5
  v5 := Tryz.zeroValue5
  t9 := Tryz.underlying9
  a9 := Tryz.isAgg9
  z9 := Tryz.sizeOf9
  v9 := Tryz.zeroValue9
  t20 := Tryz.underlying20
  a20 := Tryz.isAgg20
  z20 := Tryz.sizeOf20
  v20 := Tryz.zeroValue20
  t37 := Tryz.underlying22
  a37 := Tryz.isAgg22
  z37 := Tryz.sizeOf22
  v37 := Tryz.zeroValue22
  t46 := Tryz.underlying78
  a46 := Tryz.isAgg78
  z46 := Tryz.sizeOf78
  v46 := Tryz.zeroValue78
  t51 := Tryz.underlying119
  a51 := Tryz.isAgg119
  z51 := Tryz.sizeOf119
  v51 := Tryz.zeroValue119
  t53 := Tryz.underlying32
  a53 := Tryz.isAgg32
  z53 := Tryz.sizeOf32
  v53 := Tryz.zeroValue32
  t70 := Tryz.underlying102
  a70 := Tryz.isAgg102
  z70 := Tryz.sizeOf102
  v70 := Tryz.zeroValue102
  t72 := Tryz.underlying104
  a72 := Tryz.isAgg104
  z72 := Tryz.sizeOf104
  v72 := Tryz.zeroValue104
  t75 := Tryz.underlying87
  a75 := Tryz.isAgg87
  z75 := Tryz.sizeOf87
  v75 := Tryz.zeroValue87
  t76 := Tryz.underlying105
  a76 := Tryz.isAgg105
  z76 := Tryz.sizeOf105
  v76 := Tryz.zeroValue105
  t109 := Tryz.underlying99
  a109 := Tryz.isAgg99
  z109 := Tryz.sizeOf99
  v109 := Tryz.zeroValue99
  t127 := Tryz.underlying124
  a127 := Tryz.isAgg124
  z127 := Tryz.sizeOf124
  v127 := Tryz.zeroValue124
  t146 := Tryz.underlying120
  a146 := Tryz.isAgg120
  z146 := Tryz.sizeOf120
  v146 := Tryz.zeroValue120
  t148 := Tryz.underlying122
  a148 := Tryz.isAgg122
  z148 := Tryz.sizeOf122
  v148 := Tryz.zeroValue122
  t164 := Tryz.underlying135
  a164 := Tryz.isAgg135
  z164 := Tryz.sizeOf135
  v164 := Tryz.zeroValue135 }
end Go.Proofs
