/- Two closed facts of the program. -/
import Derived.Test.YtikbjaopcminaaaDoorMem
import Derived.ProofKit
import Derived.OpenShut
import Derived.SizedLaws
namespace Go.Proofs.YtikbjaopcminaaaDoor
open Go.RowKit
theorem ownK : ownKnob Tryd.prog.godebug = none := by kernel_rfl
theorem laidK : laidOutB Tryd.prog = true := by kernel_rfl
theorem later {w w' : World} {a : Addr} {v : Value} (hE : Ext w w') (h : w.cell? a = some v) : w'.cell? a = some v :=
  (Below.cell hE (World.block_lt_of_cell? w _ h)).trans h
end Go.Proofs.YtikbjaopcminaaaDoor
