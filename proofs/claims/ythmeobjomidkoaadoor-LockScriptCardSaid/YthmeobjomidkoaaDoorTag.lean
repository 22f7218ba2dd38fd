/- catalog.ValidTag. -/
import Derived.Test.YthmeobjomidkoaaDoorNames
namespace Go.Proofs.YthmeobjomidkoaaDoor
open Go.RowKit
set_option maxRecDepth 100000

end Go.Proofs.YthmeobjomidkoaaDoor
