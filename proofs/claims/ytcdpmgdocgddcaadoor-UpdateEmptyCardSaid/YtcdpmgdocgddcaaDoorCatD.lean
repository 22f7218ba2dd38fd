/- slices.Delete of one entry. -/
import Derived.Test.YtcdpmgdocgddcaaDoorSlc
import Derived.Test.YtcdpmgdocgddcaaDoorMem
import Derived.Test.YtcdpmgdocgddcaaDoorCatE
namespace Go.Proofs.YtcdpmgdocgddcaaDoor
open Go.RowKit
set_option maxRecDepth 100000

section
variable {w : World}
end

end Go.Proofs.YtcdpmgdocgddcaaDoor
