/- The walk of the law's example: bytes come out of a key. No condition. -/
import Derived.Test.YtficbedibjgoeaaDoorRefExpand
import Derived.Lib.SlBytesConst
import Derived.Lib.SmallJoins
namespace Go.Proofs.YtficbedibjgoeaaDoor
open Go.RowKit
end Go.Proofs.YtficbedibjgoeaaDoor

