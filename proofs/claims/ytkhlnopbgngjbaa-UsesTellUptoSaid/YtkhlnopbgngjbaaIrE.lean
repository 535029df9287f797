/- ir.Fresh. No condition. -/
import Derived.Test.YtkhlnopbgngjbaaIrD
namespace Go.Proofs.Ytkhlnopbgngjbaa
open Go.RowKit

end Go.Proofs.Ytkhlnopbgngjbaa
