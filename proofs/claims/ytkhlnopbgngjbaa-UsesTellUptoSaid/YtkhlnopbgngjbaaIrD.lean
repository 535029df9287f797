/- ir.Fresh's closure. No condition. -/
import Derived.Test.YtkhlnopbgngjbaaIrC
import Derived.Test.YtkhlnopbgngjbaaMaps
namespace Go.Proofs.Ytkhlnopbgngjbaa
open Go.RowKit

end Go.Proofs.Ytkhlnopbgngjbaa
