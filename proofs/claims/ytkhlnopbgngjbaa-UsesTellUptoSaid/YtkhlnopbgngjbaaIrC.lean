/- ir.Uses and its closure. No condition. -/
import Derived.Test.YtkhlnopbgngjbaaIrB
namespace Go.Proofs.Ytkhlnopbgngjbaa
open Go.RowKit

abbrev Is (N : Nat) : Nat → Prop := fun k => k = N

end Go.Proofs.Ytkhlnopbgngjbaa
