/- latheref02.names, Uses. No condition. -/
import Derived.Test.YtkhlnopbgngjbaaIrN
namespace Go.Proofs.Ytkhlnopbgngjbaa
open Go.RowKit

/-- an instruction's cells in a world, with its operands' slice opened -/
theorem ins_open {w : World} {B : Nat} {x : Ins} {c d : Value} (h : RIns.rep w B [.int .i64 x.op, .int .i64 x.reg, .int .i64 x.ty, .int .i64 x.num, .int .i64 x.flags, c, d] x) : ROpds.rep w B [c] x.args ∧ RInts.rep w B [d] x.to := by
  obtain ⟨c', d', e, ha, hto, _⟩ := h
  cases e
  exact ⟨ha, hto⟩

end Go.Proofs.Ytkhlnopbgngjbaa
