/- ir.Def's closure. No condition. -/
import Derived.Test.YtkhlnopbgngjbaaIrC
namespace Go.Proofs.Ytkhlnopbgngjbaa
open Go.RowKit

abbrev Is2 (N M : Nat) : Nat → Prop := fun k => k = N ∨ k = M

/-- what ir.Def answers: where the register is made first, if it is -/
def DefPost (f : Fun) (reg : Int) (w : World) (e : Ending) (w' : World) : Prop :=
  ∃ (i j : Nat) (fd : Bool), e = .returned (.tuple #[.agg #[.int .i64 0, .int .i64 i, .int .i64 j], .bool fd]) ∧ Below w.heap.size w w' ∧
      (fd = true → IsDef f.blocks reg i j) ∧ (fd = false → i = 0 ∧ j = 0 ∧ noDef f.blocks.flatten reg)

/-- ir.each's invariant for Def: nothing found so far; or it has stopped at the first -/
def DefInv (f : Fun) (reg : Int) (N M : Nat) (i j : Nat) (w : World) : Prop :=
  w.heap[N]? = some (.cells #[.int .i64 0, .int .i64 0, .int .i64 0] 84 (0, 0)) ∧ w.heap[M]? = some (.cells #[.bool false] 4 (0, 0)) ∧ noDef (before f.blocks i j) reg
def DefStop (f : Fun) (reg : Int) (N M : Nat) (w : World) : Prop :=
  ∃ i j : Nat, w.heap[N]? = some (.cells #[.int .i64 0, .int .i64 i, .int .i64 j] 84 (0, 0)) ∧ w.heap[M]? = some (.cells #[.bool true] 4 (0, 0)) ∧ IsDef f.blocks reg i j

end Go.Proofs.Ytkhlnopbgngjbaa
