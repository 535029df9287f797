/- The bounds of Go's own integers, out of the row's form. No condition. -/
import Derived.Test.YtamjcafjdioidaaOpen
namespace Go.Proofs.Ytamjcafjdioidaa
open Go.RowKit

theorem i64_of {n : Int} (h : (Lit.int .i64 n).wf = true) : -9223372036854775808 ≤ n ∧ n ≤ 9223372036854775807 := by
  have h' : -9223372036854775808 ≤ n ∧ n ≤ 9223372036854775808 - 1 := by simpa [Lit.wf, IntKind.min, IntKind.max, IntKind.bits, IntKind.signed] using h
  omega
theorem u64_of {n : Int} (h : (Lit.int .u64 n).wf = true) : 0 ≤ n ∧ n ≤ 18446744073709551615 := by
  simpa [Lit.wf, IntKind.min, IntKind.max, IntKind.bits, IntKind.signed] using h
end Go.Proofs.Ytamjcafjdioidaa
