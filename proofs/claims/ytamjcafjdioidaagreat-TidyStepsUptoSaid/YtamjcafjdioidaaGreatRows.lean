/-
  No cell of these rows narrows 'for every input' (looked for: loops, veiled, ifaces, maps, wideKeys, modest, calm, conditions, laid).
  DERIVED. THE GIVEN ROWS OF THIS SEAT. 3 by the template 'for every input the law returns true; each argument reads behind the call as it read before'; 0 by the template 'total and deterministic' (their statements: YtamjcafjdioidaaGreatTotals.lean).
  GIVEN WITH THE SEED: the statements are not yours to turn. If you find one false, say at which input.
  Laid BY PROGRAM, IN A SANDBOX (cutbox-rows.mjs): the forced cells as the released guide's own fill.sh prints them over the translation 1f520d16460a2b95… (all of the seat's roots in one cut). By AI agents, Wed Nov 11 2026. No macro, syntax, notation, axiom, sorry.
-/
import Derived.Test.YtamjcafjdioidaaGreatChecked
import GoSem.Claim
import GoSem.ClaimJoined
import GoSem.ClaimMapViews
import Derived.JoinedTies
import Derived.KernelRfl
namespace Go.Proofs.YtamjcafjdioidaaGreat
/- THE CELL 'sum', in the pinned program and in every row, IS THE sha256 OF THE DUMP (.gsa) THAT YtamjcafjdioidaaGreatProg.lean LOADS. Nothing in Lean hashes anything: it is a label: what it is worth is what the hold of that sum in a sandbox is worth. -/
noncomputable def Tryz.pinned : Pinned := { name := "ytamjcafjdioidaagreat", sum := "1f520d16460a2b959316bfdf08006044f04004d755006d988cbb871b6d2332b1", checked := Tryz.checked }
namespace Rows
def none {H : Type} : Left H := { results := [], args := [] }

/-- 'lathelaw17.TidySteps': WHATEVER THE INPUT: true; the input reads as it did. -/
def tidyStepsSpec : ChangeSpec := { name := "tidySteps", fn := fun _ => fun
  | [d] => { results := [.lit (.bool true)], args := [d] }
  | _ => none }
def tidyStepsRow : OpenClaim := { program := "ytamjcafjdioidaagreat", sum := "1f520d16460a2b959316bfdf08006044f04004d755006d988cbb871b6d2332b1", func := "lathe/lathelaw17.TidySteps", spec := "tidySteps", inPlace := ["slices.overlaps[int]", "slices.overlaps[lathe/api.Value]"], unfollowed := true, recurses := true, apart := false }
def TidyStepsSaid : Prop := tidyStepsRow.holds Tryz.pinned (OpenSpec.ofChange tidyStepsSpec)

/-- ITS FALSE NEIGHBOUR: 'it returns false'. Refute it at one input. -/
def tidyStepsWrong : ChangeSpec := { name := "tidySteps", fn := fun _ => fun
  | [d] => { results := [.lit (.bool false)], args := [d] }
  | _ => none }
def TidyStepsWrongFalsely : Prop := tidyStepsRow.holds Tryz.pinned (OpenSpec.ofChange tidyStepsWrong)

/-- 'lathelaw17.TidyAll': WHATEVER THE INPUT: true; the input reads as it did. -/
def tidyAllSpec : ChangeSpec := { name := "tidyAll", fn := fun _ => fun
  | [d] => { results := [.lit (.bool true)], args := [d] }
  | _ => none }
def tidyAllRow : OpenClaim := { program := "ytamjcafjdioidaagreat", sum := "1f520d16460a2b959316bfdf08006044f04004d755006d988cbb871b6d2332b1", func := "lathe/lathelaw17.TidyAll", spec := "tidyAll", inPlace := ["slices.overlaps[int]", "slices.overlaps[lathe/api.Value]"], unfollowed := true, recurses := true, apart := false }
def TidyAllSaid : Prop := tidyAllRow.holds Tryz.pinned (OpenSpec.ofChange tidyAllSpec)

/-- ITS FALSE NEIGHBOUR: 'it returns false'. Refute it at one input. -/
def tidyAllWrong : ChangeSpec := { name := "tidyAll", fn := fun _ => fun
  | [d] => { results := [.lit (.bool false)], args := [d] }
  | _ => none }
def TidyAllWrongFalsely : Prop := tidyAllRow.holds Tryz.pinned (OpenSpec.ofChange tidyAllWrong)

/-- 'lathelaw13.LoopsSimple': WHATEVER THE INPUT: true; the input reads as it did. -/
def loopsSimpleSpec : ChangeSpec := { name := "loopsSimple", fn := fun _ => fun
  | [d] => { results := [.lit (.bool true)], args := [d] }
  | _ => none }
def loopsSimpleRow : OpenClaim := { program := "ytamjcafjdioidaagreat", sum := "1f520d16460a2b959316bfdf08006044f04004d755006d988cbb871b6d2332b1", func := "lathe/lathelaw13.LoopsSimple", spec := "loopsSimple", unfollowed := true, recurses := true, apart := false }
def LoopsSimpleSaid : Prop := loopsSimpleRow.holds Tryz.pinned (OpenSpec.ofChange loopsSimpleSpec)

/-- ITS FALSE NEIGHBOUR: 'it returns false'. Refute it at one input. -/
def loopsSimpleWrong : ChangeSpec := { name := "loopsSimple", fn := fun _ => fun
  | [d] => { results := [.lit (.bool false)], args := [d] }
  | _ => none }
def LoopsSimpleWrongFalsely : Prop := loopsSimpleRow.holds Tryz.pinned (OpenSpec.ofChange loopsSimpleWrong)

/- THE SECOND FORM. 'bulk': how many values and letters a reading holds, each counted each time it is reached (what is shared counts as often as it is met; a slice's spare places count too). A statement '..UptoSaid' is the law's where the arguments, and the package variables that the reading takes, are together of bulk at most 1048576: NARROWER than '..Said'. Prove '..Said' where nothing that the law and all that it calls make is longer than what came in: it says more and counts as full. Else prove '..UptoSaid'. A law counts once. -/
mutual
def uptoBulk {H : Type} : DataW H → Nat
  | .lit (.string bytes) => bytes.length + 1
  | .lit _ => 1
  | .nil => 1
  | .ptr d => uptoBulk d + 1
  | .slice elems spare => uptoBulkAll elems + uptoBulkAll spare + 1
  | .agg parts => uptoBulkAll parts + 1
  | .iface _ d => uptoBulk d + 1
  | .map entries => uptoBulkEntries entries + 1
  | .held _ => 1
def uptoBulkAll {H : Type} : List (DataW H) → Nat
  | [] => 0
  | d :: r => uptoBulk d + uptoBulkAll r
def uptoBulkEntries {H : Type} : List (Lit × DataW H) → Nat
  | [] => 0
  | x :: r => uptoBulkEntry x + uptoBulkEntries r
def uptoBulkEntry {H : Type} : Lit × DataW H → Nat
  | (.string bytes, d) => bytes.length + uptoBulk d + 1
  | (_, d) => uptoBulk d + 1
 end
def uptoSmall : (H : Type) → List (DataW H) → Bool := fun _ ds => decide (uptoBulkAll ds ≤ 1048576)
def OpenSpec.upto (s : _root_.Go.ChangeSpec) : _root_.Go.OpenSpec := { _root_.Go.OpenSpec.ofChange s with cond := some uptoSmall }

/-- 'lathelaw17.TidySteps', WHERE WHAT IT READS IS OF BULK AT MOST 1048576: true; the input reads as it did. -/
def tidyStepsUptoRow : OpenClaim := { program := "ytamjcafjdioidaagreat", sum := "1f520d16460a2b959316bfdf08006044f04004d755006d988cbb871b6d2332b1", func := "lathe/lathelaw17.TidySteps", spec := "tidySteps", inPlace := ["slices.overlaps[int]", "slices.overlaps[lathe/api.Value]"], unfollowed := true, recurses := true, apart := false, narrowed := true }
def TidyStepsUptoSaid : Prop := tidyStepsUptoRow.holds Tryz.pinned (OpenSpec.upto tidyStepsSpec)

/-- 'lathelaw17.TidyAll', WHERE WHAT IT READS IS OF BULK AT MOST 1048576: true; the input reads as it did. -/
def tidyAllUptoRow : OpenClaim := { program := "ytamjcafjdioidaagreat", sum := "1f520d16460a2b959316bfdf08006044f04004d755006d988cbb871b6d2332b1", func := "lathe/lathelaw17.TidyAll", spec := "tidyAll", inPlace := ["slices.overlaps[int]", "slices.overlaps[lathe/api.Value]"], unfollowed := true, recurses := true, apart := false, narrowed := true }
def TidyAllUptoSaid : Prop := tidyAllUptoRow.holds Tryz.pinned (OpenSpec.upto tidyAllSpec)

/-- 'lathelaw13.LoopsSimple', WHERE WHAT IT READS IS OF BULK AT MOST 1048576: true; the input reads as it did. -/
def loopsSimpleUptoRow : OpenClaim := { program := "ytamjcafjdioidaagreat", sum := "1f520d16460a2b959316bfdf08006044f04004d755006d988cbb871b6d2332b1", func := "lathe/lathelaw13.LoopsSimple", spec := "loopsSimple", unfollowed := true, recurses := true, apart := false, narrowed := true }
def LoopsSimpleUptoSaid : Prop := loopsSimpleUptoRow.holds Tryz.pinned (OpenSpec.upto loopsSimpleSpec)

end Rows
end Go.Proofs.YtamjcafjdioidaaGreat
