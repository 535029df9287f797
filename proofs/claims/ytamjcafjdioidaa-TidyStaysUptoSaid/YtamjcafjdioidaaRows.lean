/-
  No cell of these rows narrows 'for every input' (looked for: loops, veiled, ifaces, maps, wideKeys, modest, calm, conditions, laid).
  DERIVED. THE GIVEN ROWS OF THIS SEAT. 4 by the template 'for every input the law returns true; each argument reads behind the call as it read before'; 0 by the template 'total and deterministic' (their statements: YtamjcafjdioidaaTotals.lean).
  GIVEN WITH THE SEED: the statements are not yours to turn. If you find one false, say at which input.
  Laid BY PROGRAM, IN A SANDBOX (cutbox-rows.mjs): the forced cells as the released guide's own fill.sh prints them over the translation ff1f8a911b176419… (all of the seat's roots in one cut). By AI agents, Wed Nov 11 2026. No macro, syntax, notation, axiom, sorry.
-/
import Derived.Test.YtamjcafjdioidaaChecked
import GoSem.Claim
import GoSem.ClaimJoined
import GoSem.ClaimMapViews
import Derived.JoinedTies
import Derived.KernelRfl
namespace Go.Proofs.Ytamjcafjdioidaa
/- THE CELL 'sum', in the pinned program and in every row, IS THE sha256 OF THE DUMP (.gsa) THAT YtamjcafjdioidaaProg.lean LOADS. Nothing in Lean hashes anything: it is a label: what it is worth is what the hold of that sum in a sandbox is worth. -/
noncomputable def Try.pinned : Pinned := { name := "ytamjcafjdioidaa", sum := "ff1f8a911b1764191174ec2d9dd832253662087a2c0b72c566dc4587c4325603", checked := Try.checked }
namespace Rows
def none {H : Type} : Left H := { results := [], args := [] }

/-- 'lathelaw18.AliasKin': WHATEVER THE INPUT: true; the input reads as it did. -/
def aliasKinSpec : ChangeSpec := { name := "aliasKin", fn := fun _ => fun
  | [d] => { results := [.lit (.bool true)], args := [d] }
  | _ => none }
def aliasKinRow : OpenClaim := { program := "ytamjcafjdioidaa", sum := "ff1f8a911b1764191174ec2d9dd832253662087a2c0b72c566dc4587c4325603", func := "lathe/lathelaw18.AliasKin", spec := "aliasKin", unfollowed := true, recurses := true, apart := false }
def AliasKinSaid : Prop := aliasKinRow.holds Try.pinned (OpenSpec.ofChange aliasKinSpec)

/-- ITS FALSE NEIGHBOUR: 'it returns false'. Refute it at one input. -/
def aliasKinWrong : ChangeSpec := { name := "aliasKin", fn := fun _ => fun
  | [d] => { results := [.lit (.bool false)], args := [d] }
  | _ => none }
def AliasKinWrongFalsely : Prop := aliasKinRow.holds Try.pinned (OpenSpec.ofChange aliasKinWrong)

/-- 'lathelaw18.AliasShifts': WHATEVER THE INPUT: true; the input reads as it did. -/
def aliasShiftsSpec : ChangeSpec := { name := "aliasShifts", fn := fun _ => fun
  | [d1, d2, d3, d4, d5, d6] => { results := [.lit (.bool true)], args := [d1, d2, d3, d4, d5, d6] }
  | _ => none }
def aliasShiftsRow : OpenClaim := { program := "ytamjcafjdioidaa", sum := "ff1f8a911b1764191174ec2d9dd832253662087a2c0b72c566dc4587c4325603", func := "lathe/lathelaw18.AliasShifts", spec := "aliasShifts", unfollowed := true, recurses := true, apart := false }
def AliasShiftsSaid : Prop := aliasShiftsRow.holds Try.pinned (OpenSpec.ofChange aliasShiftsSpec)

/-- ITS FALSE NEIGHBOUR: 'it returns false'. Refute it at one input. -/
def aliasShiftsWrong : ChangeSpec := { name := "aliasShifts", fn := fun _ => fun
  | [d1, d2, d3, d4, d5, d6] => { results := [.lit (.bool false)], args := [d1, d2, d3, d4, d5, d6] }
  | _ => none }
def AliasShiftsWrongFalsely : Prop := aliasShiftsRow.holds Try.pinned (OpenSpec.ofChange aliasShiftsWrong)

/-- 'lathelaw17.TidyUnseen': WHATEVER THE INPUT: true; the input reads as it did. -/
def tidyUnseenSpec : ChangeSpec := { name := "tidyUnseen", fn := fun _ => fun
  | [d] => { results := [.lit (.bool true)], args := [d] }
  | _ => none }
def tidyUnseenRow : OpenClaim := { program := "ytamjcafjdioidaa", sum := "ff1f8a911b1764191174ec2d9dd832253662087a2c0b72c566dc4587c4325603", func := "lathe/lathelaw17.TidyUnseen", spec := "tidyUnseen", inPlace := ["slices.overlaps[int]", "slices.overlaps[lathe/api.Value]"], unfollowed := true, recurses := true, apart := false }
def TidyUnseenSaid : Prop := tidyUnseenRow.holds Try.pinned (OpenSpec.ofChange tidyUnseenSpec)

/-- ITS FALSE NEIGHBOUR: 'it returns false'. Refute it at one input. -/
def tidyUnseenWrong : ChangeSpec := { name := "tidyUnseen", fn := fun _ => fun
  | [d] => { results := [.lit (.bool false)], args := [d] }
  | _ => none }
def TidyUnseenWrongFalsely : Prop := tidyUnseenRow.holds Try.pinned (OpenSpec.ofChange tidyUnseenWrong)

/-- 'lathelaw17.TidyStays': WHATEVER THE INPUT: true; the input reads as it did. -/
def tidyStaysSpec : ChangeSpec := { name := "tidyStays", fn := fun _ => fun
  | [d] => { results := [.lit (.bool true)], args := [d] }
  | _ => none }
def tidyStaysRow : OpenClaim := { program := "ytamjcafjdioidaa", sum := "ff1f8a911b1764191174ec2d9dd832253662087a2c0b72c566dc4587c4325603", func := "lathe/lathelaw17.TidyStays", spec := "tidyStays", inPlace := ["slices.overlaps[int]", "slices.overlaps[lathe/api.Value]"], unfollowed := true, recurses := true, apart := false }
def TidyStaysSaid : Prop := tidyStaysRow.holds Try.pinned (OpenSpec.ofChange tidyStaysSpec)

/-- ITS FALSE NEIGHBOUR: 'it returns false'. Refute it at one input. -/
def tidyStaysWrong : ChangeSpec := { name := "tidyStays", fn := fun _ => fun
  | [d] => { results := [.lit (.bool false)], args := [d] }
  | _ => none }
def TidyStaysWrongFalsely : Prop := tidyStaysRow.holds Try.pinned (OpenSpec.ofChange tidyStaysWrong)

/- THE SECOND FORM. 'bulk': how many values and letters a reading holds, each counted each time it is reached (what is shared counts as often as it is met; a slice's spare places count too). A statement '..UptoSaid' is the law's where the arguments, and the package variables that the reading takes, are together of bulk at most 1048576: NARROWER than '..Said'. Prove '..Said' where nothing that the law and all that it calls make is longer than what came in: it says more and counts as full. Else prove '..UptoSaid'. A law counts once. -/
mutual
def uptoBulk {H : Type} : DataW H → Nat
  | .lit (.string bytes) => bytes.length + 1
  | .lit _ => 1
  | .nil => 1
  | .ptr d => uptoBulk d + 1
  | .slice elems spare => uptoBulkAll elems + uptoBulkAll spare + 1
  | .agg parts => uptoBulkAll parts + 1
  | .iface _ d => uptoBulk d + 1
  | .map entries => uptoBulkEntries entries + 1
  | .held _ => 1
def uptoBulkAll {H : Type} : List (DataW H) → Nat
  | [] => 0
  | d :: r => uptoBulk d + uptoBulkAll r
def uptoBulkEntries {H : Type} : List (Lit × DataW H) → Nat
  | [] => 0
  | x :: r => uptoBulkEntry x + uptoBulkEntries r
def uptoBulkEntry {H : Type} : Lit × DataW H → Nat
  | (.string bytes, d) => bytes.length + uptoBulk d + 1
  | (_, d) => uptoBulk d + 1
 end
def uptoSmall : (H : Type) → List (DataW H) → Bool := fun _ ds => decide (uptoBulkAll ds ≤ 1048576)
def OpenSpec.upto (s : _root_.Go.ChangeSpec) : _root_.Go.OpenSpec := { _root_.Go.OpenSpec.ofChange s with cond := some uptoSmall }

/-- 'lathelaw18.AliasKin', WHERE WHAT IT READS IS OF BULK AT MOST 1048576: true; the input reads as it did. -/
def aliasKinUptoRow : OpenClaim := { program := "ytamjcafjdioidaa", sum := "ff1f8a911b1764191174ec2d9dd832253662087a2c0b72c566dc4587c4325603", func := "lathe/lathelaw18.AliasKin", spec := "aliasKin", unfollowed := true, recurses := true, apart := false, narrowed := true }
def AliasKinUptoSaid : Prop := aliasKinUptoRow.holds Try.pinned (OpenSpec.upto aliasKinSpec)

/-- 'lathelaw18.AliasShifts', WHERE WHAT IT READS IS OF BULK AT MOST 1048576: true; the input reads as it did. -/
def aliasShiftsUptoRow : OpenClaim := { program := "ytamjcafjdioidaa", sum := "ff1f8a911b1764191174ec2d9dd832253662087a2c0b72c566dc4587c4325603", func := "lathe/lathelaw18.AliasShifts", spec := "aliasShifts", unfollowed := true, recurses := true, apart := false, narrowed := true }
def AliasShiftsUptoSaid : Prop := aliasShiftsUptoRow.holds Try.pinned (OpenSpec.upto aliasShiftsSpec)

/-- 'lathelaw17.TidyUnseen', WHERE WHAT IT READS IS OF BULK AT MOST 1048576: true; the input reads as it did. -/
def tidyUnseenUptoRow : OpenClaim := { program := "ytamjcafjdioidaa", sum := "ff1f8a911b1764191174ec2d9dd832253662087a2c0b72c566dc4587c4325603", func := "lathe/lathelaw17.TidyUnseen", spec := "tidyUnseen", inPlace := ["slices.overlaps[int]", "slices.overlaps[lathe/api.Value]"], unfollowed := true, recurses := true, apart := false, narrowed := true }
def TidyUnseenUptoSaid : Prop := tidyUnseenUptoRow.holds Try.pinned (OpenSpec.upto tidyUnseenSpec)

/-- 'lathelaw17.TidyStays', WHERE WHAT IT READS IS OF BULK AT MOST 1048576: true; the input reads as it did. -/
def tidyStaysUptoRow : OpenClaim := { program := "ytamjcafjdioidaa", sum := "ff1f8a911b1764191174ec2d9dd832253662087a2c0b72c566dc4587c4325603", func := "lathe/lathelaw17.TidyStays", spec := "tidyStays", inPlace := ["slices.overlaps[int]", "slices.overlaps[lathe/api.Value]"], unfollowed := true, recurses := true, apart := false, narrowed := true }
def TidyStaysUptoSaid : Prop := tidyStaysUptoRow.holds Try.pinned (OpenSpec.upto tidyStaysSpec)

end Rows
end Go.Proofs.Ytamjcafjdioidaa
