/-
  No cell of these rows narrows 'for every input' (looked for: loops, veiled, ifaces, maps, wideKeys, modest, calm, conditions, laid).
  DERIVED. THE GIVEN ROWS OF THIS SEAT. 12 by the template 'for every input the law returns true; each argument reads behind the call as it read before'; 0 by the template 'total and deterministic' (their statements: YtffklfalocamiaaTotals.lean).
  GIVEN WITH THE SEED: the statements are not yours to turn. If you find one false, say at which input.
  Laid BY PROGRAM, IN A SANDBOX (cutbox-rows.mjs): the forced cells as the released guide's own fill.sh prints them over the translation 5781f91824f39173… (all of the seat's roots in one cut). By AI agents, Wed Nov 11 2026. No macro, syntax, notation, axiom, sorry.
-/
import Derived.Test.YtffklfalocamiaaChecked
import GoSem.Claim
import GoSem.ClaimJoined
import GoSem.ClaimMapViews
import Derived.JoinedTies
import Derived.KernelRfl
namespace Go.Proofs.Ytffklfalocamiaa
/- THE CELL 'sum', in the pinned program and in every row, IS THE sha256 OF THE DUMP (.gsa) THAT YtffklfalocamiaaProg.lean LOADS. Nothing in Lean hashes anything: it is a label: what it is worth is what the hold of that sum in a sandbox is worth. -/
noncomputable def Try.pinned : Pinned := { name := "ytffklfalocamiaa", sum := "5781f91824f39173ffe4007b3d61eebfba8dfb990b6430342f81129963ef446a", checked := Try.checked }
namespace Rows
def none {H : Type} : Left H := { results := [], args := [] }

/-- 'lathelaw12.RefineTells': WHATEVER THE INPUT: true; the input reads as it did. -/
def refineTellsSpec : ChangeSpec := { name := "refineTells", fn := fun _ => fun
  | [d1, d2, d3, d4, d5, d6] => { results := [.lit (.bool true)], args := [d1, d2, d3, d4, d5, d6] }
  | _ => none }
def refineTellsRow : OpenClaim := { program := "ytffklfalocamiaa", sum := "5781f91824f39173ffe4007b3d61eebfba8dfb990b6430342f81129963ef446a", func := "lathe/lathelaw12.RefineTells", spec := "refineTells", apart := false }
def RefineTellsSaid : Prop := refineTellsRow.holds Try.pinned (OpenSpec.ofChange refineTellsSpec)

/-- ITS FALSE NEIGHBOUR: 'it returns false'. Refute it at one input. -/
def refineTellsWrong : ChangeSpec := { name := "refineTells", fn := fun _ => fun
  | [d1, d2, d3, d4, d5, d6] => { results := [.lit (.bool false)], args := [d1, d2, d3, d4, d5, d6] }
  | _ => none }
def RefineTellsWrongFalsely : Prop := refineTellsRow.holds Try.pinned (OpenSpec.ofChange refineTellsWrong)

/-- 'lathelaw12.RefineOrders': WHATEVER THE INPUT: true; the input reads as it did. -/
def refineOrdersSpec : ChangeSpec := { name := "refineOrders", fn := fun _ => fun
  | [d1, d2, d3, d4, d5, d6, d7] => { results := [.lit (.bool true)], args := [d1, d2, d3, d4, d5, d6, d7] }
  | _ => none }
def refineOrdersRow : OpenClaim := { program := "ytffklfalocamiaa", sum := "5781f91824f39173ffe4007b3d61eebfba8dfb990b6430342f81129963ef446a", func := "lathe/lathelaw12.RefineOrders", spec := "refineOrders", apart := false }
def RefineOrdersSaid : Prop := refineOrdersRow.holds Try.pinned (OpenSpec.ofChange refineOrdersSpec)

/-- ITS FALSE NEIGHBOUR: 'it returns false'. Refute it at one input. -/
def refineOrdersWrong : ChangeSpec := { name := "refineOrders", fn := fun _ => fun
  | [d1, d2, d3, d4, d5, d6, d7] => { results := [.lit (.bool false)], args := [d1, d2, d3, d4, d5, d6, d7] }
  | _ => none }
def RefineOrdersWrongFalsely : Prop := refineOrdersRow.holds Try.pinned (OpenSpec.ofChange refineOrdersWrong)

/-- 'lathelaw06.GraphPermutes': WHATEVER THE INPUT: true; the input reads as it did. -/
def graphPermutesSpec : ChangeSpec := { name := "graphPermutes", fn := fun _ => fun
  | [d1, d2, d3] => { results := [.lit (.bool true)], args := [d1, d2, d3] }
  | _ => none }
def graphPermutesRow : OpenClaim := { program := "ytffklfalocamiaa", sum := "5781f91824f39173ffe4007b3d61eebfba8dfb990b6430342f81129963ef446a", func := "lathe/lathelaw06.GraphPermutes", spec := "graphPermutes", apart := false }
def GraphPermutesSaid : Prop := graphPermutesRow.holds Try.pinned (OpenSpec.ofChange graphPermutesSpec)

/-- ITS FALSE NEIGHBOUR: 'it returns false'. Refute it at one input. -/
def graphPermutesWrong : ChangeSpec := { name := "graphPermutes", fn := fun _ => fun
  | [d1, d2, d3] => { results := [.lit (.bool false)], args := [d1, d2, d3] }
  | _ => none }
def GraphPermutesWrongFalsely : Prop := graphPermutesRow.holds Try.pinned (OpenSpec.ofChange graphPermutesWrong)

/-- 'lathelaw02.IrFinds': WHATEVER THE INPUT: true; the input reads as it did. -/
def irFindsSpec : ChangeSpec := { name := "irFinds", fn := fun _ => fun
  | [d1, d2] => { results := [.lit (.bool true)], args := [d1, d2] }
  | _ => none }
def irFindsRow : OpenClaim := { program := "ytffklfalocamiaa", sum := "5781f91824f39173ffe4007b3d61eebfba8dfb990b6430342f81129963ef446a", func := "lathe/lathelaw02.IrFinds", spec := "irFinds", unfollowed := true, recurses := true, apart := false }
def IrFindsSaid : Prop := irFindsRow.holds Try.pinned (OpenSpec.ofChange irFindsSpec)

/-- ITS FALSE NEIGHBOUR: 'it returns false'. Refute it at one input. -/
def irFindsWrong : ChangeSpec := { name := "irFinds", fn := fun _ => fun
  | [d1, d2] => { results := [.lit (.bool false)], args := [d1, d2] }
  | _ => none }
def IrFindsWrongFalsely : Prop := irFindsRow.holds Try.pinned (OpenSpec.ofChange irFindsWrong)

/-- 'lathelaw02.IrFresh': WHATEVER THE INPUT: true; the input reads as it did. -/
def irFreshSpec : ChangeSpec := { name := "irFresh", fn := fun _ => fun
  | [d] => { results := [.lit (.bool true)], args := [d] }
  | _ => none }
def irFreshRow : OpenClaim := { program := "ytffklfalocamiaa", sum := "5781f91824f39173ffe4007b3d61eebfba8dfb990b6430342f81129963ef446a", func := "lathe/lathelaw02.IrFresh", spec := "irFresh", unfollowed := true, recurses := true, apart := false }
def IrFreshSaid : Prop := irFreshRow.holds Try.pinned (OpenSpec.ofChange irFreshSpec)

/-- ITS FALSE NEIGHBOUR: 'it returns false'. Refute it at one input. -/
def irFreshWrong : ChangeSpec := { name := "irFresh", fn := fun _ => fun
  | [d] => { results := [.lit (.bool false)], args := [d] }
  | _ => none }
def IrFreshWrongFalsely : Prop := irFreshRow.holds Try.pinned (OpenSpec.ofChange irFreshWrong)

/-- 'lathelaw02.IrAsks': WHATEVER THE INPUT: true; the input reads as it did. -/
def irAsksSpec : ChangeSpec := { name := "irAsks", fn := fun _ => fun
  | [d] => { results := [.lit (.bool true)], args := [d] }
  | _ => none }
def irAsksRow : OpenClaim := { program := "ytffklfalocamiaa", sum := "5781f91824f39173ffe4007b3d61eebfba8dfb990b6430342f81129963ef446a", func := "lathe/lathelaw02.IrAsks", spec := "irAsks", unfollowed := true, recurses := true, apart := false }
def IrAsksSaid : Prop := irAsksRow.holds Try.pinned (OpenSpec.ofChange irAsksSpec)

/-- ITS FALSE NEIGHBOUR: 'it returns false'. Refute it at one input. -/
def irAsksWrong : ChangeSpec := { name := "irAsks", fn := fun _ => fun
  | [d] => { results := [.lit (.bool false)], args := [d] }
  | _ => none }
def IrAsksWrongFalsely : Prop := irAsksRow.holds Try.pinned (OpenSpec.ofChange irAsksWrong)

/-- 'lathelaw06.GraphTells': WHATEVER THE INPUT: true; the input reads as it did. -/
def graphTellsSpec : ChangeSpec := { name := "graphTells", fn := fun _ => fun
  | [d1, d2] => { results := [.lit (.bool true)], args := [d1, d2] }
  | _ => none }
def graphTellsRow : OpenClaim := { program := "ytffklfalocamiaa", sum := "5781f91824f39173ffe4007b3d61eebfba8dfb990b6430342f81129963ef446a", func := "lathe/lathelaw06.GraphTells", spec := "graphTells", recurses := true, apart := false }
def GraphTellsSaid : Prop := graphTellsRow.holds Try.pinned (OpenSpec.ofChange graphTellsSpec)

/-- ITS FALSE NEIGHBOUR: 'it returns false'. Refute it at one input. -/
def graphTellsWrong : ChangeSpec := { name := "graphTells", fn := fun _ => fun
  | [d1, d2] => { results := [.lit (.bool false)], args := [d1, d2] }
  | _ => none }
def GraphTellsWrongFalsely : Prop := graphTellsRow.holds Try.pinned (OpenSpec.ofChange graphTellsWrong)

/-- 'lathelaw06.GraphOrders': WHATEVER THE INPUT: true; the input reads as it did. -/
def graphOrdersSpec : ChangeSpec := { name := "graphOrders", fn := fun _ => fun
  | [d] => { results := [.lit (.bool true)], args := [d] }
  | _ => none }
def graphOrdersRow : OpenClaim := { program := "ytffklfalocamiaa", sum := "5781f91824f39173ffe4007b3d61eebfba8dfb990b6430342f81129963ef446a", func := "lathe/lathelaw06.GraphOrders", spec := "graphOrders", apart := false }
def GraphOrdersSaid : Prop := graphOrdersRow.holds Try.pinned (OpenSpec.ofChange graphOrdersSpec)

/-- ITS FALSE NEIGHBOUR: 'it returns false'. Refute it at one input. -/
def graphOrdersWrong : ChangeSpec := { name := "graphOrders", fn := fun _ => fun
  | [d] => { results := [.lit (.bool false)], args := [d] }
  | _ => none }
def GraphOrdersWrongFalsely : Prop := graphOrdersRow.holds Try.pinned (OpenSpec.ofChange graphOrdersWrong)

/-- 'lathelaw06.GraphPairs': WHATEVER THE INPUT: true; the input reads as it did. -/
def graphPairsSpec : ChangeSpec := { name := "graphPairs", fn := fun _ => fun
  | [d] => { results := [.lit (.bool true)], args := [d] }
  | _ => none }
def graphPairsRow : OpenClaim := { program := "ytffklfalocamiaa", sum := "5781f91824f39173ffe4007b3d61eebfba8dfb990b6430342f81129963ef446a", func := "lathe/lathelaw06.GraphPairs", spec := "graphPairs", apart := false }
def GraphPairsSaid : Prop := graphPairsRow.holds Try.pinned (OpenSpec.ofChange graphPairsSpec)

/-- ITS FALSE NEIGHBOUR: 'it returns false'. Refute it at one input. -/
def graphPairsWrong : ChangeSpec := { name := "graphPairs", fn := fun _ => fun
  | [d] => { results := [.lit (.bool false)], args := [d] }
  | _ => none }
def GraphPairsWrongFalsely : Prop := graphPairsRow.holds Try.pinned (OpenSpec.ofChange graphPairsWrong)

/-- 'lathelaw14.UsesTell': WHATEVER THE INPUT: true; the input reads as it did. -/
def usesTellSpec : ChangeSpec := { name := "usesTell", fn := fun _ => fun
  | [d] => { results := [.lit (.bool true)], args := [d] }
  | _ => none }
def usesTellRow : OpenClaim := { program := "ytffklfalocamiaa", sum := "5781f91824f39173ffe4007b3d61eebfba8dfb990b6430342f81129963ef446a", func := "lathe/lathelaw14.UsesTell", spec := "usesTell", apart := false }
def UsesTellSaid : Prop := usesTellRow.holds Try.pinned (OpenSpec.ofChange usesTellSpec)

/-- ITS FALSE NEIGHBOUR: 'it returns false'. Refute it at one input. -/
def usesTellWrong : ChangeSpec := { name := "usesTell", fn := fun _ => fun
  | [d] => { results := [.lit (.bool false)], args := [d] }
  | _ => none }
def UsesTellWrongFalsely : Prop := usesTellRow.holds Try.pinned (OpenSpec.ofChange usesTellWrong)

/-- 'lathelaw02.IrCallees': WHATEVER THE INPUT: true; the input reads as it did. -/
def irCalleesSpec : ChangeSpec := { name := "irCallees", fn := fun _ => fun
  | [d1, d2] => { results := [.lit (.bool true)], args := [d1, d2] }
  | _ => none }
def irCalleesRow : OpenClaim := { program := "ytffklfalocamiaa", sum := "5781f91824f39173ffe4007b3d61eebfba8dfb990b6430342f81129963ef446a", func := "lathe/lathelaw02.IrCallees", spec := "irCallees", unfollowed := true, recurses := true, apart := false }
def IrCalleesSaid : Prop := irCalleesRow.holds Try.pinned (OpenSpec.ofChange irCalleesSpec)

/-- ITS FALSE NEIGHBOUR: 'it returns false'. Refute it at one input. -/
def irCalleesWrong : ChangeSpec := { name := "irCallees", fn := fun _ => fun
  | [d1, d2] => { results := [.lit (.bool false)], args := [d1, d2] }
  | _ => none }
def IrCalleesWrongFalsely : Prop := irCalleesRow.holds Try.pinned (OpenSpec.ofChange irCalleesWrong)

/-- 'lathelaw02.IrSums': WHATEVER THE INPUT: true; the input reads as it did. -/
def irSumsSpec : ChangeSpec := { name := "irSums", fn := fun _ => fun
  | [d1, d2, d3] => { results := [.lit (.bool true)], args := [d1, d2, d3] }
  | _ => none }
def irSumsRow : OpenClaim := { program := "ytffklfalocamiaa", sum := "5781f91824f39173ffe4007b3d61eebfba8dfb990b6430342f81129963ef446a", func := "lathe/lathelaw02.IrSums", spec := "irSums", unfollowed := true, recurses := true, apart := false }
def IrSumsSaid : Prop := irSumsRow.holds Try.pinned (OpenSpec.ofChange irSumsSpec)

/-- ITS FALSE NEIGHBOUR: 'it returns false'. Refute it at one input. -/
def irSumsWrong : ChangeSpec := { name := "irSums", fn := fun _ => fun
  | [d1, d2, d3] => { results := [.lit (.bool false)], args := [d1, d2, d3] }
  | _ => none }
def IrSumsWrongFalsely : Prop := irSumsRow.holds Try.pinned (OpenSpec.ofChange irSumsWrong)

/- THE SECOND FORM. 'bulk': how many values and letters a reading holds, each counted each time it is reached (what is shared counts as often as it is met; a slice's spare places count too). A statement '..UptoSaid' is the law's where the arguments, and the package variables that the reading takes, are together of bulk at most 1048576: NARROWER than '..Said'. Prove '..Said' where nothing that the law and all that it calls make is longer than what came in: it says more and counts as full. Else prove '..UptoSaid'. A law counts once. -/
mutual
def uptoBulk {H : Type} : DataW H → Nat
  | .lit (.string bytes) => bytes.length + 1
  | .lit _ => 1
  | .nil => 1
  | .ptr d => uptoBulk d + 1
  | .slice elems spare => uptoBulkAll elems + uptoBulkAll spare + 1
  | .agg parts => uptoBulkAll parts + 1
  | .iface _ d => uptoBulk d + 1
  | .map entries => uptoBulkEntries entries + 1
  | .held _ => 1
def uptoBulkAll {H : Type} : List (DataW H) → Nat
  | [] => 0
  | d :: r => uptoBulk d + uptoBulkAll r
def uptoBulkEntries {H : Type} : List (Lit × DataW H) → Nat
  | [] => 0
  | x :: r => uptoBulkEntry x + uptoBulkEntries r
def uptoBulkEntry {H : Type} : Lit × DataW H → Nat
  | (.string bytes, d) => bytes.length + uptoBulk d + 1
  | (_, d) => uptoBulk d + 1
 end
def uptoSmall : (H : Type) → List (DataW H) → Bool := fun _ ds => decide (uptoBulkAll ds ≤ 1048576)
def OpenSpec.upto (s : _root_.Go.ChangeSpec) : _root_.Go.OpenSpec := { _root_.Go.OpenSpec.ofChange s with cond := some uptoSmall }

/-- 'lathelaw12.RefineTells', WHERE WHAT IT READS IS OF BULK AT MOST 1048576: true; the input reads as it did. -/
def refineTellsUptoRow : OpenClaim := { program := "ytffklfalocamiaa", sum := "5781f91824f39173ffe4007b3d61eebfba8dfb990b6430342f81129963ef446a", func := "lathe/lathelaw12.RefineTells", spec := "refineTells", apart := false, narrowed := true }
def RefineTellsUptoSaid : Prop := refineTellsUptoRow.holds Try.pinned (OpenSpec.upto refineTellsSpec)

/-- 'lathelaw12.RefineOrders', WHERE WHAT IT READS IS OF BULK AT MOST 1048576: true; the input reads as it did. -/
def refineOrdersUptoRow : OpenClaim := { program := "ytffklfalocamiaa", sum := "5781f91824f39173ffe4007b3d61eebfba8dfb990b6430342f81129963ef446a", func := "lathe/lathelaw12.RefineOrders", spec := "refineOrders", apart := false, narrowed := true }
def RefineOrdersUptoSaid : Prop := refineOrdersUptoRow.holds Try.pinned (OpenSpec.upto refineOrdersSpec)

/-- 'lathelaw06.GraphPermutes', WHERE WHAT IT READS IS OF BULK AT MOST 1048576: true; the input reads as it did. -/
def graphPermutesUptoRow : OpenClaim := { program := "ytffklfalocamiaa", sum := "5781f91824f39173ffe4007b3d61eebfba8dfb990b6430342f81129963ef446a", func := "lathe/lathelaw06.GraphPermutes", spec := "graphPermutes", apart := false, narrowed := true }
def GraphPermutesUptoSaid : Prop := graphPermutesUptoRow.holds Try.pinned (OpenSpec.upto graphPermutesSpec)

/-- 'lathelaw02.IrFinds', WHERE WHAT IT READS IS OF BULK AT MOST 1048576: true; the input reads as it did. -/
def irFindsUptoRow : OpenClaim := { program := "ytffklfalocamiaa", sum := "5781f91824f39173ffe4007b3d61eebfba8dfb990b6430342f81129963ef446a", func := "lathe/lathelaw02.IrFinds", spec := "irFinds", unfollowed := true, recurses := true, apart := false, narrowed := true }
def IrFindsUptoSaid : Prop := irFindsUptoRow.holds Try.pinned (OpenSpec.upto irFindsSpec)

/-- 'lathelaw02.IrFresh', WHERE WHAT IT READS IS OF BULK AT MOST 1048576: true; the input reads as it did. -/
def irFreshUptoRow : OpenClaim := { program := "ytffklfalocamiaa", sum := "5781f91824f39173ffe4007b3d61eebfba8dfb990b6430342f81129963ef446a", func := "lathe/lathelaw02.IrFresh", spec := "irFresh", unfollowed := true, recurses := true, apart := false, narrowed := true }
def IrFreshUptoSaid : Prop := irFreshUptoRow.holds Try.pinned (OpenSpec.upto irFreshSpec)

/-- 'lathelaw02.IrAsks', WHERE WHAT IT READS IS OF BULK AT MOST 1048576: true; the input reads as it did. -/
def irAsksUptoRow : OpenClaim := { program := "ytffklfalocamiaa", sum := "5781f91824f39173ffe4007b3d61eebfba8dfb990b6430342f81129963ef446a", func := "lathe/lathelaw02.IrAsks", spec := "irAsks", unfollowed := true, recurses := true, apart := false, narrowed := true }
def IrAsksUptoSaid : Prop := irAsksUptoRow.holds Try.pinned (OpenSpec.upto irAsksSpec)

/-- 'lathelaw06.GraphTells', WHERE WHAT IT READS IS OF BULK AT MOST 1048576: true; the input reads as it did. -/
def graphTellsUptoRow : OpenClaim := { program := "ytffklfalocamiaa", sum := "5781f91824f39173ffe4007b3d61eebfba8dfb990b6430342f81129963ef446a", func := "lathe/lathelaw06.GraphTells", spec := "graphTells", recurses := true, apart := false, narrowed := true }
def GraphTellsUptoSaid : Prop := graphTellsUptoRow.holds Try.pinned (OpenSpec.upto graphTellsSpec)

/-- 'lathelaw06.GraphOrders', WHERE WHAT IT READS IS OF BULK AT MOST 1048576: true; the input reads as it did. -/
def graphOrdersUptoRow : OpenClaim := { program := "ytffklfalocamiaa", sum := "5781f91824f39173ffe4007b3d61eebfba8dfb990b6430342f81129963ef446a", func := "lathe/lathelaw06.GraphOrders", spec := "graphOrders", apart := false, narrowed := true }
def GraphOrdersUptoSaid : Prop := graphOrdersUptoRow.holds Try.pinned (OpenSpec.upto graphOrdersSpec)

/-- 'lathelaw06.GraphPairs', WHERE WHAT IT READS IS OF BULK AT MOST 1048576: true; the input reads as it did. -/
def graphPairsUptoRow : OpenClaim := { program := "ytffklfalocamiaa", sum := "5781f91824f39173ffe4007b3d61eebfba8dfb990b6430342f81129963ef446a", func := "lathe/lathelaw06.GraphPairs", spec := "graphPairs", apart := false, narrowed := true }
def GraphPairsUptoSaid : Prop := graphPairsUptoRow.holds Try.pinned (OpenSpec.upto graphPairsSpec)

/-- 'lathelaw14.UsesTell', WHERE WHAT IT READS IS OF BULK AT MOST 1048576: true; the input reads as it did. -/
def usesTellUptoRow : OpenClaim := { program := "ytffklfalocamiaa", sum := "5781f91824f39173ffe4007b3d61eebfba8dfb990b6430342f81129963ef446a", func := "lathe/lathelaw14.UsesTell", spec := "usesTell", apart := false, narrowed := true }
def UsesTellUptoSaid : Prop := usesTellUptoRow.holds Try.pinned (OpenSpec.upto usesTellSpec)

/-- 'lathelaw02.IrCallees', WHERE WHAT IT READS IS OF BULK AT MOST 1048576: true; the input reads as it did. -/
def irCalleesUptoRow : OpenClaim := { program := "ytffklfalocamiaa", sum := "5781f91824f39173ffe4007b3d61eebfba8dfb990b6430342f81129963ef446a", func := "lathe/lathelaw02.IrCallees", spec := "irCallees", unfollowed := true, recurses := true, apart := false, narrowed := true }
def IrCalleesUptoSaid : Prop := irCalleesUptoRow.holds Try.pinned (OpenSpec.upto irCalleesSpec)

/-- 'lathelaw02.IrSums', WHERE WHAT IT READS IS OF BULK AT MOST 1048576: true; the input reads as it did. -/
def irSumsUptoRow : OpenClaim := { program := "ytffklfalocamiaa", sum := "5781f91824f39173ffe4007b3d61eebfba8dfb990b6430342f81129963ef446a", func := "lathe/lathelaw02.IrSums", spec := "irSums", unfollowed := true, recurses := true, apart := false, narrowed := true }
def IrSumsUptoSaid : Prop := irSumsUptoRow.holds Try.pinned (OpenSpec.upto irSumsSpec)

end Rows
end Go.Proofs.Ytffklfalocamiaa
