/-
  No cell of these rows narrows 'for every input' (looked for: loops, veiled, ifaces, maps, wideKeys, modest, calm, conditions, laid).
  DERIVED. THE GIVEN ROWS OF THIS SEAT. 12 by the template 'for every input the law returns true; each argument reads behind the call as it read before'; 0 by the template 'total and deterministic' (their statements: YtgkgmeofilkopaaTotals.lean).
  GIVEN WITH THE SEED: the statements are not yours to turn. If you find one false, say at which input.
  Laid BY PROGRAM, IN A SANDBOX (cutbox-rows.mjs): the forced cells as the released guide's own fill.sh prints them over the translation d9cac4b67fff79cd… (all of the seat's roots in one cut). By AI agents, Wed Nov 11 2026. No macro, syntax, notation, axiom, sorry.
-/
import Derived.Test.YtgkgmeofilkopaaChecked
import GoSem.Claim
import GoSem.ClaimJoined
import GoSem.ClaimMapViews
import Derived.JoinedTies
import Derived.KernelRfl
namespace Go.Proofs.Ytgkgmeofilkopaa
/- THE CELL 'sum', in the pinned program and in every row, IS THE sha256 OF THE DUMP (.gsa) THAT YtgkgmeofilkopaaProg.lean LOADS. Nothing in Lean hashes anything: it is a label: what it is worth is what the hold of that sum in a sandbox is worth. -/
noncomputable def Try.pinned : Pinned := { name := "ytgkgmeofilkopaa", sum := "d9cac4b67fff79cd6f62313117e94597819f9990ca337603d90a73d6966e4b31", checked := Try.checked }
namespace Rows
def none {H : Type} : Left H := { results := [], args := [] }

/-- 'lathelaw14.UsesTell': WHATEVER THE INPUT: true; the input reads as it did. -/
def usesTellSpec : ChangeSpec := { name := "usesTell", fn := fun _ => fun
  | [d] => { results := [.lit (.bool true)], args := [d] }
  | _ => none }
def usesTellRow : OpenClaim := { program := "ytgkgmeofilkopaa", sum := "d9cac4b67fff79cd6f62313117e94597819f9990ca337603d90a73d6966e4b31", func := "lathe/lathelaw14.UsesTell", spec := "usesTell", apart := false }
def UsesTellSaid : Prop := usesTellRow.holds Try.pinned (OpenSpec.ofChange usesTellSpec)

/-- ITS FALSE NEIGHBOUR: 'it returns false'. Refute it at one input. -/
def usesTellWrong : ChangeSpec := { name := "usesTell", fn := fun _ => fun
  | [d] => { results := [.lit (.bool false)], args := [d] }
  | _ => none }
def UsesTellWrongFalsely : Prop := usesTellRow.holds Try.pinned (OpenSpec.ofChange usesTellWrong)

/-- 'lathelaw02.IrCallees': WHATEVER THE INPUT: true; the input reads as it did. -/
def irCalleesSpec : ChangeSpec := { name := "irCallees", fn := fun _ => fun
  | [d1, d2] => { results := [.lit (.bool true)], args := [d1, d2] }
  | _ => none }
def irCalleesRow : OpenClaim := { program := "ytgkgmeofilkopaa", sum := "d9cac4b67fff79cd6f62313117e94597819f9990ca337603d90a73d6966e4b31", func := "lathe/lathelaw02.IrCallees", spec := "irCallees", unfollowed := true, recurses := true, apart := false }
def IrCalleesSaid : Prop := irCalleesRow.holds Try.pinned (OpenSpec.ofChange irCalleesSpec)

/-- ITS FALSE NEIGHBOUR: 'it returns false'. Refute it at one input. -/
def irCalleesWrong : ChangeSpec := { name := "irCallees", fn := fun _ => fun
  | [d1, d2] => { results := [.lit (.bool false)], args := [d1, d2] }
  | _ => none }
def IrCalleesWrongFalsely : Prop := irCalleesRow.holds Try.pinned (OpenSpec.ofChange irCalleesWrong)

/-- 'lathelaw09.MemPacks': WHATEVER THE INPUT: true; the input reads as it did. -/
def memPacksSpec : ChangeSpec := { name := "memPacks", fn := fun _ => fun
  | [d1, d2, d3] => { results := [.lit (.bool true)], args := [d1, d2, d3] }
  | _ => none }
def memPacksRow : OpenClaim := { program := "ytgkgmeofilkopaa", sum := "d9cac4b67fff79cd6f62313117e94597819f9990ca337603d90a73d6966e4b31", func := "lathe/lathelaw09.MemPacks", spec := "memPacks", apart := false }
def MemPacksSaid : Prop := memPacksRow.holds Try.pinned (OpenSpec.ofChange memPacksSpec)

/-- ITS FALSE NEIGHBOUR: 'it returns false'. Refute it at one input. -/
def memPacksWrong : ChangeSpec := { name := "memPacks", fn := fun _ => fun
  | [d1, d2, d3] => { results := [.lit (.bool false)], args := [d1, d2, d3] }
  | _ => none }
def MemPacksWrongFalsely : Prop := memPacksRow.holds Try.pinned (OpenSpec.ofChange memPacksWrong)

/-- 'lathelaw09.MemBack': WHATEVER THE INPUT: true; the input reads as it did. -/
def memBackSpec : ChangeSpec := { name := "memBack", fn := fun _ => fun
  | [d1, d2] => { results := [.lit (.bool true)], args := [d1, d2] }
  | _ => none }
def memBackRow : OpenClaim := { program := "ytgkgmeofilkopaa", sum := "d9cac4b67fff79cd6f62313117e94597819f9990ca337603d90a73d6966e4b31", func := "lathe/lathelaw09.MemBack", spec := "memBack", apart := false }
def MemBackSaid : Prop := memBackRow.holds Try.pinned (OpenSpec.ofChange memBackSpec)

/-- ITS FALSE NEIGHBOUR: 'it returns false'. Refute it at one input. -/
def memBackWrong : ChangeSpec := { name := "memBack", fn := fun _ => fun
  | [d1, d2] => { results := [.lit (.bool false)], args := [d1, d2] }
  | _ => none }
def MemBackWrongFalsely : Prop := memBackRow.holds Try.pinned (OpenSpec.ofChange memBackWrong)

/-- 'lathelaw02.IrSums': WHATEVER THE INPUT: true; the input reads as it did. -/
def irSumsSpec : ChangeSpec := { name := "irSums", fn := fun _ => fun
  | [d1, d2, d3] => { results := [.lit (.bool true)], args := [d1, d2, d3] }
  | _ => none }
def irSumsRow : OpenClaim := { program := "ytgkgmeofilkopaa", sum := "d9cac4b67fff79cd6f62313117e94597819f9990ca337603d90a73d6966e4b31", func := "lathe/lathelaw02.IrSums", spec := "irSums", unfollowed := true, recurses := true, apart := false }
def IrSumsSaid : Prop := irSumsRow.holds Try.pinned (OpenSpec.ofChange irSumsSpec)

/-- ITS FALSE NEIGHBOUR: 'it returns false'. Refute it at one input. -/
def irSumsWrong : ChangeSpec := { name := "irSums", fn := fun _ => fun
  | [d1, d2, d3] => { results := [.lit (.bool false)], args := [d1, d2, d3] }
  | _ => none }
def IrSumsWrongFalsely : Prop := irSumsRow.holds Try.pinned (OpenSpec.ofChange irSumsWrong)

/-- 'lathelaw12.RefinePacks': WHATEVER THE INPUT: true; the input reads as it did. -/
def refinePacksSpec : ChangeSpec := { name := "refinePacks", fn := fun _ => fun
  | [d1, d2, d3, d4, d5] => { results := [.lit (.bool true)], args := [d1, d2, d3, d4, d5] }
  | _ => none }
def refinePacksRow : OpenClaim := { program := "ytgkgmeofilkopaa", sum := "d9cac4b67fff79cd6f62313117e94597819f9990ca337603d90a73d6966e4b31", func := "lathe/lathelaw12.RefinePacks", spec := "refinePacks", apart := false }
def RefinePacksSaid : Prop := refinePacksRow.holds Try.pinned (OpenSpec.ofChange refinePacksSpec)

/-- ITS FALSE NEIGHBOUR: 'it returns false'. Refute it at one input. -/
def refinePacksWrong : ChangeSpec := { name := "refinePacks", fn := fun _ => fun
  | [d1, d2, d3, d4, d5] => { results := [.lit (.bool false)], args := [d1, d2, d3, d4, d5] }
  | _ => none }
def RefinePacksWrongFalsely : Prop := refinePacksRow.holds Try.pinned (OpenSpec.ofChange refinePacksWrong)

/-- 'lathelaw02.IrReplaces': WHATEVER THE INPUT: true; the input reads as it did. -/
def irReplacesSpec : ChangeSpec := { name := "irReplaces", fn := fun _ => fun
  | [d1, d2, d3, d4] => { results := [.lit (.bool true)], args := [d1, d2, d3, d4] }
  | _ => none }
def irReplacesRow : OpenClaim := { program := "ytgkgmeofilkopaa", sum := "d9cac4b67fff79cd6f62313117e94597819f9990ca337603d90a73d6966e4b31", func := "lathe/lathelaw02.IrReplaces", spec := "irReplaces", unfollowed := true, recurses := true, apart := false }
def IrReplacesSaid : Prop := irReplacesRow.holds Try.pinned (OpenSpec.ofChange irReplacesSpec)

/-- ITS FALSE NEIGHBOUR: 'it returns false'. Refute it at one input. -/
def irReplacesWrong : ChangeSpec := { name := "irReplaces", fn := fun _ => fun
  | [d1, d2, d3, d4] => { results := [.lit (.bool false)], args := [d1, d2, d3, d4] }
  | _ => none }
def IrReplacesWrongFalsely : Prop := irReplacesRow.holds Try.pinned (OpenSpec.ofChange irReplacesWrong)

/-- 'lathelaw09.MemFrees': WHATEVER THE INPUT: true; the input reads as it did. -/
def memFreesSpec : ChangeSpec := { name := "memFrees", fn := fun _ => fun
  | [d1, d2, d3] => { results := [.lit (.bool true)], args := [d1, d2, d3] }
  | _ => none }
def memFreesRow : OpenClaim := { program := "ytgkgmeofilkopaa", sum := "d9cac4b67fff79cd6f62313117e94597819f9990ca337603d90a73d6966e4b31", func := "lathe/lathelaw09.MemFrees", spec := "memFrees", apart := false }
def MemFreesSaid : Prop := memFreesRow.holds Try.pinned (OpenSpec.ofChange memFreesSpec)

/-- ITS FALSE NEIGHBOUR: 'it returns false'. Refute it at one input. -/
def memFreesWrong : ChangeSpec := { name := "memFrees", fn := fun _ => fun
  | [d1, d2, d3] => { results := [.lit (.bool false)], args := [d1, d2, d3] }
  | _ => none }
def MemFreesWrongFalsely : Prop := memFreesRow.holds Try.pinned (OpenSpec.ofChange memFreesWrong)

/-- 'lathelaw09.MemKeeps': WHATEVER THE INPUT: true; the input reads as it did. -/
def memKeepsSpec : ChangeSpec := { name := "memKeeps", fn := fun _ => fun
  | [d1, d2, d3, d4, d5] => { results := [.lit (.bool true)], args := [d1, d2, d3, d4, d5] }
  | _ => none }
def memKeepsRow : OpenClaim := { program := "ytgkgmeofilkopaa", sum := "d9cac4b67fff79cd6f62313117e94597819f9990ca337603d90a73d6966e4b31", func := "lathe/lathelaw09.MemKeeps", spec := "memKeeps", apart := false }
def MemKeepsSaid : Prop := memKeepsRow.holds Try.pinned (OpenSpec.ofChange memKeepsSpec)

/-- ITS FALSE NEIGHBOUR: 'it returns false'. Refute it at one input. -/
def memKeepsWrong : ChangeSpec := { name := "memKeeps", fn := fun _ => fun
  | [d1, d2, d3, d4, d5] => { results := [.lit (.bool false)], args := [d1, d2, d3, d4, d5] }
  | _ => none }
def MemKeepsWrongFalsely : Prop := memKeepsRow.holds Try.pinned (OpenSpec.ofChange memKeepsWrong)

/-- 'lathelaw02.IrCopies': WHATEVER THE INPUT: true; the input reads as it did. -/
def irCopiesSpec : ChangeSpec := { name := "irCopies", fn := fun _ => fun
  | [d1, d2] => { results := [.lit (.bool true)], args := [d1, d2] }
  | _ => none }
def irCopiesRow : OpenClaim := { program := "ytgkgmeofilkopaa", sum := "d9cac4b67fff79cd6f62313117e94597819f9990ca337603d90a73d6966e4b31", func := "lathe/lathelaw02.IrCopies", spec := "irCopies", unfollowed := true, recurses := true, apart := false }
def IrCopiesSaid : Prop := irCopiesRow.holds Try.pinned (OpenSpec.ofChange irCopiesSpec)

/-- ITS FALSE NEIGHBOUR: 'it returns false'. Refute it at one input. -/
def irCopiesWrong : ChangeSpec := { name := "irCopies", fn := fun _ => fun
  | [d1, d2] => { results := [.lit (.bool false)], args := [d1, d2] }
  | _ => none }
def IrCopiesWrongFalsely : Prop := irCopiesRow.holds Try.pinned (OpenSpec.ofChange irCopiesWrong)

/-- 'lathelaw09.MemPlays': WHATEVER THE INPUT: true; the input reads as it did. -/
def memPlaysSpec : ChangeSpec := { name := "memPlays", fn := fun _ => fun
  | [d1, d2] => { results := [.lit (.bool true)], args := [d1, d2] }
  | _ => none }
def memPlaysRow : OpenClaim := { program := "ytgkgmeofilkopaa", sum := "d9cac4b67fff79cd6f62313117e94597819f9990ca337603d90a73d6966e4b31", func := "lathe/lathelaw09.MemPlays", spec := "memPlays", apart := false }
def MemPlaysSaid : Prop := memPlaysRow.holds Try.pinned (OpenSpec.ofChange memPlaysSpec)

/-- ITS FALSE NEIGHBOUR: 'it returns false'. Refute it at one input. -/
def memPlaysWrong : ChangeSpec := { name := "memPlays", fn := fun _ => fun
  | [d1, d2] => { results := [.lit (.bool false)], args := [d1, d2] }
  | _ => none }
def MemPlaysWrongFalsely : Prop := memPlaysRow.holds Try.pinned (OpenSpec.ofChange memPlaysWrong)

/-- 'lathelaw09.MemApart': WHATEVER THE INPUT: true; the input reads as it did. -/
def memApartSpec : ChangeSpec := { name := "memApart", fn := fun _ => fun
  | [d1, d2, d3] => { results := [.lit (.bool true)], args := [d1, d2, d3] }
  | _ => none }
def memApartRow : OpenClaim := { program := "ytgkgmeofilkopaa", sum := "d9cac4b67fff79cd6f62313117e94597819f9990ca337603d90a73d6966e4b31", func := "lathe/lathelaw09.MemApart", spec := "memApart", unfollowed := true, recurses := true, apart := false }
def MemApartSaid : Prop := memApartRow.holds Try.pinned (OpenSpec.ofChange memApartSpec)

/-- ITS FALSE NEIGHBOUR: 'it returns false'. Refute it at one input. -/
def memApartWrong : ChangeSpec := { name := "memApart", fn := fun _ => fun
  | [d1, d2, d3] => { results := [.lit (.bool false)], args := [d1, d2, d3] }
  | _ => none }
def MemApartWrongFalsely : Prop := memApartRow.holds Try.pinned (OpenSpec.ofChange memApartWrong)

/- THE SECOND FORM. 'bulk': how many values and letters a reading holds, each counted each time it is reached (what is shared counts as often as it is met; a slice's spare places count too). A statement '..UptoSaid' is the law's where the arguments, and the package variables that the reading takes, are together of bulk at most 1048576: NARROWER than '..Said'. Prove '..Said' where nothing that the law and all that it calls make is longer than what came in: it says more and counts as full. Else prove '..UptoSaid'. A law counts once. -/
mutual
def uptoBulk {H : Type} : DataW H → Nat
  | .lit (.string bytes) => bytes.length + 1
  | .lit _ => 1
  | .nil => 1
  | .ptr d => uptoBulk d + 1
  | .slice elems spare => uptoBulkAll elems + uptoBulkAll spare + 1
  | .agg parts => uptoBulkAll parts + 1
  | .iface _ d => uptoBulk d + 1
  | .map entries => uptoBulkEntries entries + 1
  | .held _ => 1
def uptoBulkAll {H : Type} : List (DataW H) → Nat
  | [] => 0
  | d :: r => uptoBulk d + uptoBulkAll r
def uptoBulkEntries {H : Type} : List (Lit × DataW H) → Nat
  | [] => 0
  | x :: r => uptoBulkEntry x + uptoBulkEntries r
def uptoBulkEntry {H : Type} : Lit × DataW H → Nat
  | (.string bytes, d) => bytes.length + uptoBulk d + 1
  | (_, d) => uptoBulk d + 1
 end
def uptoSmall : (H : Type) → List (DataW H) → Bool := fun _ ds => decide (uptoBulkAll ds ≤ 1048576)
def OpenSpec.upto (s : _root_.Go.ChangeSpec) : _root_.Go.OpenSpec := { _root_.Go.OpenSpec.ofChange s with cond := some uptoSmall }

/-- 'lathelaw14.UsesTell', WHERE WHAT IT READS IS OF BULK AT MOST 1048576: true; the input reads as it did. -/
def usesTellUptoRow : OpenClaim := { program := "ytgkgmeofilkopaa", sum := "d9cac4b67fff79cd6f62313117e94597819f9990ca337603d90a73d6966e4b31", func := "lathe/lathelaw14.UsesTell", spec := "usesTell", apart := false, narrowed := true }
def UsesTellUptoSaid : Prop := usesTellUptoRow.holds Try.pinned (OpenSpec.upto usesTellSpec)

/-- 'lathelaw02.IrCallees', WHERE WHAT IT READS IS OF BULK AT MOST 1048576: true; the input reads as it did. -/
def irCalleesUptoRow : OpenClaim := { program := "ytgkgmeofilkopaa", sum := "d9cac4b67fff79cd6f62313117e94597819f9990ca337603d90a73d6966e4b31", func := "lathe/lathelaw02.IrCallees", spec := "irCallees", unfollowed := true, recurses := true, apart := false, narrowed := true }
def IrCalleesUptoSaid : Prop := irCalleesUptoRow.holds Try.pinned (OpenSpec.upto irCalleesSpec)

/-- 'lathelaw09.MemPacks', WHERE WHAT IT READS IS OF BULK AT MOST 1048576: true; the input reads as it did. -/
def memPacksUptoRow : OpenClaim := { program := "ytgkgmeofilkopaa", sum := "d9cac4b67fff79cd6f62313117e94597819f9990ca337603d90a73d6966e4b31", func := "lathe/lathelaw09.MemPacks", spec := "memPacks", apart := false, narrowed := true }
def MemPacksUptoSaid : Prop := memPacksUptoRow.holds Try.pinned (OpenSpec.upto memPacksSpec)

/-- 'lathelaw09.MemBack', WHERE WHAT IT READS IS OF BULK AT MOST 1048576: true; the input reads as it did. -/
def memBackUptoRow : OpenClaim := { program := "ytgkgmeofilkopaa", sum := "d9cac4b67fff79cd6f62313117e94597819f9990ca337603d90a73d6966e4b31", func := "lathe/lathelaw09.MemBack", spec := "memBack", apart := false, narrowed := true }
def MemBackUptoSaid : Prop := memBackUptoRow.holds Try.pinned (OpenSpec.upto memBackSpec)

/-- 'lathelaw02.IrSums', WHERE WHAT IT READS IS OF BULK AT MOST 1048576: true; the input reads as it did. -/
def irSumsUptoRow : OpenClaim := { program := "ytgkgmeofilkopaa", sum := "d9cac4b67fff79cd6f62313117e94597819f9990ca337603d90a73d6966e4b31", func := "lathe/lathelaw02.IrSums", spec := "irSums", unfollowed := true, recurses := true, apart := false, narrowed := true }
def IrSumsUptoSaid : Prop := irSumsUptoRow.holds Try.pinned (OpenSpec.upto irSumsSpec)

/-- 'lathelaw12.RefinePacks', WHERE WHAT IT READS IS OF BULK AT MOST 1048576: true; the input reads as it did. -/
def refinePacksUptoRow : OpenClaim := { program := "ytgkgmeofilkopaa", sum := "d9cac4b67fff79cd6f62313117e94597819f9990ca337603d90a73d6966e4b31", func := "lathe/lathelaw12.RefinePacks", spec := "refinePacks", apart := false, narrowed := true }
def RefinePacksUptoSaid : Prop := refinePacksUptoRow.holds Try.pinned (OpenSpec.upto refinePacksSpec)

/-- 'lathelaw02.IrReplaces', WHERE WHAT IT READS IS OF BULK AT MOST 1048576: true; the input reads as it did. -/
def irReplacesUptoRow : OpenClaim := { program := "ytgkgmeofilkopaa", sum := "d9cac4b67fff79cd6f62313117e94597819f9990ca337603d90a73d6966e4b31", func := "lathe/lathelaw02.IrReplaces", spec := "irReplaces", unfollowed := true, recurses := true, apart := false, narrowed := true }
def IrReplacesUptoSaid : Prop := irReplacesUptoRow.holds Try.pinned (OpenSpec.upto irReplacesSpec)

/-- 'lathelaw09.MemFrees', WHERE WHAT IT READS IS OF BULK AT MOST 1048576: true; the input reads as it did. -/
def memFreesUptoRow : OpenClaim := { program := "ytgkgmeofilkopaa", sum := "d9cac4b67fff79cd6f62313117e94597819f9990ca337603d90a73d6966e4b31", func := "lathe/lathelaw09.MemFrees", spec := "memFrees", apart := false, narrowed := true }
def MemFreesUptoSaid : Prop := memFreesUptoRow.holds Try.pinned (OpenSpec.upto memFreesSpec)

/-- 'lathelaw09.MemKeeps', WHERE WHAT IT READS IS OF BULK AT MOST 1048576: true; the input reads as it did. -/
def memKeepsUptoRow : OpenClaim := { program := "ytgkgmeofilkopaa", sum := "d9cac4b67fff79cd6f62313117e94597819f9990ca337603d90a73d6966e4b31", func := "lathe/lathelaw09.MemKeeps", spec := "memKeeps", apart := false, narrowed := true }
def MemKeepsUptoSaid : Prop := memKeepsUptoRow.holds Try.pinned (OpenSpec.upto memKeepsSpec)

/-- 'lathelaw02.IrCopies', WHERE WHAT IT READS IS OF BULK AT MOST 1048576: true; the input reads as it did. -/
def irCopiesUptoRow : OpenClaim := { program := "ytgkgmeofilkopaa", sum := "d9cac4b67fff79cd6f62313117e94597819f9990ca337603d90a73d6966e4b31", func := "lathe/lathelaw02.IrCopies", spec := "irCopies", unfollowed := true, recurses := true, apart := false, narrowed := true }
def IrCopiesUptoSaid : Prop := irCopiesUptoRow.holds Try.pinned (OpenSpec.upto irCopiesSpec)

/-- 'lathelaw09.MemPlays', WHERE WHAT IT READS IS OF BULK AT MOST 1048576: true; the input reads as it did. -/
def memPlaysUptoRow : OpenClaim := { program := "ytgkgmeofilkopaa", sum := "d9cac4b67fff79cd6f62313117e94597819f9990ca337603d90a73d6966e4b31", func := "lathe/lathelaw09.MemPlays", spec := "memPlays", apart := false, narrowed := true }
def MemPlaysUptoSaid : Prop := memPlaysUptoRow.holds Try.pinned (OpenSpec.upto memPlaysSpec)

/-- 'lathelaw09.MemApart', WHERE WHAT IT READS IS OF BULK AT MOST 1048576: true; the input reads as it did. -/
def memApartUptoRow : OpenClaim := { program := "ytgkgmeofilkopaa", sum := "d9cac4b67fff79cd6f62313117e94597819f9990ca337603d90a73d6966e4b31", func := "lathe/lathelaw09.MemApart", spec := "memApart", unfollowed := true, recurses := true, apart := false, narrowed := true }
def MemApartUptoSaid : Prop := memApartUptoRow.holds Try.pinned (OpenSpec.upto memApartSpec)

end Rows
end Go.Proofs.Ytgkgmeofilkopaa
