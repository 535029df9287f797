/-
  No cell of these rows narrows 'for every input' (looked for: loops, veiled, ifaces, maps, wideKeys, modest, calm, conditions, laid).
  DERIVED. THE GIVEN ROWS OF THIS SEAT. 12 by the template 'for every input the law returns true; each argument reads behind the call as it read before'; 0 by the template 'total and deterministic' (their statements: YtmcleghbpdenlaaTotals.lean).
  GIVEN WITH THE SEED: the statements are not yours to turn. If you find one false, say at which input.
  Laid BY PROGRAM, IN A SANDBOX (cutbox-rows.mjs): the forced cells as the released guide's own fill.sh prints them over the translation 67e0c4d6edb8d841… (all of the seat's roots in one cut). By AI agents, Wed Nov 11 2026. No macro, syntax, notation, axiom, sorry.
-/
import Derived.Test.YtmcleghbpdenlaaChecked
import GoSem.Claim
import GoSem.ClaimJoined
import GoSem.ClaimMapViews
import Derived.JoinedTies
import Derived.KernelRfl
namespace Go.Proofs.Ytmcleghbpdenlaa
/- THE CELL 'sum', in the pinned program and in every row, IS THE sha256 OF THE DUMP (.gsa) THAT YtmcleghbpdenlaaProg.lean LOADS. Nothing in Lean hashes anything: it is a label: what it is worth is what the hold of that sum in a sandbox is worth. -/
noncomputable def Try.pinned : Pinned := { name := "ytmcleghbpdenlaa", sum := "67e0c4d6edb8d8415c42b83b84ef70a2633fa9da4878ee41811d3a26f3eb06ca", checked := Try.checked }
namespace Rows
def none {H : Type} : Left H := { results := [], args := [] }

/-- 'lathelaw09.MemPacks': WHATEVER THE INPUT: true; the input reads as it did. -/
def memPacksSpec : ChangeSpec := { name := "memPacks", fn := fun _ => fun
  | [d1, d2, d3] => { results := [.lit (.bool true)], args := [d1, d2, d3] }
  | _ => none }
def memPacksRow : OpenClaim := { program := "ytmcleghbpdenlaa", sum := "67e0c4d6edb8d8415c42b83b84ef70a2633fa9da4878ee41811d3a26f3eb06ca", func := "lathe/lathelaw09.MemPacks", spec := "memPacks", apart := false }
def MemPacksSaid : Prop := memPacksRow.holds Try.pinned (OpenSpec.ofChange memPacksSpec)

/-- ITS FALSE NEIGHBOUR: 'it returns false'. Refute it at one input. -/
def memPacksWrong : ChangeSpec := { name := "memPacks", fn := fun _ => fun
  | [d1, d2, d3] => { results := [.lit (.bool false)], args := [d1, d2, d3] }
  | _ => none }
def MemPacksWrongFalsely : Prop := memPacksRow.holds Try.pinned (OpenSpec.ofChange memPacksWrong)

/-- 'lathelaw09.MemBack': WHATEVER THE INPUT: true; the input reads as it did. -/
def memBackSpec : ChangeSpec := { name := "memBack", fn := fun _ => fun
  | [d1, d2] => { results := [.lit (.bool true)], args := [d1, d2] }
  | _ => none }
def memBackRow : OpenClaim := { program := "ytmcleghbpdenlaa", sum := "67e0c4d6edb8d8415c42b83b84ef70a2633fa9da4878ee41811d3a26f3eb06ca", func := "lathe/lathelaw09.MemBack", spec := "memBack", apart := false }
def MemBackSaid : Prop := memBackRow.holds Try.pinned (OpenSpec.ofChange memBackSpec)

/-- ITS FALSE NEIGHBOUR: 'it returns false'. Refute it at one input. -/
def memBackWrong : ChangeSpec := { name := "memBack", fn := fun _ => fun
  | [d1, d2] => { results := [.lit (.bool false)], args := [d1, d2] }
  | _ => none }
def MemBackWrongFalsely : Prop := memBackRow.holds Try.pinned (OpenSpec.ofChange memBackWrong)

/-- 'lathelaw12.RefinePacks': WHATEVER THE INPUT: true; the input reads as it did. -/
def refinePacksSpec : ChangeSpec := { name := "refinePacks", fn := fun _ => fun
  | [d1, d2, d3, d4, d5] => { results := [.lit (.bool true)], args := [d1, d2, d3, d4, d5] }
  | _ => none }
def refinePacksRow : OpenClaim := { program := "ytmcleghbpdenlaa", sum := "67e0c4d6edb8d8415c42b83b84ef70a2633fa9da4878ee41811d3a26f3eb06ca", func := "lathe/lathelaw12.RefinePacks", spec := "refinePacks", apart := false }
def RefinePacksSaid : Prop := refinePacksRow.holds Try.pinned (OpenSpec.ofChange refinePacksSpec)

/-- ITS FALSE NEIGHBOUR: 'it returns false'. Refute it at one input. -/
def refinePacksWrong : ChangeSpec := { name := "refinePacks", fn := fun _ => fun
  | [d1, d2, d3, d4, d5] => { results := [.lit (.bool false)], args := [d1, d2, d3, d4, d5] }
  | _ => none }
def RefinePacksWrongFalsely : Prop := refinePacksRow.holds Try.pinned (OpenSpec.ofChange refinePacksWrong)

/-- 'lathelaw01.BitsApplies': WHATEVER THE INPUT: true; the input reads as it did. -/
def bitsAppliesSpec : ChangeSpec := { name := "bitsApplies", fn := fun _ => fun
  | [d1, d2, d3, d4, d5] => { results := [.lit (.bool true)], args := [d1, d2, d3, d4, d5] }
  | _ => none }
def bitsAppliesRow : OpenClaim := { program := "ytmcleghbpdenlaa", sum := "67e0c4d6edb8d8415c42b83b84ef70a2633fa9da4878ee41811d3a26f3eb06ca", func := "lathe/lathelaw01.BitsApplies", spec := "bitsApplies", inPlace := ["math/bits.Add64"], apart := false }
def BitsAppliesSaid : Prop := bitsAppliesRow.holds Try.pinned (OpenSpec.ofChange bitsAppliesSpec)

/-- ITS FALSE NEIGHBOUR: 'it returns false'. Refute it at one input. -/
def bitsAppliesWrong : ChangeSpec := { name := "bitsApplies", fn := fun _ => fun
  | [d1, d2, d3, d4, d5] => { results := [.lit (.bool false)], args := [d1, d2, d3, d4, d5] }
  | _ => none }
def BitsAppliesWrongFalsely : Prop := bitsAppliesRow.holds Try.pinned (OpenSpec.ofChange bitsAppliesWrong)

/-- 'lathelaw01.BitsRing': WHATEVER THE INPUT: true; the input reads as it did. -/
def bitsRingSpec : ChangeSpec := { name := "bitsRing", fn := fun _ => fun
  | [d1, d2, d3, d4] => { results := [.lit (.bool true)], args := [d1, d2, d3, d4] }
  | _ => none }
def bitsRingRow : OpenClaim := { program := "ytmcleghbpdenlaa", sum := "67e0c4d6edb8d8415c42b83b84ef70a2633fa9da4878ee41811d3a26f3eb06ca", func := "lathe/lathelaw01.BitsRing", spec := "bitsRing", inPlace := ["math/bits.Add64"], apart := false }
def BitsRingSaid : Prop := bitsRingRow.holds Try.pinned (OpenSpec.ofChange bitsRingSpec)

/-- ITS FALSE NEIGHBOUR: 'it returns false'. Refute it at one input. -/
def bitsRingWrong : ChangeSpec := { name := "bitsRing", fn := fun _ => fun
  | [d1, d2, d3, d4] => { results := [.lit (.bool false)], args := [d1, d2, d3, d4] }
  | _ => none }
def BitsRingWrongFalsely : Prop := bitsRingRow.holds Try.pinned (OpenSpec.ofChange bitsRingWrong)

/-- 'lathelaw01.BitsDivide': WHATEVER THE INPUT: true; the input reads as it did. -/
def bitsDivideSpec : ChangeSpec := { name := "bitsDivide", fn := fun _ => fun
  | [d1, d2, d3] => { results := [.lit (.bool true)], args := [d1, d2, d3] }
  | _ => none }
def bitsDivideRow : OpenClaim := { program := "ytmcleghbpdenlaa", sum := "67e0c4d6edb8d8415c42b83b84ef70a2633fa9da4878ee41811d3a26f3eb06ca", func := "lathe/lathelaw01.BitsDivide", spec := "bitsDivide", inPlace := ["math/bits.Add64"], apart := false }
def BitsDivideSaid : Prop := bitsDivideRow.holds Try.pinned (OpenSpec.ofChange bitsDivideSpec)

/-- ITS FALSE NEIGHBOUR: 'it returns false'. Refute it at one input. -/
def bitsDivideWrong : ChangeSpec := { name := "bitsDivide", fn := fun _ => fun
  | [d1, d2, d3] => { results := [.lit (.bool false)], args := [d1, d2, d3] }
  | _ => none }
def BitsDivideWrongFalsely : Prop := bitsDivideRow.holds Try.pinned (OpenSpec.ofChange bitsDivideWrong)

/-- 'lathelaw01.BitsFlags': WHATEVER THE INPUT: true; the input reads as it did. -/
def bitsFlagsSpec : ChangeSpec := { name := "bitsFlags", fn := fun _ => fun
  | [d1, d2, d3, d4] => { results := [.lit (.bool true)], args := [d1, d2, d3, d4] }
  | _ => none }
def bitsFlagsRow : OpenClaim := { program := "ytmcleghbpdenlaa", sum := "67e0c4d6edb8d8415c42b83b84ef70a2633fa9da4878ee41811d3a26f3eb06ca", func := "lathe/lathelaw01.BitsFlags", spec := "bitsFlags", inPlace := ["math/bits.Add64"], apart := false }
def BitsFlagsSaid : Prop := bitsFlagsRow.holds Try.pinned (OpenSpec.ofChange bitsFlagsSpec)

/-- ITS FALSE NEIGHBOUR: 'it returns false'. Refute it at one input. -/
def bitsFlagsWrong : ChangeSpec := { name := "bitsFlags", fn := fun _ => fun
  | [d1, d2, d3, d4] => { results := [.lit (.bool false)], args := [d1, d2, d3, d4] }
  | _ => none }
def BitsFlagsWrongFalsely : Prop := bitsFlagsRow.holds Try.pinned (OpenSpec.ofChange bitsFlagsWrong)

/-- 'lathelaw01.BitsOrder': WHATEVER THE INPUT: true; the input reads as it did. -/
def bitsOrderSpec : ChangeSpec := { name := "bitsOrder", fn := fun _ => fun
  | [d1, d2, d3] => { results := [.lit (.bool true)], args := [d1, d2, d3] }
  | _ => none }
def bitsOrderRow : OpenClaim := { program := "ytmcleghbpdenlaa", sum := "67e0c4d6edb8d8415c42b83b84ef70a2633fa9da4878ee41811d3a26f3eb06ca", func := "lathe/lathelaw01.BitsOrder", spec := "bitsOrder", inPlace := ["math/bits.Add64"], apart := false }
def BitsOrderSaid : Prop := bitsOrderRow.holds Try.pinned (OpenSpec.ofChange bitsOrderSpec)

/-- ITS FALSE NEIGHBOUR: 'it returns false'. Refute it at one input. -/
def bitsOrderWrong : ChangeSpec := { name := "bitsOrder", fn := fun _ => fun
  | [d1, d2, d3] => { results := [.lit (.bool false)], args := [d1, d2, d3] }
  | _ => none }
def BitsOrderWrongFalsely : Prop := bitsOrderRow.holds Try.pinned (OpenSpec.ofChange bitsOrderWrong)

/-- 'lathelaw01.BitsShifts': WHATEVER THE INPUT: true; the input reads as it did. -/
def bitsShiftsSpec : ChangeSpec := { name := "bitsShifts", fn := fun _ => fun
  | [d1, d2, d3, d4] => { results := [.lit (.bool true)], args := [d1, d2, d3, d4] }
  | _ => none }
def bitsShiftsRow : OpenClaim := { program := "ytmcleghbpdenlaa", sum := "67e0c4d6edb8d8415c42b83b84ef70a2633fa9da4878ee41811d3a26f3eb06ca", func := "lathe/lathelaw01.BitsShifts", spec := "bitsShifts", inPlace := ["math/bits.Add64"], apart := false }
def BitsShiftsSaid : Prop := bitsShiftsRow.holds Try.pinned (OpenSpec.ofChange bitsShiftsSpec)

/-- ITS FALSE NEIGHBOUR: 'it returns false'. Refute it at one input. -/
def bitsShiftsWrong : ChangeSpec := { name := "bitsShifts", fn := fun _ => fun
  | [d1, d2, d3, d4] => { results := [.lit (.bool false)], args := [d1, d2, d3, d4] }
  | _ => none }
def BitsShiftsWrongFalsely : Prop := bitsShiftsRow.holds Try.pinned (OpenSpec.ofChange bitsShiftsWrong)

/-- 'lathelaw01.BitsLogic': WHATEVER THE INPUT: true; the input reads as it did. -/
def bitsLogicSpec : ChangeSpec := { name := "bitsLogic", fn := fun _ => fun
  | [d1, d2, d3] => { results := [.lit (.bool true)], args := [d1, d2, d3] }
  | _ => none }
def bitsLogicRow : OpenClaim := { program := "ytmcleghbpdenlaa", sum := "67e0c4d6edb8d8415c42b83b84ef70a2633fa9da4878ee41811d3a26f3eb06ca", func := "lathe/lathelaw01.BitsLogic", spec := "bitsLogic", inPlace := ["math/bits.Add64"], unfollowed := true, recurses := true, apart := false }
def BitsLogicSaid : Prop := bitsLogicRow.holds Try.pinned (OpenSpec.ofChange bitsLogicSpec)

/-- ITS FALSE NEIGHBOUR: 'it returns false'. Refute it at one input. -/
def bitsLogicWrong : ChangeSpec := { name := "bitsLogic", fn := fun _ => fun
  | [d1, d2, d3] => { results := [.lit (.bool false)], args := [d1, d2, d3] }
  | _ => none }
def BitsLogicWrongFalsely : Prop := bitsLogicRow.holds Try.pinned (OpenSpec.ofChange bitsLogicWrong)

/-- 'lathelaw01.BitsConverts': WHATEVER THE INPUT: true; the input reads as it did. -/
def bitsConvertsSpec : ChangeSpec := { name := "bitsConverts", fn := fun _ => fun
  | [d1, d2, d3, d4] => { results := [.lit (.bool true)], args := [d1, d2, d3, d4] }
  | _ => none }
def bitsConvertsRow : OpenClaim := { program := "ytmcleghbpdenlaa", sum := "67e0c4d6edb8d8415c42b83b84ef70a2633fa9da4878ee41811d3a26f3eb06ca", func := "lathe/lathelaw01.BitsConverts", spec := "bitsConverts", inPlace := ["math/bits.Add64"], apart := false }
def BitsConvertsSaid : Prop := bitsConvertsRow.holds Try.pinned (OpenSpec.ofChange bitsConvertsSpec)

/-- ITS FALSE NEIGHBOUR: 'it returns false'. Refute it at one input. -/
def bitsConvertsWrong : ChangeSpec := { name := "bitsConverts", fn := fun _ => fun
  | [d1, d2, d3, d4] => { results := [.lit (.bool false)], args := [d1, d2, d3, d4] }
  | _ => none }
def BitsConvertsWrongFalsely : Prop := bitsConvertsRow.holds Try.pinned (OpenSpec.ofChange bitsConvertsWrong)

/-- 'lathelaw01.BitsBack': WHATEVER THE INPUT: true; the input reads as it did. -/
def bitsBackSpec : ChangeSpec := { name := "bitsBack", fn := fun _ => fun
  | [d1, d2, d3, d4] => { results := [.lit (.bool true)], args := [d1, d2, d3, d4] }
  | _ => none }
def bitsBackRow : OpenClaim := { program := "ytmcleghbpdenlaa", sum := "67e0c4d6edb8d8415c42b83b84ef70a2633fa9da4878ee41811d3a26f3eb06ca", func := "lathe/lathelaw01.BitsBack", spec := "bitsBack", inPlace := ["math/bits.Add64"], apart := false }
def BitsBackSaid : Prop := bitsBackRow.holds Try.pinned (OpenSpec.ofChange bitsBackSpec)

/-- ITS FALSE NEIGHBOUR: 'it returns false'. Refute it at one input. -/
def bitsBackWrong : ChangeSpec := { name := "bitsBack", fn := fun _ => fun
  | [d1, d2, d3, d4] => { results := [.lit (.bool false)], args := [d1, d2, d3, d4] }
  | _ => none }
def BitsBackWrongFalsely : Prop := bitsBackRow.holds Try.pinned (OpenSpec.ofChange bitsBackWrong)

/- THE SECOND FORM. 'bulk': how many values and letters a reading holds, each counted each time it is reached (what is shared counts as often as it is met; a slice's spare places count too). A statement '..UptoSaid' is the law's where the arguments, and the package variables that the reading takes, are together of bulk at most 1048576: NARROWER than '..Said'. Prove '..Said' where nothing that the law and all that it calls make is longer than what came in: it says more and counts as full. Else prove '..UptoSaid'. A law counts once. -/
mutual
def uptoBulk {H : Type} : DataW H → Nat
  | .lit (.string bytes) => bytes.length + 1
  | .lit _ => 1
  | .nil => 1
  | .ptr d => uptoBulk d + 1
  | .slice elems spare => uptoBulkAll elems + uptoBulkAll spare + 1
  | .agg parts => uptoBulkAll parts + 1
  | .iface _ d => uptoBulk d + 1
  | .map entries => uptoBulkEntries entries + 1
  | .held _ => 1
def uptoBulkAll {H : Type} : List (DataW H) → Nat
  | [] => 0
  | d :: r => uptoBulk d + uptoBulkAll r
def uptoBulkEntries {H : Type} : List (Lit × DataW H) → Nat
  | [] => 0
  | x :: r => uptoBulkEntry x + uptoBulkEntries r
def uptoBulkEntry {H : Type} : Lit × DataW H → Nat
  | (.string bytes, d) => bytes.length + uptoBulk d + 1
  | (_, d) => uptoBulk d + 1
 end
def uptoSmall : (H : Type) → List (DataW H) → Bool := fun _ ds => decide (uptoBulkAll ds ≤ 1048576)
def OpenSpec.upto (s : _root_.Go.ChangeSpec) : _root_.Go.OpenSpec := { _root_.Go.OpenSpec.ofChange s with cond := some uptoSmall }

/-- 'lathelaw09.MemPacks', WHERE WHAT IT READS IS OF BULK AT MOST 1048576: true; the input reads as it did. -/
def memPacksUptoRow : OpenClaim := { program := "ytmcleghbpdenlaa", sum := "67e0c4d6edb8d8415c42b83b84ef70a2633fa9da4878ee41811d3a26f3eb06ca", func := "lathe/lathelaw09.MemPacks", spec := "memPacks", apart := false, narrowed := true }
def MemPacksUptoSaid : Prop := memPacksUptoRow.holds Try.pinned (OpenSpec.upto memPacksSpec)

/-- 'lathelaw09.MemBack', WHERE WHAT IT READS IS OF BULK AT MOST 1048576: true; the input reads as it did. -/
def memBackUptoRow : OpenClaim := { program := "ytmcleghbpdenlaa", sum := "67e0c4d6edb8d8415c42b83b84ef70a2633fa9da4878ee41811d3a26f3eb06ca", func := "lathe/lathelaw09.MemBack", spec := "memBack", apart := false, narrowed := true }
def MemBackUptoSaid : Prop := memBackUptoRow.holds Try.pinned (OpenSpec.upto memBackSpec)

/-- 'lathelaw12.RefinePacks', WHERE WHAT IT READS IS OF BULK AT MOST 1048576: true; the input reads as it did. -/
def refinePacksUptoRow : OpenClaim := { program := "ytmcleghbpdenlaa", sum := "67e0c4d6edb8d8415c42b83b84ef70a2633fa9da4878ee41811d3a26f3eb06ca", func := "lathe/lathelaw12.RefinePacks", spec := "refinePacks", apart := false, narrowed := true }
def RefinePacksUptoSaid : Prop := refinePacksUptoRow.holds Try.pinned (OpenSpec.upto refinePacksSpec)

/-- 'lathelaw01.BitsApplies', WHERE WHAT IT READS IS OF BULK AT MOST 1048576: true; the input reads as it did. -/
def bitsAppliesUptoRow : OpenClaim := { program := "ytmcleghbpdenlaa", sum := "67e0c4d6edb8d8415c42b83b84ef70a2633fa9da4878ee41811d3a26f3eb06ca", func := "lathe/lathelaw01.BitsApplies", spec := "bitsApplies", inPlace := ["math/bits.Add64"], apart := false, narrowed := true }
def BitsAppliesUptoSaid : Prop := bitsAppliesUptoRow.holds Try.pinned (OpenSpec.upto bitsAppliesSpec)

/-- 'lathelaw01.BitsRing', WHERE WHAT IT READS IS OF BULK AT MOST 1048576: true; the input reads as it did. -/
def bitsRingUptoRow : OpenClaim := { program := "ytmcleghbpdenlaa", sum := "67e0c4d6edb8d8415c42b83b84ef70a2633fa9da4878ee41811d3a26f3eb06ca", func := "lathe/lathelaw01.BitsRing", spec := "bitsRing", inPlace := ["math/bits.Add64"], apart := false, narrowed := true }
def BitsRingUptoSaid : Prop := bitsRingUptoRow.holds Try.pinned (OpenSpec.upto bitsRingSpec)

/-- 'lathelaw01.BitsDivide', WHERE WHAT IT READS IS OF BULK AT MOST 1048576: true; the input reads as it did. -/
def bitsDivideUptoRow : OpenClaim := { program := "ytmcleghbpdenlaa", sum := "67e0c4d6edb8d8415c42b83b84ef70a2633fa9da4878ee41811d3a26f3eb06ca", func := "lathe/lathelaw01.BitsDivide", spec := "bitsDivide", inPlace := ["math/bits.Add64"], apart := false, narrowed := true }
def BitsDivideUptoSaid : Prop := bitsDivideUptoRow.holds Try.pinned (OpenSpec.upto bitsDivideSpec)

/-- 'lathelaw01.BitsFlags', WHERE WHAT IT READS IS OF BULK AT MOST 1048576: true; the input reads as it did. -/
def bitsFlagsUptoRow : OpenClaim := { program := "ytmcleghbpdenlaa", sum := "67e0c4d6edb8d8415c42b83b84ef70a2633fa9da4878ee41811d3a26f3eb06ca", func := "lathe/lathelaw01.BitsFlags", spec := "bitsFlags", inPlace := ["math/bits.Add64"], apart := false, narrowed := true }
def BitsFlagsUptoSaid : Prop := bitsFlagsUptoRow.holds Try.pinned (OpenSpec.upto bitsFlagsSpec)

/-- 'lathelaw01.BitsOrder', WHERE WHAT IT READS IS OF BULK AT MOST 1048576: true; the input reads as it did. -/
def bitsOrderUptoRow : OpenClaim := { program := "ytmcleghbpdenlaa", sum := "67e0c4d6edb8d8415c42b83b84ef70a2633fa9da4878ee41811d3a26f3eb06ca", func := "lathe/lathelaw01.BitsOrder", spec := "bitsOrder", inPlace := ["math/bits.Add64"], apart := false, narrowed := true }
def BitsOrderUptoSaid : Prop := bitsOrderUptoRow.holds Try.pinned (OpenSpec.upto bitsOrderSpec)

/-- 'lathelaw01.BitsShifts', WHERE WHAT IT READS IS OF BULK AT MOST 1048576: true; the input reads as it did. -/
def bitsShiftsUptoRow : OpenClaim := { program := "ytmcleghbpdenlaa", sum := "67e0c4d6edb8d8415c42b83b84ef70a2633fa9da4878ee41811d3a26f3eb06ca", func := "lathe/lathelaw01.BitsShifts", spec := "bitsShifts", inPlace := ["math/bits.Add64"], apart := false, narrowed := true }
def BitsShiftsUptoSaid : Prop := bitsShiftsUptoRow.holds Try.pinned (OpenSpec.upto bitsShiftsSpec)

/-- 'lathelaw01.BitsLogic', WHERE WHAT IT READS IS OF BULK AT MOST 1048576: true; the input reads as it did. -/
def bitsLogicUptoRow : OpenClaim := { program := "ytmcleghbpdenlaa", sum := "67e0c4d6edb8d8415c42b83b84ef70a2633fa9da4878ee41811d3a26f3eb06ca", func := "lathe/lathelaw01.BitsLogic", spec := "bitsLogic", inPlace := ["math/bits.Add64"], unfollowed := true, recurses := true, apart := false, narrowed := true }
def BitsLogicUptoSaid : Prop := bitsLogicUptoRow.holds Try.pinned (OpenSpec.upto bitsLogicSpec)

/-- 'lathelaw01.BitsConverts', WHERE WHAT IT READS IS OF BULK AT MOST 1048576: true; the input reads as it did. -/
def bitsConvertsUptoRow : OpenClaim := { program := "ytmcleghbpdenlaa", sum := "67e0c4d6edb8d8415c42b83b84ef70a2633fa9da4878ee41811d3a26f3eb06ca", func := "lathe/lathelaw01.BitsConverts", spec := "bitsConverts", inPlace := ["math/bits.Add64"], apart := false, narrowed := true }
def BitsConvertsUptoSaid : Prop := bitsConvertsUptoRow.holds Try.pinned (OpenSpec.upto bitsConvertsSpec)

/-- 'lathelaw01.BitsBack', WHERE WHAT IT READS IS OF BULK AT MOST 1048576: true; the input reads as it did. -/
def bitsBackUptoRow : OpenClaim := { program := "ytmcleghbpdenlaa", sum := "67e0c4d6edb8d8415c42b83b84ef70a2633fa9da4878ee41811d3a26f3eb06ca", func := "lathe/lathelaw01.BitsBack", spec := "bitsBack", inPlace := ["math/bits.Add64"], apart := false, narrowed := true }
def BitsBackUptoSaid : Prop := bitsBackUptoRow.holds Try.pinned (OpenSpec.upto bitsBackSpec)

end Rows
end Go.Proofs.Ytmcleghbpdenlaa
