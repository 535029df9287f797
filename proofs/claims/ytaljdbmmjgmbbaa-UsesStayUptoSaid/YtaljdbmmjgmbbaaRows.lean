/-
  No cell of these rows narrows 'for every input' (looked for: loops, veiled, ifaces, maps, wideKeys, modest, calm, conditions, laid).
  DERIVED. THE GIVEN ROWS OF THIS SEAT. 11 by the template 'for every input the law returns true; each argument reads behind the call as it read before'; 0 by the template 'total and deterministic' (their statements: YtaljdbmmjgmbbaaTotals.lean).
  GIVEN WITH THE SEED: the statements are not yours to turn. If you find one false, say at which input.
  Laid BY PROGRAM, IN A SANDBOX (cutbox-rows.mjs): the forced cells as the released guide's own fill.sh prints them over the translation dc32d8e10714a0d0… (all of the seat's roots in one cut). By AI agents, Wed Nov 11 2026. No macro, syntax, notation, axiom, sorry.
-/
import Derived.Test.YtaljdbmmjgmbbaaChecked
import GoSem.Claim
import GoSem.ClaimJoined
import GoSem.ClaimMapViews
import Derived.JoinedTies
import Derived.KernelRfl
namespace Go.Proofs.Ytaljdbmmjgmbbaa
/- THE CELL 'sum', in the pinned program and in every row, IS THE sha256 OF THE DUMP (.gsa) THAT YtaljdbmmjgmbbaaProg.lean LOADS. Nothing in Lean hashes anything: it is a label: what it is worth is what the hold of that sum in a sandbox is worth. -/
noncomputable def Try.pinned : Pinned := { name := "ytaljdbmmjgmbbaa", sum := "dc32d8e10714a0d011c3a7b4a3ea27400eb96198508fc60ecbf3686702881e05", checked := Try.checked }
namespace Rows
def none {H : Type} : Left H := { results := [], args := [] }

/-- 'lathelaw18.AliasPairs': WHATEVER THE INPUT: true; the input reads as it did. -/
def aliasPairsSpec : ChangeSpec := { name := "aliasPairs", fn := fun _ => fun
  | [d1, d2, d3, d4, d5, d6, d7] => { results := [.lit (.bool true)], args := [d1, d2, d3, d4, d5, d6, d7] }
  | _ => none }
def aliasPairsRow : OpenClaim := { program := "ytaljdbmmjgmbbaa", sum := "dc32d8e10714a0d011c3a7b4a3ea27400eb96198508fc60ecbf3686702881e05", func := "lathe/lathelaw18.AliasPairs", spec := "aliasPairs", unfollowed := true, recurses := true, apart := false }
def AliasPairsSaid : Prop := aliasPairsRow.holds Try.pinned (OpenSpec.ofChange aliasPairsSpec)

/-- ITS FALSE NEIGHBOUR: 'it returns false'. Refute it at one input. -/
def aliasPairsWrong : ChangeSpec := { name := "aliasPairs", fn := fun _ => fun
  | [d1, d2, d3, d4, d5, d6, d7] => { results := [.lit (.bool false)], args := [d1, d2, d3, d4, d5, d6, d7] }
  | _ => none }
def AliasPairsWrongFalsely : Prop := aliasPairsRow.holds Try.pinned (OpenSpec.ofChange aliasPairsWrong)

/-- 'lathelaw18.AliasKin': WHATEVER THE INPUT: true; the input reads as it did. -/
def aliasKinSpec : ChangeSpec := { name := "aliasKin", fn := fun _ => fun
  | [d] => { results := [.lit (.bool true)], args := [d] }
  | _ => none }
def aliasKinRow : OpenClaim := { program := "ytaljdbmmjgmbbaa", sum := "dc32d8e10714a0d011c3a7b4a3ea27400eb96198508fc60ecbf3686702881e05", func := "lathe/lathelaw18.AliasKin", spec := "aliasKin", unfollowed := true, recurses := true, apart := false }
def AliasKinSaid : Prop := aliasKinRow.holds Try.pinned (OpenSpec.ofChange aliasKinSpec)

/-- ITS FALSE NEIGHBOUR: 'it returns false'. Refute it at one input. -/
def aliasKinWrong : ChangeSpec := { name := "aliasKin", fn := fun _ => fun
  | [d] => { results := [.lit (.bool false)], args := [d] }
  | _ => none }
def AliasKinWrongFalsely : Prop := aliasKinRow.holds Try.pinned (OpenSpec.ofChange aliasKinWrong)

/-- 'lathelaw18.AliasShifts': WHATEVER THE INPUT: true; the input reads as it did. -/
def aliasShiftsSpec : ChangeSpec := { name := "aliasShifts", fn := fun _ => fun
  | [d1, d2, d3, d4, d5, d6] => { results := [.lit (.bool true)], args := [d1, d2, d3, d4, d5, d6] }
  | _ => none }
def aliasShiftsRow : OpenClaim := { program := "ytaljdbmmjgmbbaa", sum := "dc32d8e10714a0d011c3a7b4a3ea27400eb96198508fc60ecbf3686702881e05", func := "lathe/lathelaw18.AliasShifts", spec := "aliasShifts", unfollowed := true, recurses := true, apart := false }
def AliasShiftsSaid : Prop := aliasShiftsRow.holds Try.pinned (OpenSpec.ofChange aliasShiftsSpec)

/-- ITS FALSE NEIGHBOUR: 'it returns false'. Refute it at one input. -/
def aliasShiftsWrong : ChangeSpec := { name := "aliasShifts", fn := fun _ => fun
  | [d1, d2, d3, d4, d5, d6] => { results := [.lit (.bool false)], args := [d1, d2, d3, d4, d5, d6] }
  | _ => none }
def AliasShiftsWrongFalsely : Prop := aliasShiftsRow.holds Try.pinned (OpenSpec.ofChange aliasShiftsWrong)

/-- 'lathelaw02.IrReplaces': WHATEVER THE INPUT: true; the input reads as it did. -/
def irReplacesSpec : ChangeSpec := { name := "irReplaces", fn := fun _ => fun
  | [d1, d2, d3, d4] => { results := [.lit (.bool true)], args := [d1, d2, d3, d4] }
  | _ => none }
def irReplacesRow : OpenClaim := { program := "ytaljdbmmjgmbbaa", sum := "dc32d8e10714a0d011c3a7b4a3ea27400eb96198508fc60ecbf3686702881e05", func := "lathe/lathelaw02.IrReplaces", spec := "irReplaces", unfollowed := true, recurses := true, apart := false }
def IrReplacesSaid : Prop := irReplacesRow.holds Try.pinned (OpenSpec.ofChange irReplacesSpec)

/-- ITS FALSE NEIGHBOUR: 'it returns false'. Refute it at one input. -/
def irReplacesWrong : ChangeSpec := { name := "irReplaces", fn := fun _ => fun
  | [d1, d2, d3, d4] => { results := [.lit (.bool false)], args := [d1, d2, d3, d4] }
  | _ => none }
def IrReplacesWrongFalsely : Prop := irReplacesRow.holds Try.pinned (OpenSpec.ofChange irReplacesWrong)

/-- 'lathelaw14.UsesStay': WHATEVER THE INPUT: true; the input reads as it did. -/
def usesStaySpec : ChangeSpec := { name := "usesStay", fn := fun _ => fun
  | [d] => { results := [.lit (.bool true)], args := [d] }
  | _ => none }
def usesStayRow : OpenClaim := { program := "ytaljdbmmjgmbbaa", sum := "dc32d8e10714a0d011c3a7b4a3ea27400eb96198508fc60ecbf3686702881e05", func := "lathe/lathelaw14.UsesStay", spec := "usesStay", unfollowed := true, recurses := true, apart := false }
def UsesStaySaid : Prop := usesStayRow.holds Try.pinned (OpenSpec.ofChange usesStaySpec)

/-- ITS FALSE NEIGHBOUR: 'it returns false'. Refute it at one input. -/
def usesStayWrong : ChangeSpec := { name := "usesStay", fn := fun _ => fun
  | [d] => { results := [.lit (.bool false)], args := [d] }
  | _ => none }
def UsesStayWrongFalsely : Prop := usesStayRow.holds Try.pinned (OpenSpec.ofChange usesStayWrong)

/-- 'lathelaw07.DomAsks': WHATEVER THE INPUT: true; the input reads as it did. -/
def domAsksSpec : ChangeSpec := { name := "domAsks", fn := fun _ => fun
  | [d1, d2, d3] => { results := [.lit (.bool true)], args := [d1, d2, d3] }
  | _ => none }
def domAsksRow : OpenClaim := { program := "ytaljdbmmjgmbbaa", sum := "dc32d8e10714a0d011c3a7b4a3ea27400eb96198508fc60ecbf3686702881e05", func := "lathe/lathelaw07.DomAsks", spec := "domAsks", apart := false }
def DomAsksSaid : Prop := domAsksRow.holds Try.pinned (OpenSpec.ofChange domAsksSpec)

/-- ITS FALSE NEIGHBOUR: 'it returns false'. Refute it at one input. -/
def domAsksWrong : ChangeSpec := { name := "domAsks", fn := fun _ => fun
  | [d1, d2, d3] => { results := [.lit (.bool false)], args := [d1, d2, d3] }
  | _ => none }
def DomAsksWrongFalsely : Prop := domAsksRow.holds Try.pinned (OpenSpec.ofChange domAsksWrong)

/-- 'lathelaw07.DomOrders': WHATEVER THE INPUT: true; the input reads as it did. -/
def domOrdersSpec : ChangeSpec := { name := "domOrders", fn := fun _ => fun
  | [d1, d2, d3, d4] => { results := [.lit (.bool true)], args := [d1, d2, d3, d4] }
  | _ => none }
def domOrdersRow : OpenClaim := { program := "ytaljdbmmjgmbbaa", sum := "dc32d8e10714a0d011c3a7b4a3ea27400eb96198508fc60ecbf3686702881e05", func := "lathe/lathelaw07.DomOrders", spec := "domOrders", apart := false }
def DomOrdersSaid : Prop := domOrdersRow.holds Try.pinned (OpenSpec.ofChange domOrdersSpec)

/-- ITS FALSE NEIGHBOUR: 'it returns false'. Refute it at one input. -/
def domOrdersWrong : ChangeSpec := { name := "domOrders", fn := fun _ => fun
  | [d1, d2, d3, d4] => { results := [.lit (.bool false)], args := [d1, d2, d3, d4] }
  | _ => none }
def DomOrdersWrongFalsely : Prop := domOrdersRow.holds Try.pinned (OpenSpec.ofChange domOrdersWrong)

/-- 'lathelaw07.DomStands': WHATEVER THE INPUT: true; the input reads as it did. -/
def domStandsSpec : ChangeSpec := { name := "domStands", fn := fun _ => fun
  | [d] => { results := [.lit (.bool true)], args := [d] }
  | _ => none }
def domStandsRow : OpenClaim := { program := "ytaljdbmmjgmbbaa", sum := "dc32d8e10714a0d011c3a7b4a3ea27400eb96198508fc60ecbf3686702881e05", func := "lathe/lathelaw07.DomStands", spec := "domStands", apart := false }
def DomStandsSaid : Prop := domStandsRow.holds Try.pinned (OpenSpec.ofChange domStandsSpec)

/-- ITS FALSE NEIGHBOUR: 'it returns false'. Refute it at one input. -/
def domStandsWrong : ChangeSpec := { name := "domStands", fn := fun _ => fun
  | [d] => { results := [.lit (.bool false)], args := [d] }
  | _ => none }
def DomStandsWrongFalsely : Prop := domStandsRow.holds Try.pinned (OpenSpec.ofChange domStandsWrong)

/-- 'lathelaw07.DomPermutes': WHATEVER THE INPUT: true; the input reads as it did. -/
def domPermutesSpec : ChangeSpec := { name := "domPermutes", fn := fun _ => fun
  | [d1, d2, d3] => { results := [.lit (.bool true)], args := [d1, d2, d3] }
  | _ => none }
def domPermutesRow : OpenClaim := { program := "ytaljdbmmjgmbbaa", sum := "dc32d8e10714a0d011c3a7b4a3ea27400eb96198508fc60ecbf3686702881e05", func := "lathe/lathelaw07.DomPermutes", spec := "domPermutes", apart := false }
def DomPermutesSaid : Prop := domPermutesRow.holds Try.pinned (OpenSpec.ofChange domPermutesSpec)

/-- ITS FALSE NEIGHBOUR: 'it returns false'. Refute it at one input. -/
def domPermutesWrong : ChangeSpec := { name := "domPermutes", fn := fun _ => fun
  | [d1, d2, d3] => { results := [.lit (.bool false)], args := [d1, d2, d3] }
  | _ => none }
def DomPermutesWrongFalsely : Prop := domPermutesRow.holds Try.pinned (OpenSpec.ofChange domPermutesWrong)

/-- 'lathelaw02.IrCopies': WHATEVER THE INPUT: true; the input reads as it did. -/
def irCopiesSpec : ChangeSpec := { name := "irCopies", fn := fun _ => fun
  | [d1, d2] => { results := [.lit (.bool true)], args := [d1, d2] }
  | _ => none }
def irCopiesRow : OpenClaim := { program := "ytaljdbmmjgmbbaa", sum := "dc32d8e10714a0d011c3a7b4a3ea27400eb96198508fc60ecbf3686702881e05", func := "lathe/lathelaw02.IrCopies", spec := "irCopies", unfollowed := true, recurses := true, apart := false }
def IrCopiesSaid : Prop := irCopiesRow.holds Try.pinned (OpenSpec.ofChange irCopiesSpec)

/-- ITS FALSE NEIGHBOUR: 'it returns false'. Refute it at one input. -/
def irCopiesWrong : ChangeSpec := { name := "irCopies", fn := fun _ => fun
  | [d1, d2] => { results := [.lit (.bool false)], args := [d1, d2] }
  | _ => none }
def IrCopiesWrongFalsely : Prop := irCopiesRow.holds Try.pinned (OpenSpec.ofChange irCopiesWrong)

/-- 'lathelaw07.DomCounts': WHATEVER THE INPUT: true; the input reads as it did. -/
def domCountsSpec : ChangeSpec := { name := "domCounts", fn := fun _ => fun
  | [d] => { results := [.lit (.bool true)], args := [d] }
  | _ => none }
def domCountsRow : OpenClaim := { program := "ytaljdbmmjgmbbaa", sum := "dc32d8e10714a0d011c3a7b4a3ea27400eb96198508fc60ecbf3686702881e05", func := "lathe/lathelaw07.DomCounts", spec := "domCounts", apart := false }
def DomCountsSaid : Prop := domCountsRow.holds Try.pinned (OpenSpec.ofChange domCountsSpec)

/-- ITS FALSE NEIGHBOUR: 'it returns false'. Refute it at one input. -/
def domCountsWrong : ChangeSpec := { name := "domCounts", fn := fun _ => fun
  | [d] => { results := [.lit (.bool false)], args := [d] }
  | _ => none }
def DomCountsWrongFalsely : Prop := domCountsRow.holds Try.pinned (OpenSpec.ofChange domCountsWrong)

/- THE SECOND FORM. 'bulk': how many values and letters a reading holds, each counted each time it is reached (what is shared counts as often as it is met; a slice's spare places count too). A statement '..UptoSaid' is the law's where the arguments, and the package variables that the reading takes, are together of bulk at most 1048576: NARROWER than '..Said'. Prove '..Said' where nothing that the law and all that it calls make is longer than what came in: it says more and counts as full. Else prove '..UptoSaid'. A law counts once. -/
mutual
def uptoBulk {H : Type} : DataW H → Nat
  | .lit (.string bytes) => bytes.length + 1
  | .lit _ => 1
  | .nil => 1
  | .ptr d => uptoBulk d + 1
  | .slice elems spare => uptoBulkAll elems + uptoBulkAll spare + 1
  | .agg parts => uptoBulkAll parts + 1
  | .iface _ d => uptoBulk d + 1
  | .map entries => uptoBulkEntries entries + 1
  | .held _ => 1
def uptoBulkAll {H : Type} : List (DataW H) → Nat
  | [] => 0
  | d :: r => uptoBulk d + uptoBulkAll r
def uptoBulkEntries {H : Type} : List (Lit × DataW H) → Nat
  | [] => 0
  | x :: r => uptoBulkEntry x + uptoBulkEntries r
def uptoBulkEntry {H : Type} : Lit × DataW H → Nat
  | (.string bytes, d) => bytes.length + uptoBulk d + 1
  | (_, d) => uptoBulk d + 1
 end
def uptoSmall : (H : Type) → List (DataW H) → Bool := fun _ ds => decide (uptoBulkAll ds ≤ 1048576)
def OpenSpec.upto (s : _root_.Go.ChangeSpec) : _root_.Go.OpenSpec := { _root_.Go.OpenSpec.ofChange s with cond := some uptoSmall }

/-- 'lathelaw18.AliasPairs', WHERE WHAT IT READS IS OF BULK AT MOST 1048576: true; the input reads as it did. -/
def aliasPairsUptoRow : OpenClaim := { program := "ytaljdbmmjgmbbaa", sum := "dc32d8e10714a0d011c3a7b4a3ea27400eb96198508fc60ecbf3686702881e05", func := "lathe/lathelaw18.AliasPairs", spec := "aliasPairs", unfollowed := true, recurses := true, apart := false, narrowed := true }
def AliasPairsUptoSaid : Prop := aliasPairsUptoRow.holds Try.pinned (OpenSpec.upto aliasPairsSpec)

/-- 'lathelaw18.AliasKin', WHERE WHAT IT READS IS OF BULK AT MOST 1048576: true; the input reads as it did. -/
def aliasKinUptoRow : OpenClaim := { program := "ytaljdbmmjgmbbaa", sum := "dc32d8e10714a0d011c3a7b4a3ea27400eb96198508fc60ecbf3686702881e05", func := "lathe/lathelaw18.AliasKin", spec := "aliasKin", unfollowed := true, recurses := true, apart := false, narrowed := true }
def AliasKinUptoSaid : Prop := aliasKinUptoRow.holds Try.pinned (OpenSpec.upto aliasKinSpec)

/-- 'lathelaw18.AliasShifts', WHERE WHAT IT READS IS OF BULK AT MOST 1048576: true; the input reads as it did. -/
def aliasShiftsUptoRow : OpenClaim := { program := "ytaljdbmmjgmbbaa", sum := "dc32d8e10714a0d011c3a7b4a3ea27400eb96198508fc60ecbf3686702881e05", func := "lathe/lathelaw18.AliasShifts", spec := "aliasShifts", unfollowed := true, recurses := true, apart := false, narrowed := true }
def AliasShiftsUptoSaid : Prop := aliasShiftsUptoRow.holds Try.pinned (OpenSpec.upto aliasShiftsSpec)

/-- 'lathelaw02.IrReplaces', WHERE WHAT IT READS IS OF BULK AT MOST 1048576: true; the input reads as it did. -/
def irReplacesUptoRow : OpenClaim := { program := "ytaljdbmmjgmbbaa", sum := "dc32d8e10714a0d011c3a7b4a3ea27400eb96198508fc60ecbf3686702881e05", func := "lathe/lathelaw02.IrReplaces", spec := "irReplaces", unfollowed := true, recurses := true, apart := false, narrowed := true }
def IrReplacesUptoSaid : Prop := irReplacesUptoRow.holds Try.pinned (OpenSpec.upto irReplacesSpec)

/-- 'lathelaw14.UsesStay', WHERE WHAT IT READS IS OF BULK AT MOST 1048576: true; the input reads as it did. -/
def usesStayUptoRow : OpenClaim := { program := "ytaljdbmmjgmbbaa", sum := "dc32d8e10714a0d011c3a7b4a3ea27400eb96198508fc60ecbf3686702881e05", func := "lathe/lathelaw14.UsesStay", spec := "usesStay", unfollowed := true, recurses := true, apart := false, narrowed := true }
def UsesStayUptoSaid : Prop := usesStayUptoRow.holds Try.pinned (OpenSpec.upto usesStaySpec)

/-- 'lathelaw07.DomAsks', WHERE WHAT IT READS IS OF BULK AT MOST 1048576: true; the input reads as it did. -/
def domAsksUptoRow : OpenClaim := { program := "ytaljdbmmjgmbbaa", sum := "dc32d8e10714a0d011c3a7b4a3ea27400eb96198508fc60ecbf3686702881e05", func := "lathe/lathelaw07.DomAsks", spec := "domAsks", apart := false, narrowed := true }
def DomAsksUptoSaid : Prop := domAsksUptoRow.holds Try.pinned (OpenSpec.upto domAsksSpec)

/-- 'lathelaw07.DomOrders', WHERE WHAT IT READS IS OF BULK AT MOST 1048576: true; the input reads as it did. -/
def domOrdersUptoRow : OpenClaim := { program := "ytaljdbmmjgmbbaa", sum := "dc32d8e10714a0d011c3a7b4a3ea27400eb96198508fc60ecbf3686702881e05", func := "lathe/lathelaw07.DomOrders", spec := "domOrders", apart := false, narrowed := true }
def DomOrdersUptoSaid : Prop := domOrdersUptoRow.holds Try.pinned (OpenSpec.upto domOrdersSpec)

/-- 'lathelaw07.DomStands', WHERE WHAT IT READS IS OF BULK AT MOST 1048576: true; the input reads as it did. -/
def domStandsUptoRow : OpenClaim := { program := "ytaljdbmmjgmbbaa", sum := "dc32d8e10714a0d011c3a7b4a3ea27400eb96198508fc60ecbf3686702881e05", func := "lathe/lathelaw07.DomStands", spec := "domStands", apart := false, narrowed := true }
def DomStandsUptoSaid : Prop := domStandsUptoRow.holds Try.pinned (OpenSpec.upto domStandsSpec)

/-- 'lathelaw07.DomPermutes', WHERE WHAT IT READS IS OF BULK AT MOST 1048576: true; the input reads as it did. -/
def domPermutesUptoRow : OpenClaim := { program := "ytaljdbmmjgmbbaa", sum := "dc32d8e10714a0d011c3a7b4a3ea27400eb96198508fc60ecbf3686702881e05", func := "lathe/lathelaw07.DomPermutes", spec := "domPermutes", apart := false, narrowed := true }
def DomPermutesUptoSaid : Prop := domPermutesUptoRow.holds Try.pinned (OpenSpec.upto domPermutesSpec)

/-- 'lathelaw02.IrCopies', WHERE WHAT IT READS IS OF BULK AT MOST 1048576: true; the input reads as it did. -/
def irCopiesUptoRow : OpenClaim := { program := "ytaljdbmmjgmbbaa", sum := "dc32d8e10714a0d011c3a7b4a3ea27400eb96198508fc60ecbf3686702881e05", func := "lathe/lathelaw02.IrCopies", spec := "irCopies", unfollowed := true, recurses := true, apart := false, narrowed := true }
def IrCopiesUptoSaid : Prop := irCopiesUptoRow.holds Try.pinned (OpenSpec.upto irCopiesSpec)

/-- 'lathelaw07.DomCounts', WHERE WHAT IT READS IS OF BULK AT MOST 1048576: true; the input reads as it did. -/
def domCountsUptoRow : OpenClaim := { program := "ytaljdbmmjgmbbaa", sum := "dc32d8e10714a0d011c3a7b4a3ea27400eb96198508fc60ecbf3686702881e05", func := "lathe/lathelaw07.DomCounts", spec := "domCounts", apart := false, narrowed := true }
def DomCountsUptoSaid : Prop := domCountsUptoRow.holds Try.pinned (OpenSpec.upto domCountsSpec)

end Rows
end Go.Proofs.Ytaljdbmmjgmbbaa
