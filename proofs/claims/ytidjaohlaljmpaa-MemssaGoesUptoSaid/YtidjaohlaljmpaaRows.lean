/-
  No cell of these rows narrows 'for every input' (looked for: loops, veiled, ifaces, maps, wideKeys, modest, calm, conditions, laid).
  DERIVED. THE GIVEN ROWS OF THIS SEAT. 8 by the template 'for every input the law returns true; each argument reads behind the call as it read before'; 0 by the template 'total and deterministic' (their statements: YtidjaohlaljmpaaTotals.lean).
  GIVEN WITH THE SEED: the statements are not yours to turn. If you find one false, say at which input.
  Laid BY PROGRAM, IN A SANDBOX (cutbox-rows.mjs): the forced cells as the released guide's own fill.sh prints them over the translation e5e1d164a1b7e25d… (all of the seat's roots in one cut). By AI agents, Wed Nov 11 2026. No macro, syntax, notation, axiom, sorry.
-/
import Derived.Test.YtidjaohlaljmpaaChecked
import GoSem.Claim
import GoSem.ClaimJoined
import GoSem.ClaimMapViews
import Derived.JoinedTies
import Derived.KernelRfl
namespace Go.Proofs.Ytidjaohlaljmpaa
/- THE CELL 'sum', in the pinned program and in every row, IS THE sha256 OF THE DUMP (.gsa) THAT YtidjaohlaljmpaaProg.lean LOADS. Nothing in Lean hashes anything: it is a label: what it is worth is what the hold of that sum in a sandbox is worth. -/
noncomputable def Try.pinned : Pinned := { name := "ytidjaohlaljmpaa", sum := "e5e1d164a1b7e25d098bb8ff184a318cd706dc54636db335a984330ab1a66b44", checked := Try.checked }
namespace Rows
def none {H : Type} : Left H := { results := [], args := [] }

/-- 'lathelaw13.LoopsFind': WHATEVER THE INPUT: true; the input reads as it did. -/
def loopsFindSpec : ChangeSpec := { name := "loopsFind", fn := fun _ => fun
  | [d1, d2] => { results := [.lit (.bool true)], args := [d1, d2] }
  | _ => none }
def loopsFindRow : OpenClaim := { program := "ytidjaohlaljmpaa", sum := "e5e1d164a1b7e25d098bb8ff184a318cd706dc54636db335a984330ab1a66b44", func := "lathe/lathelaw13.LoopsFind", spec := "loopsFind", recurses := true, plainKeys := false, apart := false }
def LoopsFindSaid : Prop := loopsFindRow.holds Try.pinned (OpenSpec.ofChange loopsFindSpec)

/-- ITS FALSE NEIGHBOUR: 'it returns false'. Refute it at one input. -/
def loopsFindWrong : ChangeSpec := { name := "loopsFind", fn := fun _ => fun
  | [d1, d2] => { results := [.lit (.bool false)], args := [d1, d2] }
  | _ => none }
def LoopsFindWrongFalsely : Prop := loopsFindRow.holds Try.pinned (OpenSpec.ofChange loopsFindWrong)

/-- 'lathelaw13.LoopsNest': WHATEVER THE INPUT: true; the input reads as it did. -/
def loopsNestSpec : ChangeSpec := { name := "loopsNest", fn := fun _ => fun
  | [d] => { results := [.lit (.bool true)], args := [d] }
  | _ => none }
def loopsNestRow : OpenClaim := { program := "ytidjaohlaljmpaa", sum := "e5e1d164a1b7e25d098bb8ff184a318cd706dc54636db335a984330ab1a66b44", func := "lathe/lathelaw13.LoopsNest", spec := "loopsNest", recurses := true, plainKeys := false, apart := false }
def LoopsNestSaid : Prop := loopsNestRow.holds Try.pinned (OpenSpec.ofChange loopsNestSpec)

/-- ITS FALSE NEIGHBOUR: 'it returns false'. Refute it at one input. -/
def loopsNestWrong : ChangeSpec := { name := "loopsNest", fn := fun _ => fun
  | [d] => { results := [.lit (.bool false)], args := [d] }
  | _ => none }
def LoopsNestWrongFalsely : Prop := loopsNestRow.holds Try.pinned (OpenSpec.ofChange loopsNestWrong)

/-- 'lathelaw13.LoopsPermute': WHATEVER THE INPUT: true; the input reads as it did. -/
def loopsPermuteSpec : ChangeSpec := { name := "loopsPermute", fn := fun _ => fun
  | [d1, d2, d3] => { results := [.lit (.bool true)], args := [d1, d2, d3] }
  | _ => none }
def loopsPermuteRow : OpenClaim := { program := "ytidjaohlaljmpaa", sum := "e5e1d164a1b7e25d098bb8ff184a318cd706dc54636db335a984330ab1a66b44", func := "lathe/lathelaw13.LoopsPermute", spec := "loopsPermute", recurses := true, plainKeys := false, apart := false }
def LoopsPermuteSaid : Prop := loopsPermuteRow.holds Try.pinned (OpenSpec.ofChange loopsPermuteSpec)

/-- ITS FALSE NEIGHBOUR: 'it returns false'. Refute it at one input. -/
def loopsPermuteWrong : ChangeSpec := { name := "loopsPermute", fn := fun _ => fun
  | [d1, d2, d3] => { results := [.lit (.bool false)], args := [d1, d2, d3] }
  | _ => none }
def LoopsPermuteWrongFalsely : Prop := loopsPermuteRow.holds Try.pinned (OpenSpec.ofChange loopsPermuteWrong)

/-- 'lathelaw13.LoopsBack': WHATEVER THE INPUT: true; the input reads as it did. -/
def loopsBackSpec : ChangeSpec := { name := "loopsBack", fn := fun _ => fun
  | [d] => { results := [.lit (.bool true)], args := [d] }
  | _ => none }
def loopsBackRow : OpenClaim := { program := "ytidjaohlaljmpaa", sum := "e5e1d164a1b7e25d098bb8ff184a318cd706dc54636db335a984330ab1a66b44", func := "lathe/lathelaw13.LoopsBack", spec := "loopsBack", recurses := true, plainKeys := false, apart := false }
def LoopsBackSaid : Prop := loopsBackRow.holds Try.pinned (OpenSpec.ofChange loopsBackSpec)

/-- ITS FALSE NEIGHBOUR: 'it returns false'. Refute it at one input. -/
def loopsBackWrong : ChangeSpec := { name := "loopsBack", fn := fun _ => fun
  | [d] => { results := [.lit (.bool false)], args := [d] }
  | _ => none }
def LoopsBackWrongFalsely : Prop := loopsBackRow.holds Try.pinned (OpenSpec.ofChange loopsBackWrong)

/-- 'lathelaw19.MemssaBuilds': WHATEVER THE INPUT: true; the input reads as it did. -/
def memssaBuildsSpec : ChangeSpec := { name := "memssaBuilds", fn := fun _ => fun
  | [d] => { results := [.lit (.bool true)], args := [d] }
  | _ => none }
def memssaBuildsRow : OpenClaim := { program := "ytidjaohlaljmpaa", sum := "e5e1d164a1b7e25d098bb8ff184a318cd706dc54636db335a984330ab1a66b44", func := "lathe/lathelaw19.MemssaBuilds", spec := "memssaBuilds", recurses := true, plainKeys := false, apart := false }
def MemssaBuildsSaid : Prop := memssaBuildsRow.holds Try.pinned (OpenSpec.ofChange memssaBuildsSpec)

/-- ITS FALSE NEIGHBOUR: 'it returns false'. Refute it at one input. -/
def memssaBuildsWrong : ChangeSpec := { name := "memssaBuilds", fn := fun _ => fun
  | [d] => { results := [.lit (.bool false)], args := [d] }
  | _ => none }
def MemssaBuildsWrongFalsely : Prop := memssaBuildsRow.holds Try.pinned (OpenSpec.ofChange memssaBuildsWrong)

/-- 'lathelaw19.MemssaMeets': WHATEVER THE INPUT: true; the input reads as it did. -/
def memssaMeetsSpec : ChangeSpec := { name := "memssaMeets", fn := fun _ => fun
  | [d] => { results := [.lit (.bool true)], args := [d] }
  | _ => none }
def memssaMeetsRow : OpenClaim := { program := "ytidjaohlaljmpaa", sum := "e5e1d164a1b7e25d098bb8ff184a318cd706dc54636db335a984330ab1a66b44", func := "lathe/lathelaw19.MemssaMeets", spec := "memssaMeets", recurses := true, plainKeys := false, apart := false }
def MemssaMeetsSaid : Prop := memssaMeetsRow.holds Try.pinned (OpenSpec.ofChange memssaMeetsSpec)

/-- ITS FALSE NEIGHBOUR: 'it returns false'. Refute it at one input. -/
def memssaMeetsWrong : ChangeSpec := { name := "memssaMeets", fn := fun _ => fun
  | [d] => { results := [.lit (.bool false)], args := [d] }
  | _ => none }
def MemssaMeetsWrongFalsely : Prop := memssaMeetsRow.holds Try.pinned (OpenSpec.ofChange memssaMeetsWrong)

/-- 'lathelaw19.MemssaGoes': WHATEVER THE INPUT: true; the input reads as it did. -/
def memssaGoesSpec : ChangeSpec := { name := "memssaGoes", fn := fun _ => fun
  | [d1, d2] => { results := [.lit (.bool true)], args := [d1, d2] }
  | _ => none }
def memssaGoesRow : OpenClaim := { program := "ytidjaohlaljmpaa", sum := "e5e1d164a1b7e25d098bb8ff184a318cd706dc54636db335a984330ab1a66b44", func := "lathe/lathelaw19.MemssaGoes", spec := "memssaGoes", recurses := true, plainKeys := false, apart := false }
def MemssaGoesSaid : Prop := memssaGoesRow.holds Try.pinned (OpenSpec.ofChange memssaGoesSpec)

/-- ITS FALSE NEIGHBOUR: 'it returns false'. Refute it at one input. -/
def memssaGoesWrong : ChangeSpec := { name := "memssaGoes", fn := fun _ => fun
  | [d1, d2] => { results := [.lit (.bool false)], args := [d1, d2] }
  | _ => none }
def MemssaGoesWrongFalsely : Prop := memssaGoesRow.holds Try.pinned (OpenSpec.ofChange memssaGoesWrong)

/-- 'lathelaw19.MemssaCounts': WHATEVER THE INPUT: true; the input reads as it did. -/
def memssaCountsSpec : ChangeSpec := { name := "memssaCounts", fn := fun _ => fun
  | [d] => { results := [.lit (.bool true)], args := [d] }
  | _ => none }
def memssaCountsRow : OpenClaim := { program := "ytidjaohlaljmpaa", sum := "e5e1d164a1b7e25d098bb8ff184a318cd706dc54636db335a984330ab1a66b44", func := "lathe/lathelaw19.MemssaCounts", spec := "memssaCounts", recurses := true, plainKeys := false, apart := false }
def MemssaCountsSaid : Prop := memssaCountsRow.holds Try.pinned (OpenSpec.ofChange memssaCountsSpec)

/-- ITS FALSE NEIGHBOUR: 'it returns false'. Refute it at one input. -/
def memssaCountsWrong : ChangeSpec := { name := "memssaCounts", fn := fun _ => fun
  | [d] => { results := [.lit (.bool false)], args := [d] }
  | _ => none }
def MemssaCountsWrongFalsely : Prop := memssaCountsRow.holds Try.pinned (OpenSpec.ofChange memssaCountsWrong)

/- THE SECOND FORM. 'bulk': how many values and letters a reading holds, each counted each time it is reached (what is shared counts as often as it is met; a slice's spare places count too). A statement '..UptoSaid' is the law's where the arguments, and the package variables that the reading takes, are together of bulk at most 1048576: NARROWER than '..Said'. Prove '..Said' where nothing that the law and all that it calls make is longer than what came in: it says more and counts as full. Else prove '..UptoSaid'. A law counts once. -/
mutual
def uptoBulk {H : Type} : DataW H → Nat
  | .lit (.string bytes) => bytes.length + 1
  | .lit _ => 1
  | .nil => 1
  | .ptr d => uptoBulk d + 1
  | .slice elems spare => uptoBulkAll elems + uptoBulkAll spare + 1
  | .agg parts => uptoBulkAll parts + 1
  | .iface _ d => uptoBulk d + 1
  | .map entries => uptoBulkEntries entries + 1
  | .held _ => 1
def uptoBulkAll {H : Type} : List (DataW H) → Nat
  | [] => 0
  | d :: r => uptoBulk d + uptoBulkAll r
def uptoBulkEntries {H : Type} : List (Lit × DataW H) → Nat
  | [] => 0
  | x :: r => uptoBulkEntry x + uptoBulkEntries r
def uptoBulkEntry {H : Type} : Lit × DataW H → Nat
  | (.string bytes, d) => bytes.length + uptoBulk d + 1
  | (_, d) => uptoBulk d + 1
 end
def uptoSmall : (H : Type) → List (DataW H) → Bool := fun _ ds => decide (uptoBulkAll ds ≤ 1048576)
def OpenSpec.upto (s : _root_.Go.ChangeSpec) : _root_.Go.OpenSpec := { _root_.Go.OpenSpec.ofChange s with cond := some uptoSmall }

/-- 'lathelaw13.LoopsFind', WHERE WHAT IT READS IS OF BULK AT MOST 1048576: true; the input reads as it did. -/
def loopsFindUptoRow : OpenClaim := { program := "ytidjaohlaljmpaa", sum := "e5e1d164a1b7e25d098bb8ff184a318cd706dc54636db335a984330ab1a66b44", func := "lathe/lathelaw13.LoopsFind", spec := "loopsFind", recurses := true, plainKeys := false, apart := false, narrowed := true }
def LoopsFindUptoSaid : Prop := loopsFindUptoRow.holds Try.pinned (OpenSpec.upto loopsFindSpec)

/-- 'lathelaw13.LoopsNest', WHERE WHAT IT READS IS OF BULK AT MOST 1048576: true; the input reads as it did. -/
def loopsNestUptoRow : OpenClaim := { program := "ytidjaohlaljmpaa", sum := "e5e1d164a1b7e25d098bb8ff184a318cd706dc54636db335a984330ab1a66b44", func := "lathe/lathelaw13.LoopsNest", spec := "loopsNest", recurses := true, plainKeys := false, apart := false, narrowed := true }
def LoopsNestUptoSaid : Prop := loopsNestUptoRow.holds Try.pinned (OpenSpec.upto loopsNestSpec)

/-- 'lathelaw13.LoopsPermute', WHERE WHAT IT READS IS OF BULK AT MOST 1048576: true; the input reads as it did. -/
def loopsPermuteUptoRow : OpenClaim := { program := "ytidjaohlaljmpaa", sum := "e5e1d164a1b7e25d098bb8ff184a318cd706dc54636db335a984330ab1a66b44", func := "lathe/lathelaw13.LoopsPermute", spec := "loopsPermute", recurses := true, plainKeys := false, apart := false, narrowed := true }
def LoopsPermuteUptoSaid : Prop := loopsPermuteUptoRow.holds Try.pinned (OpenSpec.upto loopsPermuteSpec)

/-- 'lathelaw13.LoopsBack', WHERE WHAT IT READS IS OF BULK AT MOST 1048576: true; the input reads as it did. -/
def loopsBackUptoRow : OpenClaim := { program := "ytidjaohlaljmpaa", sum := "e5e1d164a1b7e25d098bb8ff184a318cd706dc54636db335a984330ab1a66b44", func := "lathe/lathelaw13.LoopsBack", spec := "loopsBack", recurses := true, plainKeys := false, apart := false, narrowed := true }
def LoopsBackUptoSaid : Prop := loopsBackUptoRow.holds Try.pinned (OpenSpec.upto loopsBackSpec)

/-- 'lathelaw19.MemssaBuilds', WHERE WHAT IT READS IS OF BULK AT MOST 1048576: true; the input reads as it did. -/
def memssaBuildsUptoRow : OpenClaim := { program := "ytidjaohlaljmpaa", sum := "e5e1d164a1b7e25d098bb8ff184a318cd706dc54636db335a984330ab1a66b44", func := "lathe/lathelaw19.MemssaBuilds", spec := "memssaBuilds", recurses := true, plainKeys := false, apart := false, narrowed := true }
def MemssaBuildsUptoSaid : Prop := memssaBuildsUptoRow.holds Try.pinned (OpenSpec.upto memssaBuildsSpec)

/-- 'lathelaw19.MemssaMeets', WHERE WHAT IT READS IS OF BULK AT MOST 1048576: true; the input reads as it did. -/
def memssaMeetsUptoRow : OpenClaim := { program := "ytidjaohlaljmpaa", sum := "e5e1d164a1b7e25d098bb8ff184a318cd706dc54636db335a984330ab1a66b44", func := "lathe/lathelaw19.MemssaMeets", spec := "memssaMeets", recurses := true, plainKeys := false, apart := false, narrowed := true }
def MemssaMeetsUptoSaid : Prop := memssaMeetsUptoRow.holds Try.pinned (OpenSpec.upto memssaMeetsSpec)

/-- 'lathelaw19.MemssaGoes', WHERE WHAT IT READS IS OF BULK AT MOST 1048576: true; the input reads as it did. -/
def memssaGoesUptoRow : OpenClaim := { program := "ytidjaohlaljmpaa", sum := "e5e1d164a1b7e25d098bb8ff184a318cd706dc54636db335a984330ab1a66b44", func := "lathe/lathelaw19.MemssaGoes", spec := "memssaGoes", recurses := true, plainKeys := false, apart := false, narrowed := true }
def MemssaGoesUptoSaid : Prop := memssaGoesUptoRow.holds Try.pinned (OpenSpec.upto memssaGoesSpec)

/-- 'lathelaw19.MemssaCounts', WHERE WHAT IT READS IS OF BULK AT MOST 1048576: true; the input reads as it did. -/
def memssaCountsUptoRow : OpenClaim := { program := "ytidjaohlaljmpaa", sum := "e5e1d164a1b7e25d098bb8ff184a318cd706dc54636db335a984330ab1a66b44", func := "lathe/lathelaw19.MemssaCounts", spec := "memssaCounts", recurses := true, plainKeys := false, apart := false, narrowed := true }
def MemssaCountsUptoSaid : Prop := memssaCountsUptoRow.holds Try.pinned (OpenSpec.upto memssaCountsSpec)

end Rows
end Go.Proofs.Ytidjaohlaljmpaa
