/- A block that is a jump, as data. No condition. -/
import Derived.Test.YtkhlnopbgngjbaaHm
import Derived.Test.YtkhlnopbgngjbaaGrJ
namespace Go.Proofs.Ytkhlnopbgngjbaa
open Go.RowKit
set_option linter.unusedSimpArgs false
set_option linter.unusedVariables false

def jumpS (op : Int) (ts : List Int) : List Ins := [⟨op, -1, 0, 0, 0, [], ts⟩]
def JumpPost (op : Int) (ts : List Int) (B : Nat) (w : World) (e : Ending) (w' : World) : Prop := ∃ v, e = .returned (.agg #[v]) ∧ OwnC w' B v (jumpS op ts) ∧ Below w.heap.size w w'
theorem own_lit {w : World} {B N n : Nat} {cs : Array Value} {l : List Int} (hcs : cs.toList = l.map fun z => Value.int .i64 z) (hn : l.length = n) (hl : ∀ x, x ∈ l → I64 x) (hN : N = w.heap.size) (hB : B ≤ w.heap.size) (hm : l.length ≤ 2000000) : OwnI (w.alloc (.cells cs 3)) B (.slice (some ⟨N, 0, none⟩) n n) l := by
  subst hn
  have hs : cs.size = l.length := by have := congrArg List.length hcs; simpa using this
  refine ⟨⟨by simp, .inr ⟨N, l.length, cs, rfl, by omega, box_at _ hN, Nat.le_refl _, by unfold maxLen; omega, by omega, ?_⟩⟩, hl⟩
  rw [hcs, List.take_of_length_le (by simp)]
theorem OwnC.below {w w' : World} {B : Nat} {v : Value} {l : List Ins} (h : OwnC w B v l) (hb : Below w.heap.size w w') : OwnC w' B v l := h.kept fun k _ hk => hb.block k hk
end Go.Proofs.Ytkhlnopbgngjbaa
