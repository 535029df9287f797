/- dom.meet: two fingers up the tree. No condition but what its lists hold. | dom.Idom. No condition but sizes. -/
import Derived.Test.YtamjcafjdioidaaDoB
import Derived.Test.YtamjcafjdioidaaGrNf
import Derived.Test.YtamjcafjdioidaaGrJ
namespace Go.Proofs.Ytamjcafjdioidaa
open Go.RowKit
set_option linter.unusedSimpArgs false
set_option linter.unusedVariables false

theorem bdn {B : Nat} {w w' : World} (h : Below B w w') (n : Nat) : Below B w (w'.drewN n) := ⟨h.os, h.tape, h.output, h.size, h.block⟩
/-- the list of ranks -/
def RankOk (o : List Int) (n : Nat) (R : List Int) : Prop := R.length = n ∧ ∀ (i : Nat) b, o[i]? = some b → R[b.toNat]? = some (i : Int)
theorem RankOk.at_ {o R : List Int} {n : Nat} {b : Int} (h : RankOk o n R) (hb : b ∈ o) : R[b.toNat]? = some ((o.idxOf b : Nat) : Int) := h.2 _ _ (at_idx hb)
def MeetPost (U : Int → Int) (a b : Int) (w : World) (e : Ending) (w' : World) : Prop := ∃ m : Int, e = .returned (.int .i64 m) ∧ Nca U a b m ∧ 0 ≤ m ∧ 0 ≤ U m ∧ Below w.heap.size w w'

end Go.Proofs.Ytamjcafjdioidaa

namespace Go.Proofs.Ytamjcafjdioidaa
open Go.RowKit
set_option linter.unusedSimpArgs false
set_option linter.unusedVariables false

theorem made_zeros {w : World} {B g n : Nat} (h : w.ownsRow B 3 1 (.slice (some ⟨g, 0, none⟩) n n) n (madeCells #[Value.int .i64 0] n).toList) : w.ownsRow B 3 1 (.slice (some ⟨g, 0, none⟩) n n) n ((List.replicate n (0 : Int)).map fun z => Value.int .i64 z) := by
  rw [toList_madeCells_one] at h
  rw [List.map_replicate]
  exact h
/-- an owned row of n numbers, in a block of its own -/
def OwnN (w : World) (B g n : Nat) (l : List Int) : Prop := w.ownsRow B 3 1 (.slice (some ⟨g, 0, none⟩) n n) n (l.map fun z => Value.int .i64 z)
section
variable {w w' : World} {B g n : Nat} {l : List Int}
theorem OwnN.len (h : OwnN w B g n l) : l.length = n := by have := h.1; simpa using this
theorem OwnN.cell (h : OwnN w B g n l) {k : Nat} {x : Int} (hk : l[k]? = some x) : w.cell? ⟨g, k, none⟩ = some (.int .i64 x) := by
  have := (List.getElem?_eq_some_iff.1 hk).1
  have hl := h.len
  rw [World.ownsRow.cellAt h k (by omega), List.getElem?_map, hk]; rfl
theorem OwnN.free (h : OwnN w B g n l) (k : Nat) : w.frozen? ⟨g, k, none⟩ = false := World.ownsRow.frozenAt h k
theorem OwnN.set_ (h : OwnN w B g n l) (k : Nat) (x : Int) : OwnN (w.setCell ⟨g, k, none⟩ (.int .i64 x)) B g n (l.set k x) := by
  have st := (World.ownsRow.stored h k (.int .i64 x)).1
  unfold OwnN
  rwa [List.map_set]
theorem OwnN.keep (h : OwnN w B g n l) (hk : w'.heap[g]? = w.heap[g]?) : OwnN w' B g n l := row_kept h fun k e => by cases e; exact hk
theorem OwnN.lt (h : OwnN w B g n l) : B ≤ g ∧ g < w.heap.size := ⟨(row_lt h rfl).1, (row_lt h rfl).2.1⟩
theorem OwnN.below (h : OwnN w B g n l) (hb : Below w.heap.size w w') : OwnN w' B g n l := h.keep (hb.block g h.lt.2)
theorem OwnN.reads (h : OwnN w B g n l) : ∀ (k : Nat) x, l[k]? = some x → ∀ w', Below w.heap.size w w' → w'.cell? ⟨g, k, none⟩ = some (.int .i64 x) := fun k x hk w' hb => (h.below hb).cell hk
theorem OwnN.mono {B' : Nat} (h : OwnN w B g n l) (hb : B' ≤ B) : OwnN w B' g n l := row_mono h hb
end
def IdomPost (sc : Int → List Int) (o : List Int) (n : Nat) (w : World) (e : Ending) (w' : World) : Prop := ∃ g l, e = .returned (.slice (some ⟨g, 0, none⟩) n n) ∧ IdomOk sc o n l ∧ OwnN w' w.heap.size g n l ∧ Below w.heap.size w w'
end Go.Proofs.Ytamjcafjdioidaa
