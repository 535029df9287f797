/- lathelaw06.bools, Lists, Wipe. No condition but sizes. | lathelaw06.Wipe. No condition but sizes. -/
import Derived.Test.YtamjcafjdioidaaGrJ
import Derived.Test.YtamjcafjdioidaaGrNf
namespace Go.Proofs.Ytamjcafjdioidaa
open Go.RowKit
set_option linter.unusedSimpArgs false
set_option linter.unusedVariables false

end Go.Proofs.Ytamjcafjdioidaa

namespace Go.Proofs.Ytamjcafjdioidaa
open Go.RowKit
set_option linter.unusedSimpArgs false
set_option linter.unusedVariables false

theorem only_grown {S : Nat → Prop} {B : Nat} {w wr w1 : World} {o : Obj} {r : Option Nat} (h : Only S B w wr) (hB : B ≤ wr.heap.size) (hg : (wr.alloc o).grownBy w1 r) (hr : ∀ k, r = some k → S k) : Only S B w w1 :=
  h.trans ⟨hg.os, hg.tape, hg.output, Nat.le_trans (by simp) hg.size, fun k hk hs => by
    rw [hg.block k (by simp; omega) (fun e => hs (hr k e.symm))]
    exact Below.heap_alloc wr o k (by omega)⟩
/-- the blocks of a row of rows -/
def BlocksOf (g : Nat) (cs : List Value) (k : Nat) : Prop := k = g ∨ ∃ (i : Nat) (c : Value), cs[i]? = some c ∧ c.ownBlock = some k
/-- what is left to be wiped from row i on -/
structure WipeAt (w : World) (B g n : Nat) (ls : List (List Int)) (cs : List Value) (i : Nat) : Prop where
  row : ∃ cs', w.ownsRow B 29 1 (.slice (some ⟨g, 0, none⟩) n n) n cs' ∧ ∀ j : Nat, i ≤ j → cs'[j]? = cs[j]?
  inn : ∀ (j : Nat) c l, i ≤ j → cs[j]? = some c → ls[j]? = some l → OwnI w B c l
def WipePost (g : Nat) (cs : List Value) (w : World) (e : Ending) (w' : World) : Prop := e = .returned (.tuple #[]) ∧ Only (BlocksOf g cs) w.heap.size w w'
theorem ints_same {u v : Value} {w : World} {B1 B2 : Nat} {l : List Int} (h1 : OwnI w B1 u l) (h2 : OwnI w B2 v l) : Calls Try.prog 32 #[u, v] w fun e w' => e = .returned (.bool true) ∧ Below w.heap.size w w' := by
  have := rints_any u v l l w w.heap.size (Nat.le_refl _) h1.rep h2.rep
  rwa [show (l == l) = true by simp] at this
theorem OwnI.below {w w' : World} {B : Nat} {v : Value} {l : List Int} (h : OwnI w B v l) (hb : Below w.heap.size w w') : OwnI w' B v l := h.kept fun k _ hk => hb.block k hk
theorem OwnL.kept {w w' : World} {B : Nat} {no : Option Nat} {v : Value} {ls : List (List Int)} {cs : List Value} (h : OwnL w B no v ls cs) (hk : ∀ k, B ≤ k → k < w.heap.size → w'.heap[k]? = w.heap[k]?) : OwnL w' B no v ls cs :=
  ⟨row_kept h.row fun k hv => hk k (row_lt h.row hv).1 (row_lt h.row hv).2.1, fun i c l hc hl => (h.inn i c l hc hl).kept hk, h.apart, h.far⟩
theorem blocks_of {w : World} {B g n k : Nat} {no : Option Nat} {ls : List (List Int)} {cs : List Value} (h : OwnL w B no (.slice (some ⟨g, 0, none⟩) n n) ls cs) (hk : BlocksOf g cs k) : B ≤ k ∧ k < w.heap.size := by
  rcases hk with rfl | ⟨i, c, hc, hk⟩
  · have := row_lt h.row (k := k) rfl
    exact ⟨this.1, this.2.1⟩
  · have := h.below_at hc hk
    exact ⟨this.1, this.2.1⟩
end Go.Proofs.Ytamjcafjdioidaa
