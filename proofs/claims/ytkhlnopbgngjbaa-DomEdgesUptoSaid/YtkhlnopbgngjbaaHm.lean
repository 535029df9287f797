/- Small helpers that many texts share. No condition. -/
import Derived.Test.YtkhlnopbgngjbaaIrX
import Derived.Test.YtkhlnopbgngjbaaIrK
import Derived.Test.YtkhlnopbgngjbaaCq
namespace Go.Proofs.Ytkhlnopbgngjbaa
open Go.RowKit
set_option linter.unusedVariables false

section
variable {w w' : World} {B : Nat}
/-- a store into a row of type T -/
theorem But.stored {T : TypeId} {size n cap g j : Nat} {xs : List Value} {u : Value} (h : w.ownsRow B T size (.slice (some ⟨g, 0, none⟩) n cap) n xs) : But T w (w.setCell ⟨g, j, none⟩ u) := fun k c t f hk ht =>
  Below.heap_setCell _ _ _ _ (fun e => by
    obtain ⟨-, -, c', h1⟩ := row_lt h (k := g) rfl
    have e' : k = g := e
    subst e'
    rw [hk] at h1
    injection h1 with h1
    injection h1 with _ h2
    exact ht h2)
end
theorem box_at {w : World} {N : Nat} (o : Obj) (h : N = w.heap.size) : (w.alloc o).heap[N]? = some o := by subst h; exact box_top _ _
theorem bk (w : World) (o : Obj) : Below w.heap.size w (w.alloc o) := (Below.refl _ _).alloc (Nat.le_refl _) o
theorem bstep {w w' : World} {o : Obj} (h : Below (w.alloc o).heap.size (w.alloc o) w') : Below w.heap.size w w' := ((Below.refl _ _).alloc (Nat.le_refl _) o).trans (h.mono (by simp))
theorem one_fun {f : Fun} {c1 c2 : Value} {w : World} {B : Nat} (hB : B ≤ w.heap.size) (hf : RFun.rep w B [.string f.name, c1, .int .i64 f.ret, c2] f) :
    RFuns.rep (w.alloc (.cells #[.string f.name, c1, .int .i64 f.ret, c2] 25)) (w.alloc (.cells #[.string f.name, c1, .int .i64 f.ret, c2] 25)).heap.size [.slice (some ⟨w.heap.size, 0, none⟩) 1 1] [f] := by
  have hb := bk w (.cells #[.string f.name, c1, .int .i64 f.ret, c2] 25)
  refine ⟨_, 1, rfl, Nat.le_refl _, by simp [maxLen], fun _ => ⟨w.heap.size, 0, rfl, by simp, fun i x hx => ?_⟩⟩
  cases i with
  | zero =>
    cases hx
    exact ⟨_, rfl, RFun.later hf (hb.mono hB) (Nat.le_trans hB hb.size), fun j u hu => by
      have := box_cell (j := j) (u := u) (cs := #[.string f.name, c1, .int .i64 f.ret, c2]) (box_top w (.cells #[.string f.name, c1, .int .i64 f.ret, c2] 25)) (by simpa using hu) (by simp) (Below.refl _ _)
      simpa using this⟩
  | succ i => simp at hx
def LawPost (w : World) (e : Ending) (w' : World) : Prop := e = .returned (.bool true) ∧ Below w.heap.size w w'
theorem cellsOf_at {l : List Ins} {es : List (Value × Value)} {k r : Nat} {x : Ins} {c d u : Value} (hx : l[k]? = some x) (he : es[k]? = some (c, d)) (hu : (insC x c d)[r]? = some u) : (cellsOf l es)[k * 7 + r]? = some u := by
  unfold cellsOf
  refine flatten_at (n := 7) (es := insC x c d) (fun y hy => ?_) ?_ hu
  · obtain ⟨i, hi⟩ := List.getElem?_of_mem hy
    rw [List.getElem?_zipWith] at hi
    split at hi
    · cases hi; rfl
    · cases hi
  · rw [List.getElem?_zipWith, hx, he]
/-- a function with other blocks -/
def setBlocks (f : Fun) (bs : List (List Ins)) : Fun := ⟨f.name, f.params, f.ret, bs⟩
end Go.Proofs.Ytkhlnopbgngjbaa
