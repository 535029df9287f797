/- Texts of the chain, without what is not wanted: Sm. No condition but sizes. -/
import Derived.WalkKit
import Derived.Deep.Slices
import Derived.Deep.Draws
import Derived.ChangeSame
import Derived.ChangeOld
import Derived.OwnWalk
import Derived.Laws.OwnMore
import Derived.Deep.AppendLies
import Derived.Test.YtamjcafjdioidaaRows
import Derived.ProofKit
import Derived.OpenShut
import Derived.JoinedCond
import Derived.WalkSpells
import Derived.WalkLawsBesides
import Derived.Deep.RegionHeld3
import Derived.Deep.LoopGhost
import Derived.Deep.QuietTactic
import Derived.BigQuiet
import Derived.Deep.DeepCutAuto
import Derived.Deep.CutBlock
import Derived.Test.YtamjcafjdioidaaUm01
import Derived.Test.YtamjcafjdioidaaUm02
import Derived.Test.YtamjcafjdioidaaUm03
import Derived.Test.YtamjcafjdioidaaUm05
import Derived.Test.YtamjcafjdioidaaUm06
namespace Go.Proofs.Ytamjcafjdioidaa
theorem sum_mem {α : Type} (μ : α → Nat) : ∀ (l : List α) (x : α), x ∈ l → μ x ≤ (l.map μ).sum
 | y :: l, x, h => by
  rw [List.map_cons, List.sum_cons]
  rcases List.mem_cons.1 h with rfl | h
  ·omega
  ·have := sum_mem μ l x h
   omega
theorem sum_len {α : Type} (μ : α → Nat) (h1 : ∀ x, 1 ≤ μ x) : ∀ l : List α, l.length ≤ (l.map μ).sum
 | [] => Nat.zero_le _
 | y :: l => by
  rw [List.map_cons, List.sum_cons, List.length_cons]
  have := sum_len μ h1 l
  have := h1 y
  omega
theorem small_of {f : Fun} (h : funSz f ≤ 2000000) : Small f := by
 unfold funSz blksSz at h
 refine ⟨by omega, ?_, fun x hx => ?_⟩
 ·have := sum_len blkSz (fun x => by unfold blkSz; omega) f.blocks
  omega
 ·have h1 := sum_mem blkSz f.blocks x hx
  have h2 : x.length ≤ (x.map insSz).sum := sum_len insSz (fun x => by unfold insSz; omega) x
  have h3 : blkSz x = (x.map insSz).sum + 1 := rfl
  refine ⟨by omega, fun i hi => ?_⟩
  have h4 := sum_mem insSz x i hi
  have h5 : insSz i = 1 + i.args.length + i.to.length := rfl
  omega
end Go.Proofs.Ytamjcafjdioidaa
