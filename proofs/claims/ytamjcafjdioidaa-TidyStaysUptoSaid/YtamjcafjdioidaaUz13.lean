/- Texts of the chain, without what is not wanted: TdB. No condition but sizes. -/
import Derived.WalkKit
import Derived.Deep.Slices
import Derived.Deep.Draws
import Derived.ChangeSame
import Derived.ChangeOld
import Derived.OwnWalk
import Derived.Laws.OwnMore
import Derived.Deep.AppendLies
import Derived.Test.YtamjcafjdioidaaRows
import Derived.ProofKit
import Derived.OpenShut
import Derived.JoinedCond
import Derived.WalkSpells
import Derived.WalkLawsBesides
import Derived.Deep.RegionHeld3
import Derived.Deep.LoopGhost
import Derived.Deep.QuietTactic
import Derived.BigQuiet
import Derived.Deep.DeepCutAuto
import Derived.Deep.CutBlock
import Derived.StillTailTactics
import Derived.Deep.RegionLaw
import Derived.Lib.SliceRun
import Derived.Laws.IdiomCopy
import Derived.Test.YtamjcafjdioidaaUz01
import Derived.Test.YtamjcafjdioidaaUz02
import Derived.Test.YtamjcafjdioidaaUz03
import Derived.Test.YtamjcafjdioidaaUz04
import Derived.Test.YtamjcafjdioidaaUz05
import Derived.Test.YtamjcafjdioidaaUz06
import Derived.Test.YtamjcafjdioidaaUz07
import Derived.Test.YtamjcafjdioidaaUz08
import Derived.Test.YtamjcafjdioidaaUz09
namespace Go.Proofs.Ytamjcafjdioidaa
open Go.RowKit
set_option linter.unusedSimpArgs false
set_option linter.unusedVariables false
def brI (t : Int) : Ins := ⟨31, -1, 0, 0, 0, [], [t]⟩
def JumpP (t : Int) (w : World) (e : Ending) (w' : World) : Prop := ∃ g, e = .returned (.agg #[.int .i64 31, .int .i64 (-1), .int .i64 0, .int .i64 0, .int .i64 0, .slice none 0 0, .slice (some ⟨g, 0, none⟩) 1 1]) ∧ OwnI w' w.heap.size (.slice (some ⟨g, 0, none⟩) 1 1) [t] ∧ Below w.heap.size w w'
set_option maxHeartbeats 800000 in
theorem tjump_any (t : Int) (ht : I64 t) (w : World) : Calls Try.prog 55 #[.int .i64 t] w (JumpP t w) := by
 have hb : Below w.heap.size w ((w.alloc (Obj.cells #[.int .i64 31, .int .i64 (-1), .int .i64 0, .int .i64 0, .int .i64 0, .slice none 0 0, .slice (some ⟨w.heap.size + 1, 0, none⟩) 1 1] 39)).alloc (Obj.cells #[.int .i64 t] 3)) := ((Below.refl _ _).alloc (Nat.le_refl _) _).alloc (by simp) _
 have hq := box_top (w.alloc (Obj.cells #[.int .i64 31, .int .i64 (-1), .int .i64 0, .int .i64 0, .int .i64 0, .slice none 0 0, .slice (some ⟨w.heap.size + 1, 0, none⟩) 1 1] 39)) (.cells #[.int .i64 t] 3)
 have hfin : Hid (JumpP t w (.returned (.agg #[.int .i64 31, .int .i64 (-1), .int .i64 0, .int .i64 0, .int .i64 0, .slice none 0 0, .slice (some ⟨w.heap.size + 1, 0, none⟩) 1 1])) ((w.alloc (Obj.cells #[.int .i64 31, .int .i64 (-1), .int .i64 0, .int .i64 0, .int .i64 0, .slice none 0 0, .slice (some ⟨w.heap.size + 1, 0, none⟩) 1 1] 39)).alloc (Obj.cells #[.int .i64 t] 3))) := hide ⟨_, rfl, ⟨⟨rfl, .inr ⟨_, 1, _, rfl, by omega, by simpa using hq, Nat.le_refl _, by unfold maxLen; omega, rfl, rfl⟩⟩, fun x hx => by rw [List.mem_singleton.1 hx]; exact ht⟩, hb⟩
 clear hb hq
 go_enter Try.func55, Try.ntmps55
 go_wp2
 refine bodyPost_ret (v := .agg #[.int .i64 31, .int .i64 (-1), .int .i64 0, .int .i64 0, .int .i64 0, .slice none 0 0, .slice (some ⟨w.heap.size + 1, 0, none⟩) 1 1]) (by simp [results, Try.results55, go_sem]) rfl ?_
 exact hfin.out
set_option maxHeartbeats 800000 in
theorem tend_any {w : World} {N b n C gd gc m Cx : Nat} {xs : List Value} {ess : List (List (Value × Value))} {bs : List (List Ins)} (hbox : w.cell? ⟨N, 3, none⟩ = some (.slice (some ⟨gd, 0, none⟩) n C)) (hn : n = bs.length) (hk : OwnKd w 0 (.slice (some ⟨gd, 0, none⟩) n C) bs xs ess) (hx : xs[b]? = some (.slice (some ⟨gc, 0, none⟩) m Cx)) {q : Nat} (hq : m = q + 1) (hm64 : m ≤ 9223372036854775807) :
  Calls Try.prog 54 #[.pointer (some ⟨N, 0, none⟩), .int .i64 b] w fun e w' => e = .returned (.pointer (some ⟨gc, q * 7, none⟩)) ∧ w' = w := by
 subst hq
 have hbc := hk.blk_cell hx
 have hbn : b < n := by
  have := (List.getElem?_eq_some_iff.1 hx).1
  rw [hk.lenx] at this
  omega
 have hbi : (b : Int) < (n : Int) := by omega
 obtain ⟨mm, hmm⟩ : ∃ mm, Hid (mm = q + 1) := ⟨_, hide rfl⟩
 have c9 : (mm : Int) - 1 = (q : Int) := by have := hmm.out; omega
 have c8 : q < mm := by have := hmm.out; omega
 have c7 : (q : Int) < (mm : Int) := by omega
 rw [← hmm.out] at hbc
 replace hk := hide hk
 replace hx := hide hx
 replace hn := hide hn
 go_enter Try.func54, Try.ntmps54
 go_wp2
 go_ret
 exact ⟨rfl, rfl⟩
end Go.Proofs.Ytamjcafjdioidaa
