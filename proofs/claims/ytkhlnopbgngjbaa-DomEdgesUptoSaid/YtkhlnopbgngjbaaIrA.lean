/- Walks of ir.Result, Ends, Idle, Calm and of the references'. No condition. -/
import Derived.Test.YtkhlnopbgngjbaaRows
import Derived.Test.YtkhlnopbgngjbaaIrData
import Derived.Test.YtkhlnopbgngjbaaRep
import Derived.WalkKit
import Derived.WalkSpells
import Derived.WalkLawsBesides
import Derived.Deep.RegionHeld3
import Derived.Deep.LoopGhost
import Derived.Deep.QuietTactic
import Derived.BigQuiet
namespace Go.Proofs.Ytkhlnopbgngjbaa
open Go.RowKit

abbrev Ins.v (x : Ins) (c d : Value) : Value := .agg #[.int .i64 x.op, .int .i64 x.reg, .int .i64 x.ty, .int .i64 x.num, .int .i64 x.flags, c, d]

set_option maxHeartbeats 400000 in
theorem ends_any (op : Int) (w : World) : Calls Try.prog 79 #[.int .i64 op] w fun e w' => e = .returned (.bool (iends op)) ∧ w = w' := by
  go_enter Try.func79, Try.ntmps79
  go_wp2
  all_goals go_ret
  all_goals exact ⟨ret_bool (by rw [Bool.eq_iff_iff]; simp [iends]; omega), rfl⟩

set_option maxHeartbeats 400000 in
theorem idle_any (op : Int) (w : World) : Calls Try.prog 56 #[.int .i64 op] w fun e w' => e = .returned (.bool (iidle op)) ∧ w = w' := by
  go_enter Try.func56, Try.ntmps56
  go_wp2
  all_goals go_ret
  all_goals exact ⟨ret_bool (by rw [Bool.eq_iff_iff]; simp [iidle, bne]; omega), rfl⟩

set_option maxHeartbeats 400000 in
theorem result_any (x : Ins) (c d : Value) (w : World) : Calls Try.prog 55 #[x.v c d] w fun e w' => e = .returned (.int .i64 (iresult x.op x.ty)) ∧ Below w.heap.size w w' := by
  go_enter Try.func55, Try.ntmps55
  go_wp2
  all_goals go_ret
  all_goals refine ⟨ret_int ?_, (Below.refl _ _).alloc (by simp) _⟩
  all_goals
    show _ = iresult x.op x.ty
    unfold iresult
    try simp at *
    (repeat' split) <;> omega

set_option maxHeartbeats 400000 in
theorem rresult_any (x : Ins) (c d : Value) (w : World) : Calls Try.prog 87 #[x.v c d] w fun e w' => e = .returned (.int .i64 (iresult x.op x.ty)) ∧ Below w.heap.size w w' := by
  go_enter Try.func87, Try.ntmps87
  go_wp2
  all_goals go_ret
  all_goals refine ⟨ret_int ?_, (Below.refl _ _).alloc (by simp) _⟩
  all_goals
    show _ = iresult x.op x.ty
    unfold iresult
    try simp at *
    (repeat' split) <;> omega

end Go.Proofs.Ytkhlnopbgngjbaa
