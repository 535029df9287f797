/- latheref02.Idle and Calm. No condition. -/
import Derived.Test.YtkhlnopbgngjbaaIrA
namespace Go.Proofs.Ytkhlnopbgngjbaa
open Go.RowKit


set_option maxHeartbeats 400000 in
theorem ridle_any (op : Int) (w : World) : Calls Try.prog 86 #[.int .i64 op] w fun e w' => e = .returned (.bool (iidle op)) ∧ w = w' := by
  go_enter Try.func86, Try.ntmps86
  go_wp2
  all_goals go_ret
  all_goals exact ⟨ret_bool (by rw [Bool.eq_iff_iff]; simp [iidle, bne]; omega), rfl⟩

def calmL : List Int := [4, 5, 6, 7, 25, 26, 27, 28]
theorem calm_cell (k : Nat) (hk : k < 8) : ∃ v : Int, (#[.int .i64 4, .int .i64 5, .int .i64 6, .int .i64 7, .int .i64 25, .int .i64 26, .int .i64 27, .int .i64 28] : Array Value)[k]? = some (.int .i64 v) ∧ calmL[k]? = some v := by
  have h : k = 0 ∨ k = 1 ∨ k = 2 ∨ k = 3 ∨ k = 4 ∨ k = 5 ∨ k = 6 ∨ k = 7 := by omega
  rcases h with rfl | rfl | rfl | rfl | rfl | rfl | rfl | rfl
  all_goals exact ⟨_, rfl, rfl⟩
theorem calm_no {op : Int} (h : op ∈ calmL) : icalm op = false := by
  simp only [calmL, List.mem_cons, List.not_mem_nil, or_false] at h
  rcases h with rfl | rfl | rfl | rfl | rfl | rfl | rfl | rfl <;> rfl

end Go.Proofs.Ytkhlnopbgngjbaa
