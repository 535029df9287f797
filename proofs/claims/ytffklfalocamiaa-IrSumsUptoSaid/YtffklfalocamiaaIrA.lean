/- Walks of ir.Result, Ends, Idle, Calm and of the references'. No condition. -/
import Derived.Test.YtffklfalocamiaaRows
import Derived.Test.YtffklfalocamiaaIrData
import Derived.Test.YtffklfalocamiaaRep
import Derived.WalkKit
import Derived.WalkSpells
import Derived.WalkLawsBesides
import Derived.Deep.RegionHeld3
import Derived.Deep.LoopGhost
import Derived.Deep.QuietTactic
import Derived.BigQuiet
namespace Go.Proofs.Ytffklfalocamiaa
open Go.RowKit

abbrev Ins.v (x : Ins) (c d : Value) : Value := .agg #[.int .i64 x.op, .int .i64 x.reg, .int .i64 x.ty, .int .i64 x.num, .int .i64 x.flags, c, d]

set_option maxHeartbeats 400000 in
theorem ends_any (op : Int) (w : World) : Calls Try.prog 42 #[.int .i64 op] w fun e w' => e = .returned (.bool (iends op)) ∧ w = w' := by
  go_enter Try.func42, Try.ntmps42
  go_wp2
  all_goals go_ret
  all_goals exact ⟨ret_bool (by rw [Bool.eq_iff_iff]; simp [iends]; omega), rfl⟩

set_option maxHeartbeats 400000 in
theorem rends_any (op : Int) (w : World) : Calls Try.prog 43 #[.int .i64 op] w fun e w' => e = .returned (.bool (iends op)) ∧ w = w' := by
  go_enter Try.func43, Try.ntmps43
  go_wp2
  all_goals go_ret
  all_goals exact ⟨ret_bool (by rw [Bool.eq_iff_iff]; simp [iends]; omega), rfl⟩

set_option maxHeartbeats 400000 in
theorem idle_any (op : Int) (w : World) : Calls Try.prog 44 #[.int .i64 op] w fun e w' => e = .returned (.bool (iidle op)) ∧ w = w' := by
  go_enter Try.func44, Try.ntmps44
  go_wp2
  all_goals go_ret
  all_goals exact ⟨ret_bool (by rw [Bool.eq_iff_iff]; simp [iidle, bne]; omega), rfl⟩

set_option maxHeartbeats 400000 in
theorem ridle_any (op : Int) (w : World) : Calls Try.prog 45 #[.int .i64 op] w fun e w' => e = .returned (.bool (iidle op)) ∧ w = w' := by
  go_enter Try.func45, Try.ntmps45
  go_wp2
  all_goals go_ret
  all_goals exact ⟨ret_bool (by rw [Bool.eq_iff_iff]; simp [iidle, bne]; omega), rfl⟩

set_option maxHeartbeats 400000 in
theorem calm_any (op : Int) (w : World) : Calls Try.prog 46 #[.int .i64 op] w fun e w' => e = .returned (.bool (icalm op)) ∧ w = w' := by
  go_enter Try.func46, Try.ntmps46
  go_wp2_with (go_at_call 44; refine (idle_any _ _).mono ?_; rintro e w' ⟨rfl, rfl⟩)
  all_goals go_ret
  all_goals exact ⟨ret_bool (by rw [Bool.eq_iff_iff]; simp [icalm, iidle]; simp at *; omega), rfl⟩

set_option maxHeartbeats 400000 in
theorem result_any (x : Ins) (c d : Value) (w : World) : Calls Try.prog 40 #[x.v c d] w fun e w' => e = .returned (.int .i64 (iresult x.op x.ty)) ∧ Below w.heap.size w w' := by
  go_enter Try.func40, Try.ntmps40
  go_wp2
  all_goals go_ret
  all_goals refine ⟨ret_int ?_, (Below.refl _ _).alloc (by simp) _⟩
  all_goals
    show _ = iresult x.op x.ty
    unfold iresult
    try simp at *
    (repeat' split) <;> omega

set_option maxHeartbeats 400000 in
theorem rresult_any (x : Ins) (c d : Value) (w : World) : Calls Try.prog 41 #[x.v c d] w fun e w' => e = .returned (.int .i64 (iresult x.op x.ty)) ∧ Below w.heap.size w w' := by
  go_enter Try.func41, Try.ntmps41
  go_wp2
  all_goals go_ret
  all_goals refine ⟨ret_int ?_, (Below.refl _ _).alloc (by simp) _⟩
  all_goals
    show _ = iresult x.op x.ty
    unfold iresult
    try simp at *
    (repeat' split) <;> omega

def calmL : List Int := [4, 5, 6, 7, 25, 26, 27, 28]
theorem calm_cell (k : Nat) (hk : k < 8) : ∃ v : Int, (#[.int .i64 4, .int .i64 5, .int .i64 6, .int .i64 7, .int .i64 25, .int .i64 26, .int .i64 27, .int .i64 28] : Array Value)[k]? = some (.int .i64 v) ∧ calmL[k]? = some v := by
  have h : k = 0 ∨ k = 1 ∨ k = 2 ∨ k = 3 ∨ k = 4 ∨ k = 5 ∨ k = 6 ∨ k = 7 := by omega
  rcases h with rfl | rfl | rfl | rfl | rfl | rfl | rfl | rfl
  all_goals exact ⟨_, rfl, rfl⟩
theorem calm_no {op : Int} (h : op ∈ calmL) : icalm op = false := by
  simp only [calmL, List.mem_cons, List.not_mem_nil, or_false] at h
  rcases h with rfl | rfl | rfl | rfl | rfl | rfl | rfl | rfl <;> rfl

set_option maxHeartbeats 400000 in
theorem rcalm_any (op : Int) (w : World) : Calls Try.prog 47 #[.int .i64 op] w fun e w' => e = .returned (.bool (icalm op)) ∧ Below w.heap.size w w' := by
  go_enter Try.func47, Try.ntmps47
  go_wp2
  obtain ⟨W, hW, hwW, hWs, hx⟩ := boxes1 w #[.int .i64 4, .int .i64 5, .int .i64 6, .int .i64 7, .int .i64 25, .int .i64 26, .int .i64 27, .int .i64 28] 3
  rw [hW]
  clear hW
  replace hx := hide hx
  replace hWs := hide hWs
  have hself := Below.refl W.heap.size W
  go_loop [4] (fun i => ∃ k : Nat, k ≤ 8 ∧ i = .int .i64 k ∧ Hid (∀ j v, j < k → calmL[j]? = some v → v ≠ op)) (fun i => 8 - (intOf i).toNat)
  case atStart => exact ⟨0, by omega, rfl, hide (fun j v hj => by omega)⟩
  case round =>
    obtain ⟨k, hk, rfl, hall⟩ := hrel
    by_cases hlt : k < 8
    · obtain ⟨v, hv, hl⟩ := calm_cell k hlt
      have hc := hx.out k _ hv
      replace hl := hide hl
      replace hv := hide hv
      by_cases hvo : v = op
      · have hvo' : (v == op) = true := by simp [hvo]
        replace hvo := hide hvo
        go_wp2
        go_ret
        exact ⟨ret_bool (calm_no (by rw [← hvo.out]; exact List.mem_of_getElem? hl.out)).symm, hwW⟩
      · have hvo' : (v == op) = false := by simp [hvo]
        replace hvo := hide hvo
        go_wp2
        go_round
        case rel => exact ⟨k + 1, hlt, by go_num, hide (fun j u hj hu => by
          rcases Nat.lt_succ_iff_lt_or_eq.1 hj with h | rfl
          · exact hall.out j u h hu
          · rw [hl.out] at hu; cases hu; exact hvo.out)⟩
        case measure => simp [intOf]; omega
    · obtain rfl : k = 8 := by omega
      have hno : Hid (¬ op ∈ calmL) := hide (fun hm => by
        obtain ⟨j, hj⟩ := List.mem_iff_getElem?.1 hm
        have hj8 : j < 8 := by have := (List.getElem?_eq_some_iff.1 hj).1; simpa [calmL] using this
        exact hall.out j op hj8 hj rfl)
      go_wp2
      all_goals go_ret
      all_goals
        refine ⟨ret_bool ?_, hwW⟩
        have hn := hno.out
        simp only [calmL, List.mem_cons, List.not_mem_nil, or_false, not_or] at hn
        rw [Bool.eq_iff_iff]
        simp [icalm]
        omega

end Go.Proofs.Ytffklfalocamiaa
