/- Layer 9: how many bytes a type has, walked at both. No condition. -/
import Derived.Test.YtgkgmeofilkopaaMb
import Derived.Test.YtgkgmeofilkopaaData
namespace Go.Proofs.Ytgkgmeofilkopaa
open Go.RowKit
set_option linter.unusedSimpArgs false
set_option linter.unusedVariables false

/-- mem.count, latheref09.Count -/
def countS (t : Int) : Int := if t = 65 then 8 else if 1 ≤ t ∧ t ≤ 64 then (t + 7) / 8 else 0
/-- mem.Norm, latheref09.Norm -/
def normS (t : Int) (v : Val) : Val :=
  if (1 ≤ t ∧ t ≤ 64) ∧ v.kind = 1 then ⟨1, v.bits % pw t, 0, 0⟩ else if t = 65 ∧ v.kind = 2 then ⟨2, 0, v.block, v.off⟩ else if (1 ≤ t ∧ t ≤ 65) ∧ v.kind = 3 then ⟨3, 0, 0, 0⟩ else ⟨0, 0, 0, 0⟩
abbrev vv (x : Val) : Value := .agg #[.int .i64 x.kind, .int .u64 x.bits, .int .i64 x.block, .int .i64 x.off]

theorem count_any (t : Int) (W : World) : Calls Try.prog 70 #[.int .i64 t] W fun e w' => e = .returned (.int .i64 (countS t)) ∧ W = w' := by
  by_cases h0 : t = 65
  · subst h0
    go_enter Try.func70, Try.ntmps70
    go_wp2
    go_ret
    exact ⟨ret_int (by decide), rfl⟩
  · have e0 : countS t = if 1 ≤ t ∧ t ≤ 64 then (t + 7) / 8 else 0 := if_neg h0
    by_cases h1 : 1 ≤ t
    · by_cases h2 : t ≤ 64
      · have e1 : Hid (countS t = (t + 7) / 8) := hide (e0.trans (if_pos ⟨h1, h2⟩))
        clear e0
        go_enter Try.func70, Try.ntmps70
        go_wp2
        go_ret
        exact ⟨ret_int e1.out.symm, rfl⟩
      · have e1 : Hid (countS t = 0) := hide (e0.trans (if_neg (by omega)))
        clear e0
        go_enter Try.func70, Try.ntmps70
        go_wp2
        go_ret
        exact ⟨ret_int e1.out.symm, rfl⟩
    · have e1 : Hid (countS t = 0) := hide (e0.trans (if_neg (by omega)))
      clear e0
      go_enter Try.func70, Try.ntmps70
      go_wp2
      go_ret
      exact ⟨ret_int e1.out.symm, rfl⟩
theorem rcount_any (t : Int) (W : World) : Calls Try.prog 71 #[.int .i64 t] W fun e w' => e = .returned (.int .i64 (countS t)) ∧ W = w' := by
  by_cases h0 : t = 65
  · subst h0
    go_enter Try.func71, Try.ntmps71
    go_wp2
    go_ret
    exact ⟨ret_int (by decide), rfl⟩
  · have e0 : countS t = if 1 ≤ t ∧ t ≤ 64 then (t + 7) / 8 else 0 := if_neg h0
    by_cases h1 : t < 1 ∨ 64 < t
    · have e1 : Hid (countS t = 0) := hide (e0.trans (if_neg (by omega)))
      clear e0
      have : (decide (t < 1) || decide (64 < t)) = true := by simp; omega
      rcases h1 with h1 | h1
      all_goals
        go_enter Try.func71, Try.ntmps71
        go_wp2
        all_goals go_ret
        all_goals exact ⟨ret_int e1.out.symm, rfl⟩
    · have e1 : Hid (countS t = (t + 7) / 8) := hide (e0.trans (if_pos (by omega)))
      have h2 : 1 ≤ t := by omega
      have h3 : t ≤ 64 := by omega
      clear e0 h1
      go_enter Try.func71, Try.ntmps71
      go_wp2
      go_loopw [3] (fun i wr => ∃ k : Nat, (k : Int) ≤ (t + 7) / 8 ∧ 1 ≤ k ∧ i = .int .i64 k ∧ wr = W) (fun i _ => (64 - intOf i).toNat)
      case atStart => exact ⟨1, by omega, by omega, rfl, rfl⟩
      case round =>
        obtain ⟨k, hk, hk1, rfl, rfl⟩ := hrel
        by_cases hlt : 8 * (k : Int) < t
        · go_wp2
          go_roundw
          case rel => exact ⟨k + 1, by omega, by omega, by go_num, trivial⟩
          case measure => simp [intOf]; omega
        · go_wp2
          go_ret
          exact ⟨ret_int (by rw [e1.out]; omega), rfl⟩
end Go.Proofs.Ytgkgmeofilkopaa
