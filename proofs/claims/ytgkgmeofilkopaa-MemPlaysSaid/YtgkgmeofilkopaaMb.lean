/- bits.Mask and latheref01.Cut alone, walked (for seats that do not reach the rest of layer 1). No condition. -/
import Derived.Test.YtgkgmeofilkopaaRows
import Derived.Test.YtgkgmeofilkopaaRep
import Derived.Test.YtgkgmeofilkopaaBmE
import Derived.WalkKit
import Derived.WalkLawsBesides
import Derived.Laws.Bits64b
import Derived.Deep.QuietTactic
import Derived.BigQuiet
import Derived.RegionTactic
import Derived.Deep.RegionWith
import Derived.Deep.RegionHeld3
import Derived.Deep.DeepCutAuto
import Derived.Deep.CutBlock
import Derived.Deep.LoopGhost
import Derived.WalkSpells
namespace Go.Proofs.Ytgkgmeofilkopaa
open Go.RowKit
set_option linter.unusedSimpArgs false
set_option linter.unusedVariables false

theorem wrap_u (n : Int) : IntKind.u64.wrap n = n % 18446744073709551616 := IntKind.wrap_u64 n
theorem wrap_s {n : Int} (h : 0 ≤ n) (h' : n < 18446744073709551616) : wrap64 n = if 9223372036854775808 ≤ n then n - 18446744073709551616 else n := by
  unfold wrap64; split <;> omega

theorem mask_ok (w : Int) (W : World) (h1 : 1 ≤ w) (h2 : w ≤ 64) : Calls Try.prog 73 #[.int .i64 w] W fun e w' => e = .returned (.int .u64 (pw w - 1)) ∧ W = w' := by
  go_enter Try.func73, Try.ntmps73
  go_wp2
  go_ret
  exact ⟨ret_int (mask_law (by omega) h2), rfl⟩
theorem mask_no (w : Int) (W : World) (h : w < 1 ∨ 64 < w) : Calls Try.prog 73 #[.int .i64 w] W fun e w' => e = .returned (.int .u64 0) ∧ W = w' := by
  rcases h with h | h
  all_goals
    go_enter Try.func73, Try.ntmps73
    go_wp2
    go_ret
    exact ⟨rfl, rfl⟩
/-- what bits.Mask makes of any number -/
def maskS (w : Int) : Int := if w < 1 ∨ 64 < w then 0 else pw w - 1
theorem mask_any (w : Int) (W : World) : Calls Try.prog 73 #[.int .i64 w] W fun e w' => e = .returned (.int .u64 (maskS w)) ∧ W = w' := by
  by_cases h : w < 1 ∨ 64 < w
  · have e : maskS w = 0 := if_pos h
    rw [e]; exact mask_no w W h
  · have e : maskS w = pw w - 1 := if_neg h
    rw [e]; exact mask_ok w W (by omega) (by omega)
theorem and_mask {a w : Int} (h0 : 0 ≤ a) (h1 : a ≤ 18446744073709551615) (hw0 : 0 ≤ w) (hw : w ≤ 64) : bits .and .u64 a (pw w - 1) = a % pw w := by
  obtain ⟨n, rfl⟩ := Int.eq_ofNat_of_zero_le h0
  have hp := pw_nat w
  have hle := pw_le hw0 hw
  have h1p : 1 ≤ 2 ^ w.toNat := Nat.one_le_two_pow
  have e : pw w - 1 = ((2 ^ w.toNat - 1 : Nat) : Int) := by rw [hp]; omega
  rw [e, bits_and_u64_nat n (2 ^ w.toNat - 1) (by omega) (by omega), Nat.and_two_pow_sub_one_eq_mod, hp]
  simp
theorem mask_zero (w : Int) : (maskS w == 0) = decide (w < 1 ∨ 64 < w) := by
  unfold maskS
  rw [Bool.eq_iff_iff]
  split
  · rename_i h; simp [h]
  · rename_i h
    have := wid (w := w) (by omega) (by omega)
    simp only [beq_iff_eq, decide_eq_true_eq]; omega
theorem rcut_any (w v : Int) (W : World) (h0 : 0 ≤ w) (hv : 0 ≤ v ∧ v ≤ 18446744073709551615) : Calls Try.prog 72 #[.int .i64 w, .int .u64 v] W fun e w' => e = .returned (.int .u64 (rcut w v)) ∧ W = w' := by
  have hp := pw_pos w
  by_cases h : 64 ≤ w
  · have e : Hid (rcut w v = v) := hide (if_pos h)
    go_enter Try.func72, Try.ntmps72
    go_wp2
    go_ret
    exact ⟨ret_int e.out.symm, rfl⟩
  · have e : Hid (rcut w v = v % pw w) := hide (if_neg h)
    have hle := pw_le63 (w := w) h0 (by omega)
    have hk : IntKind.u64.wrap (2 ^ w.toNat) = 2 ^ w.toNat := by rw [wrap_u]; show pw w % _ = pw w; omega
    have hk0 : (1 : Int) ≤ 2 ^ w.toNat := hp
    have hk1 : ¬ (2 : Int) ^ w.toNat = 0 := by omega
    go_enter Try.func72, Try.ntmps72
    go_wp2
    go_ret
    exact ⟨ret_int e.out.symm, rfl⟩
theorem bcell {W w1 : World} (hb : Below W.heap.size W w1) : (∀ b o, b < W.heap.size → w1.cell? ⟨b, o, none⟩ = W.cell? ⟨b, o, none⟩) ∧ (∀ b o, b < W.heap.size → w1.frozen? ⟨b, o, none⟩ = W.frozen? ⟨b, o, none⟩) :=
  ⟨fun b o h => hb.cell (p := ⟨b, o, none⟩) h, fun b o h => hb.frozen (p := ⟨b, o, none⟩) h⟩
end Go.Proofs.Ytgkgmeofilkopaa
