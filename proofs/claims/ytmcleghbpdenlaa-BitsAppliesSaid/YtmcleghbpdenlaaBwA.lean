/- bits.Mask, Signed, Flags, size, product; math/bits.Mul64: walked. No condition. -/
import Derived.Test.YtmcleghbpdenlaaRows
import Derived.Test.YtmcleghbpdenlaaRep
import Derived.Test.YtmcleghbpdenlaaBmC
import Derived.WalkKit
import Derived.WalkLawsBesides
import Derived.Laws.Externs
import Derived.Laws.Bits64b
import Derived.Lib.Mul64
import Derived.Deep.QuietTactic
import Derived.BigQuiet
namespace Go.Proofs.Ytmcleghbpdenlaa
open Go.RowKit
set_option linter.unusedSimpArgs false
set_option linter.unusedVariables false

theorem ret_two {k l : IntKind} {a b c d : Int} (h : a = b) (h' : c = d) : Ending.returned (.tuple #[.int k a, .int l c]) = .returned (.tuple #[.int k b, .int l d]) := by rw [h, h']
theorem wrap_u (n : Int) : IntKind.u64.wrap n = n % 18446744073709551616 := IntKind.wrap_u64 n
theorem wrap_s {n : Int} (h : 0 ≤ n) (h' : n < 18446744073709551616) : wrap64 n = if 9223372036854775808 ≤ n then n - 18446744073709551616 else n := by
  unfold wrap64; split <;> omega

theorem pw1 {w : Int} (h : 1 ≤ w) : (2 : Int) ^ (w.toNat - 1) = pw (w - 1) := by unfold pw; congr 1; omega

theorem mask_ok (w : Int) (W : World) (h1 : 1 ≤ w) (h2 : w ≤ 64) : Calls Try.prog 32 #[.int .i64 w] W fun e w' => e = .returned (.int .u64 (pw w - 1)) ∧ W = w' := by
  go_enter Try.func32, Try.ntmps32
  go_wp2
  go_ret
  exact ⟨ret_int (mask_law (by omega) h2), rfl⟩
theorem mask_no (w : Int) (W : World) (h : w < 1 ∨ 64 < w) : Calls Try.prog 32 #[.int .i64 w] W fun e w' => e = .returned (.int .u64 0) ∧ W = w' := by
  rcases h with h | h
  all_goals
    go_enter Try.func32, Try.ntmps32
    go_wp2
    go_ret
    exact ⟨rfl, rfl⟩
/-- what bits.Mask makes of any number -/
def maskS (w : Int) : Int := if w < 1 ∨ 64 < w then 0 else pw w - 1
theorem mask_any (w : Int) (W : World) : Calls Try.prog 32 #[.int .i64 w] W fun e w' => e = .returned (.int .u64 (maskS w)) ∧ W = w' := by
  by_cases h : w < 1 ∨ 64 < w
  · have e : maskS w = 0 := if_pos h
    rw [e]; exact mask_no w W h
  · have e : maskS w = pw w - 1 := if_neg h
    rw [e]; exact mask_ok w W (by omega) (by omega)
theorem signed_ok (w v : Int) (W : World) (h1 : 1 ≤ w) (h2 : w ≤ 64) : Calls Try.prog 34 #[.int .i64 w, .int .u64 v] W fun e w' => e = .returned (.int .i64 (sg (pw w) v)) ∧ W = w' := by
  go_enter Try.func34, Try.ntmps34
  go_wp2
  go_ret
  refine ⟨ret_int ?_, rfl⟩
  rw [wrap_u, wrap_s (Int.emod_nonneg _ (by decide)) (Int.emod_lt_of_pos _ (by decide))]
  exact signed_law h1 h2
theorem signed_no (w v : Int) (W : World) (h : w < 1 ∨ 64 < w) : Calls Try.prog 34 #[.int .i64 w, .int .u64 v] W fun e w' => e = .returned (.int .i64 0) ∧ W = w' := by
  rcases h with h | h
  all_goals
    go_enter Try.func34, Try.ntmps34
    go_wp2
    go_ret
    exact ⟨rfl, rfl⟩
def signedS (w v : Int) : Int := if w < 1 ∨ 64 < w then 0 else sg (pw w) v
theorem signed_any (w v : Int) (W : World) : Calls Try.prog 34 #[.int .i64 w, .int .u64 v] W fun e w' => e = .returned (.int .i64 (signedS w v)) ∧ W = w' := by
  by_cases h : w < 1 ∨ 64 < w
  · have e : signedS w v = 0 := if_pos h
    rw [e]; exact signed_no w v W h
  · have e : signedS w v = sg (pw w) v := if_neg h
    rw [e]; exact signed_ok w v W (by omega) (by omega)

def flagsOf (op : Int) : Int := if op = 1 ∨ op = 2 ∨ op = 3 ∨ op = 11 then 3 else if op = 4 ∨ op = 5 ∨ op = 12 ∨ op = 13 then 4 else 0
theorem flags_any (op : Int) (W : World) : Calls Try.prog 29 #[.int .i64 op] W fun e w' => e = .returned (.int .i64 (flagsOf op)) ∧ W = w' := by
  go_enter Try.func29, Try.ntmps29
  go_wp2
  all_goals go_ret
  all_goals
    refine ⟨ret_int ?_, rfl⟩
    unfold flagsOf
    try simp at *
    (repeat' split) <;> omega

theorem size_any (x : Int) (W : World) (h : -9223372036854775808 ≤ x ∧ x ≤ 9223372036854775807) : Calls Try.prog 76 #[.int .i64 x] W fun e w' => e = .returned (.int .u64 x.natAbs) ∧ W = w' := by
  by_cases h0 : x < 0
  all_goals
    go_enter Try.func76, Try.ntmps76
    go_wp2
    go_ret
    refine ⟨ret_int ?_, rfl⟩
    try simp only [wrap_u]
    omega

namespace M64
theorem maskN (a : Nat) (ha : a < 18446744073709551616) : bits .and .u64 (a : Int) 4294967295 = ((a % 4294967296 : Nat) : Int) := by
  have h := bits_and_u64_nat a 4294967295 ha (by omega)
  have e : a &&& 4294967295 = a % 4294967296 := Nat.and_two_pow_sub_one_eq_mod a 32
  rw [e] at h
  exact h
theorem divN (a : Nat) : (a : Int) / 4294967296 = ((a / 4294967296 : Nat) : Int) := by omega
theorem mulN (a b : Nat) : (a : Int) * (b : Int) = ((a * b : Nat) : Int) := (Int.natCast_mul a b).symm
theorem addN (a b : Nat) : (a : Int) + (b : Int) = ((a + b : Nat) : Int) := (Int.natCast_add a b).symm
theorem wrapN (a : Nat) (ha : a < 18446744073709551616) : IntKind.u64.wrap (a : Int) = (a : Int) := by rw [IntKind.wrap_u64]; omega
theorem wrapM (a : Nat) : IntKind.u64.wrap (a : Int) = ((a % 18446744073709551616 : Nat) : Int) := by rw [IntKind.wrap_u64]; omega
end M64
set_option maxHeartbeats 1000000 in
theorem mul64_any (x y : Nat) (W : World) (hx : x < 18446744073709551616) (hy : y < 18446744073709551616) :
    Calls Try.prog 63 #[.int .u64 x, .int .u64 y] W fun e w' => e = .returned (.tuple #[.int .u64 ((x * y / 18446744073709551616 : Nat) : Int), .int .u64 ((x * y % 18446744073709551616 : Nat) : Int)]) ∧ W = w' := by
  obtain ⟨bd, bt, bw, hhi⟩ := Lib.mul64_hi x y hx hy
  have ba := Lib.half_mul_le (a := x / 4294967296) (b := y / 4294967296) (by omega) (by omega)
  have bb := Lib.half_mul_le (a := x / 4294967296) (b := y % 4294967296) (by omega) (by omega)
  have bc := Lib.half_mul_le (a := x % 4294967296) (b := y / 4294967296) (by omega) (by omega)
  have ba' : x / 4294967296 * (y / 4294967296) < 18446744073709551616 := by omega
  have bb' : x / 4294967296 * (y % 4294967296) < 18446744073709551616 := by omega
  have bc' : x % 4294967296 * (y / 4294967296) < 18446744073709551616 := by omega
  have bh1 : x / 4294967296 * (y / 4294967296) + (x / 4294967296 * (y % 4294967296) + x % 4294967296 * (y % 4294967296) / 4294967296) / 4294967296 < 18446744073709551616 := by omega
  have bh : x / 4294967296 * (y / 4294967296) + (x / 4294967296 * (y % 4294967296) + x % 4294967296 * (y % 4294967296) / 4294967296) / 4294967296 + ((x / 4294967296 * (y % 4294967296) + x % 4294967296 * (y % 4294967296) / 4294967296) % 4294967296 + x % 4294967296 * (y / 4294967296)) / 4294967296 < 18446744073709551616 := by omega
  go_enter Try.func63, Try.ntmps63
  go_wp2
  simp only [M64.maskN x hx, M64.maskN y hy, M64.divN, M64.mulN, M64.addN, M64.wrapN _ bd, M64.wrapN _ bb', M64.wrapN _ bt, M64.maskN _ bt, M64.wrapN _ bc', M64.wrapN _ bw, M64.wrapN _ ba', M64.wrapN _ bh1, M64.wrapN _ bh, M64.wrapM (x * y)]
  rw [hhi]
  go_ret2
  exact ⟨rfl, rfl⟩

theorem run_add (x y : Int) (hx : 0 ≤ x) (hy : 0 ≤ y) (W : World) :
    (callFunc 62 #[.int .u64 x, .int .u64 y, .int .u64 0]).run Try.prog W = .ok (.value (.tuple #[.int .u64 ((x + y) % 18446744073709551616), .int .u64 ((x + y) / 18446744073709551616)])) W := by
  rw [run_callFunc_extern Try.func62 (by kernel_rfl) (by kernel_rfl) (by kernel_rfl) (e := add64Entry) (by kernel_rfl), run_add64 x y 0 hx hy (by omega) (by omega)]
  simp only [Result.andThen, Int.add_zero]

set_option maxHeartbeats 400000 in
theorem product_any (w x y : Int) (W : World) (h1 : 1 ≤ w) (h2 : w ≤ 64) (hx : -pw (w - 1) ≤ x ∧ x < pw (w - 1)) (hy : -pw (w - 1) ≤ y ∧ y < pw (w - 1)) :
    Calls Try.prog 64 #[.int .i64 w, .int .i64 x, .int .i64 y] W fun e w' => e = .returned (.bool (!inR (pw w) (x * y))) ∧ W = w' := by
  obtain ⟨hM, hH, hw⟩ := wid h1 h2
  have hl := hide (product_law h1 h2 hx hy)
  go_enter Try.func64, Try.ntmps64
  go_wp2_with fail
  refine (size_any x _ (by omega)).mono ?_; rintro e w' ⟨rfl, rfl⟩
  go_wp2_with fail
  refine (size_any y _ (by omega)).mono ?_; rintro e w' ⟨rfl, rfl⟩
  go_wp2_with fail
  refine (mul64_any _ _ _ (by omega) (by omega)).mono ?_; rintro e w' ⟨rfl, rfl⟩
  go_wp2_with fail
  all_goals go_ret
  all_goals
    rename_i g1 g2
    refine ⟨ret_bool ?_, rfl⟩
    rw [← hl.out, Int.natCast_mul]
    try simp only [pw1 h1, wrap_u]
    generalize (x.natAbs : Int) * y.natAbs = n at *
    first | rw [if_pos (beq_iff_eq.1 g1)] | rw [if_neg (beq_eq_false_iff_ne.1 g1)]
    rw [Bool.eq_iff_iff]
    simp only [Bool.or_eq_true, decide_eq_true_eq, ne_eq, true_iff]
    omega
end Go.Proofs.Ytmcleghbpdenlaa
