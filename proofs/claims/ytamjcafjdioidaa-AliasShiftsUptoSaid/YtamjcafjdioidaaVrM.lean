/- bits.Mask, Signed, Flags, size, product; math/bits.Mul64: walked. No condition. | The reference of layer 1, its small pieces, walked: width, Cut, half, Plain, With, less, fixed, Minus, Wrapped. No condition. | latheref01.Mask, Flags and Convert. No condition. -/
import Derived.Test.YtamjcafjdioidaaRows
import Derived.Test.YtamjcafjdioidaaApn
import Derived.Test.YtamjcafjdioidaaBmE
import Derived.WalkKit
import Derived.WalkLawsBesides
import Derived.Laws.Externs
import Derived.Laws.Bits64b
import Derived.Lib.Mul64
import Derived.Deep.QuietTactic
import Derived.BigQuiet
namespace Go.Proofs.Ytamjcafjdioidaa
open Go.RowKit
set_option linter.unusedSimpArgs false
set_option linter.unusedVariables false

theorem ret_two {k l : IntKind} {a b c d : Int} (h : a = b) (h' : c = d) : Ending.returned (.tuple #[.int k a, .int l c]) = .returned (.tuple #[.int k b, .int l d]) := by rw [h, h']
theorem wrap_u (n : Int) : IntKind.u64.wrap n = n % 18446744073709551616 := IntKind.wrap_u64 n
theorem wrap_s {n : Int} (h : 0 ≤ n) (h' : n < 18446744073709551616) : wrap64 n = if 9223372036854775808 ≤ n then n - 18446744073709551616 else n := by
  unfold wrap64; split <;> omega

theorem pw1 {w : Int} (h : 1 ≤ w) : (2 : Int) ^ (w.toNat - 1) = pw (w - 1) := by unfold pw; congr 1; omega

/-- what bits.Mask makes of any number -/
def maskS (w : Int) : Int := if w < 1 ∨ 64 < w then 0 else pw w - 1
def signedS (w v : Int) : Int := if w < 1 ∨ 64 < w then 0 else sg (pw w) v
def flagsOf (op : Int) : Int := if op = 1 ∨ op = 2 ∨ op = 3 ∨ op = 11 then 3 else if op = 4 ∨ op = 5 ∨ op = 12 ∨ op = 13 then 4 else 0
namespace M64
theorem maskN (a : Nat) (ha : a < 18446744073709551616) : bits .and .u64 (a : Int) 4294967295 = ((a % 4294967296 : Nat) : Int) := by
  have h := bits_and_u64_nat a 4294967295 ha (by omega)
  have e : a &&& 4294967295 = a % 4294967296 := Nat.and_two_pow_sub_one_eq_mod a 32
  rw [e] at h
  exact h
theorem divN (a : Nat) : (a : Int) / 4294967296 = ((a / 4294967296 : Nat) : Int) := by omega
theorem mulN (a b : Nat) : (a : Int) * (b : Int) = ((a * b : Nat) : Int) := (Int.natCast_mul a b).symm
theorem addN (a b : Nat) : (a : Int) + (b : Int) = ((a + b : Nat) : Int) := (Int.natCast_add a b).symm
theorem wrapN (a : Nat) (ha : a < 18446744073709551616) : IntKind.u64.wrap (a : Int) = (a : Int) := by rw [IntKind.wrap_u64]; omega
theorem wrapM (a : Nat) : IntKind.u64.wrap (a : Int) = ((a % 18446744073709551616 : Nat) : Int) := by rw [IntKind.wrap_u64]; omega
end M64
end Go.Proofs.Ytamjcafjdioidaa

namespace Go.Proofs.Ytamjcafjdioidaa
open Go.RowKit
set_option linter.unusedSimpArgs false
set_option linter.unusedVariables false

abbrev Big.v (b : Big) : Value := .agg #[.int .u64 b.hi, .int .u64 b.lo, .bool b.below]

theorem rwidth_any (w : Int) (W : World) : Calls Try.prog 109 #[.int .i64 w] W fun e w' => e = .returned (.bool (decide (1 ≤ w) && decide (w ≤ 64))) ∧ W = w' := by
  go_enter Try.func109, Try.ntmps109
  go_wp2
  all_goals go_ret
  all_goals exact ⟨ret_bool (by rw [Bool.eq_iff_iff]; simp; omega), rfl⟩
theorem rcut_any (w v : Int) (W : World) (h0 : 0 ≤ w) (hv : 0 ≤ v ∧ v ≤ 18446744073709551615) : Calls Try.prog 110 #[.int .i64 w, .int .u64 v] W fun e w' => e = .returned (.int .u64 (rcut w v)) ∧ W = w' := by
  have hp := pw_pos w
  by_cases h : 64 ≤ w
  · have e : Hid (rcut w v = v) := hide (if_pos h)
    go_enter Try.func110, Try.ntmps110
    go_wp2
    go_ret
    exact ⟨ret_int e.out.symm, rfl⟩
  · have e : Hid (rcut w v = v % pw w) := hide (if_neg h)
    have hle := pw_le63 (w := w) h0 (by omega)
    have hk : IntKind.u64.wrap (2 ^ w.toNat) = 2 ^ w.toNat := by rw [wrap_u]; show pw w % _ = pw w; omega
    have hk0 : (1 : Int) ≤ 2 ^ w.toNat := hp
    have hk1 : ¬ (2 : Int) ^ w.toNat = 0 := by omega
    go_enter Try.func110, Try.ntmps110
    go_wp2
    go_ret
    exact ⟨ret_int e.out.symm, rfl⟩
theorem rhalf_any (w : Int) (W : World) (h1 : 1 ≤ w) (h2 : w ≤ 64) : Calls Try.prog 117 #[.int .i64 w] W fun e w' => e = .returned (.int .u64 (pw (w - 1))) ∧ W = w' := by
  obtain ⟨hM, hH, hw⟩ := wid h1 h2
  go_enter Try.func117, Try.ntmps117
  go_wp2
  go_ret
  exact ⟨ret_int (by rw [pw1 h1, wrap_u]; omega), rfl⟩
theorem rwith_any (w v : Int) (W : World) (h1 : 1 ≤ w) (h2 : w ≤ 64) (hv : 0 ≤ v ∧ v ≤ 18446744073709551615) : Calls Try.prog 112 #[.int .i64 w, .int .u64 v] W fun e w' => e = .returned (big (sg (pw w) v)).v ∧ Below W.heap.size W w' := by
  have hp := pw_pos w
  have hle := pw_le (w := w) (by omega) h2
  have e0 := Int.emod_nonneg v (show pw w ≠ 0 by omega)
  have e1 := Int.emod_lt_of_pos v (show 0 < pw w by omega)
  have ec : Hid (rcut w v = v % pw w) := hide (rcut_eq h2 hv.1 (by omega))
  have hl := with_law (v := v) h1 h2
  obtain ⟨u, hu⟩ : ∃ u, u = (0 - v % pw w) % 18446744073709551616 := ⟨_, rfl⟩
  have hu' : IntKind.u64.wrap (-(v % pw w)) = u := by rw [hu, wrap_u, Int.zero_sub]
  have hb0 : 0 ≤ u ∧ u ≤ 18446744073709551615 := by omega
  rw [← hu] at hl
  have ed : Hid (rcut w u = u % pw w) := hide (rcut_eq h2 hb0.1 (by omega))
  clear hu
  have hv' : 0 ≤ v % pw w ∧ v % pw w ≤ 18446744073709551615 := by omega
  by_cases hc : v % pw w < pw (w - 1)
  · rw [if_pos hc] at hl
    replace hl := hide hl
    clear e0 e1 hp hle hb0 hu'
    go_enter Try.func112, Try.ntmps112
    go_wp2_with fail
    refine (rcut_any w v _ (by omega) hv).mono ?_; rintro e w' ⟨rfl, rfl⟩
    rw [ec.out]
    go_wp2_with fail
    refine (rhalf_any w _ h1 h2).mono ?_; rintro e w' ⟨rfl, rfl⟩
    go_wp2
    refine bodyPost_ret (v := (big (sg (pw w) v)).v) (by simp [results, Try.results112, go_sem, ← hl.out]) rfl ⟨rfl, (Below.refl _ _).alloc (Nat.le_refl _) _⟩
  · rw [if_neg hc] at hl
    replace hl := hide hl
    clear e0 e1 hp hle
    go_enter Try.func112, Try.ntmps112
    go_wp2_with fail
    refine (rcut_any w v _ (by omega) hv).mono ?_; rintro e w' ⟨rfl, rfl⟩
    rw [ec.out]
    go_wp2_with fail
    refine (rhalf_any w _ h1 h2).mono ?_; rintro e w' ⟨rfl, rfl⟩
    go_wp2_with fail
    refine (rcut_any w u _ (by omega) hb0).mono ?_; rintro e w' ⟨rfl, rfl⟩
    rw [ed.out]
    go_wp2
    refine bodyPost_ret (v := (big (sg (pw w) v)).v) (by simp [results, Try.results112, go_sem, ← hl.out]) rfl ⟨rfl, (Below.refl _ _).alloc (Nat.le_refl _) _⟩

/-- a Big that the reference hands about: two words -/
def Big.ok (b : Big) : Prop := (0 ≤ b.hi ∧ b.hi ≤ 18446744073709551615) ∧ (0 ≤ b.lo ∧ b.lo ≤ 18446744073709551615)
theorem bcell {W w1 : World} (hb : Below W.heap.size W w1) : (∀ b o, b < W.heap.size → w1.cell? ⟨b, o, none⟩ = W.cell? ⟨b, o, none⟩) ∧ (∀ b o, b < W.heap.size → w1.frozen? ⟨b, o, none⟩ = W.frozen? ⟨b, o, none⟩) :=
  ⟨fun b o h => hb.cell (p := ⟨b, o, none⟩) h, fun b o h => hb.frozen (p := ⟨b, o, none⟩) h⟩
theorem rwrapped_any (w t : Int) (W : World) (h1 : 1 ≤ w) (h2 : w ≤ 64) : Calls Try.prog 111 #[.int .i64 w, (big t).v] W fun e w' => e = .returned (.int .u64 (t % pw w)) ∧ Below W.heap.size W w' := by
  have hl := wrapped_law (t := t) h1 h2
  have hlo : 0 ≤ (big t).lo ∧ (big t).lo ≤ 18446744073709551615 := by simp only [big]; omega
  obtain ⟨u, hu⟩ : ∃ u, u = (0 - (big t).lo) % 18446744073709551616 := ⟨_, rfl⟩
  have hu' : IntKind.u64.wrap (-(big t).lo) = u := by rw [hu, wrap_u, Int.zero_sub]
  have hb0 : 0 ≤ u ∧ u ≤ 18446744073709551615 := by omega
  rw [← hu] at hl
  clear hu
  have e1 : Hid (rcut w (big t).lo = (big t).lo % pw w) := hide (rcut_eq h2 hlo.1 (by omega))
  have e2 : Hid (rcut w u = u % pw w) := hide (rcut_eq h2 hb0.1 (by omega))
  cases hc : (big t).below
  · rw [if_neg (by rw [hc]; decide)] at hl
    replace hl := hide hl
    go_enter Try.func111, Try.ntmps111
    go_wp2_with (go_at_call 110; refine (rcut_any w (big t).lo _ (by omega) hlo).mono ?_; rintro e w' ⟨rfl, rfl⟩)
    go_ret
    exact ⟨ret_int (e1.out.trans hl.out), (Below.refl _ _).alloc (Nat.le_refl _) _⟩
  · rw [if_pos hc] at hl
    replace hl := hide hl
    go_enter Try.func111, Try.ntmps111
    go_wp2_with (go_at_call 110; refine (rcut_any w u _ (by omega) hb0).mono ?_; rintro e w' ⟨rfl, rfl⟩)
    go_ret
    exact ⟨ret_int (e2.out.trans hl.out), (Below.refl _ _).alloc (Nat.le_refl _) _⟩
end Go.Proofs.Ytamjcafjdioidaa

namespace Go.Proofs.Ytamjcafjdioidaa
open Go.RowKit
set_option linter.unusedSimpArgs false
set_option linter.unusedVariables false

def convS8 (op fw tw v : Int) : Int × Bool :=
  if fw < 1 ∨ 64 < fw ∨ tw < 1 ∨ 64 < tw then (0, false) else if op = 20 ∧ fw < tw then (v % pw fw, true) else if op = 21 ∧ fw < tw then (sg (pw fw) v % pw tw, true) else if op = 22 ∧ tw < fw then (v % pw tw, true) else (0, false)
def convV8 (p : Int × Bool) : Value := .tuple #[.int .u64 p.1, .bool p.2]
theorem ret_conv8 {a : Int} {b : Bool} {p : Int × Bool} (h : p = (a, b)) : Ending.returned (.tuple #[.int .u64 a, .bool b]) = .returned (convV8 p) := by rw [h]; rfl
theorem wok_yes8 {w : Int} (h1 : 1 ≤ w) (h2 : w ≤ 64) : (decide (1 ≤ w) && decide (w ≤ 64)) = true := by simp; omega
theorem wok_no8 {w : Int} (h : w < 1 ∨ 64 < w) : (decide (1 ≤ w) && decide (w ≤ 64)) = false := by rw [Bool.and_eq_false_iff]; simp; omega
theorem rwidth_b8 (w : Int) (b : Bool) (W : World) (hb : (decide (1 ≤ w) && decide (w ≤ 64)) = b) : Calls Try.prog 109 #[.int .i64 w] W fun e w' => e = .returned (.bool b) ∧ W = w' := by
  rw [← hb]; exact rwidth_any w W
set_option maxHeartbeats 1000000 in
theorem rmask8_any (w : Int) (W : World) : Calls Try.prog 99 #[.int .i64 w] W fun e w' => e = .returned (.int .u64 (maskS w)) ∧ W = w' := by
  by_cases h : w < 1 ∨ 64 < w
  · have e : Hid (maskS w = 0) := hide (if_pos h)
    have hb := hide (wok_no8 h)
    go_enter Try.func99, Try.ntmps99
    go_wp2_with fail
    refine (rwidth_b8 w false _ hb.out).mono ?_; rintro e w' ⟨rfl, rfl⟩
    go_wp2
    go_ret
    exact ⟨ret_int e.out.symm, rfl⟩
  · have e : Hid (maskS w = pw w - 1) := hide (if_neg h)
    have h1 : 1 ≤ w := by omega
    have h2 : w ≤ 64 := by omega
    have hb := hide (wok_yes8 h1 h2)
    have hR := pw_rest (w := w) (by omega) h2
    have hp := pw_pos w
    have hc : Hid (rcut w 18446744073709551615 = pw w - 1) := hide (by
      rw [rcut_eq h2 (by decide) (by decide)]
      have e1 : (18446744073709551615 : Int) = (pw w - 1) + pw w * (pw (64 - w) - 1) := by rw [Int.mul_sub, hR]; omega
      rw [e1, Int.add_mul_emod_self_left, Int.emod_eq_of_lt (by omega) (by omega)])
    clear hR hp h
    go_enter Try.func99, Try.ntmps99
    go_wp2_with fail
    refine (rwidth_b8 w true _ hb.out).mono ?_; rintro e w' ⟨rfl, rfl⟩
    go_wp2_with fail
    refine (rcut_any w 18446744073709551615 _ (by omega) (by decide)).mono ?_; rintro e w' ⟨rfl, rfl⟩
    go_wp2
    go_ret
    exact ⟨ret_int (hc.out.trans e.out.symm), rfl⟩
set_option maxRecDepth 100000 in
set_option maxHeartbeats 2000000 in
theorem rconv8_any (op fw tw v : Int) (W : World) (hv : 0 ≤ v ∧ v ≤ 18446744073709551615) :
    Calls Try.prog 96 #[.int .i64 op, .int .i64 fw, .int .i64 tw, .int .u64 v] W fun e w' => e = .returned (.tuple #[.int .u64 (convS8 op fw tw v).1, .bool (convS8 op fw tw v).2]) ∧ Below W.heap.size W w' := by
  by_cases h : fw < 1 ∨ 64 < fw ∨ tw < 1 ∨ 64 < tw
  · have e0 : Hid (convS8 op fw tw v = (0, false)) := hide (if_pos h)
    by_cases g : fw < 1 ∨ 64 < fw
    · have b1 := hide (wok_no8 g)
      clear h g
      go_enter Try.func96, Try.ntmps96
      go_wp2_with fail
      refine (rwidth_b8 fw false _ b1.out).mono ?_; rintro e w' ⟨rfl, rfl⟩
      go_wp2
      go_ret2
      exact ⟨ret_conv8 e0.out, Below.refl _ _⟩
    · have b1 := hide (wok_yes8 (w := fw) (by omega) (by omega))
      have b2 := hide (wok_no8 (w := tw) (by omega))
      clear h g
      go_enter Try.func96, Try.ntmps96
      go_wp2_with fail
      refine (rwidth_b8 fw true _ b1.out).mono ?_; rintro e w' ⟨rfl, rfl⟩
      go_wp2_with fail
      refine (rwidth_b8 tw false _ b2.out).mono ?_; rintro e w' ⟨rfl, rfl⟩
      go_wp2
      go_ret2
      exact ⟨ret_conv8 e0.out, Below.refl _ _⟩
  · have e0 : convS8 op fw tw v = if op = 20 ∧ fw < tw then (v % pw fw, true) else if op = 21 ∧ fw < tw then (sg (pw fw) v % pw tw, true) else if op = 22 ∧ tw < fw then (v % pw tw, true) else (0, false) := if_neg h
    have h1 : 1 ≤ fw := by omega
    have h2 : fw ≤ 64 := by omega
    have h3 : 1 ≤ tw := by omega
    have h4 : tw ≤ 64 := by omega
    have b1 := hide (wok_yes8 h1 h2)
    have b2 := hide (wok_yes8 h3 h4)
    have r1 : Hid (rcut fw v = v % pw fw) := hide (rcut_eq h2 hv.1 (by omega))
    have r2 : Hid (rcut tw v = v % pw tw) := hide (rcut_eq h4 hv.1 (by omega))
    replace hv := hide hv
    clear h
    by_cases g1 : op = 20 ∧ fw < tw
    · rw [if_pos g1, ← r1.out] at e0
      obtain ⟨rfl, g⟩ := g1
      replace e0 := hide e0
      go_enter Try.func96, Try.ntmps96
      go_wp2_with fail
      refine (rwidth_b8 fw true _ b1.out).mono ?_; rintro e w' ⟨rfl, rfl⟩
      go_wp2_with fail
      refine (rwidth_b8 tw true _ b2.out).mono ?_; rintro e w' ⟨rfl, rfl⟩
      go_wp2_with fail
      refine (rcut_any fw v _ (by omega) hv.out).mono ?_; rintro e w' ⟨rfl, rfl⟩
      go_wp2
      go_ret2
      exact ⟨ret_conv8 e0.out, Below.refl _ _⟩
    · rw [if_neg g1] at e0
      by_cases g2 : op = 21 ∧ fw < tw
      · rw [if_pos g2] at e0
        obtain ⟨rfl, g⟩ := g2
        replace e0 := hide e0
        clear g1
        go_enter Try.func96, Try.ntmps96
        go_wp2_with fail
        refine (rwidth_b8 fw true _ b1.out).mono ?_; rintro e w' ⟨rfl, rfl⟩
        go_wp2_with fail
        refine (rwidth_b8 tw true _ b2.out).mono ?_; rintro e w' ⟨rfl, rfl⟩
        go_wp2_with fail
        refine (rwith_any fw v _ h1 h2 hv.out).mono ?_; rintro e w1 ⟨rfl, hx1⟩
        replace hx1 := hide hx1
        go_wp2_with fail
        refine (rwrapped_any tw (sg (pw fw) v) _ h3 h4).mono ?_; rintro e w2 ⟨rfl, hx2⟩
        replace hx2 := hide hx2
        go_wp2
        go_ret2
        exact ⟨ret_conv8 e0.out, hx1.out.trans (hx2.out.mono hx1.out.size)⟩
      · rw [if_neg g2] at e0
        by_cases g3 : op = 22 ∧ tw < fw
        · rw [if_pos g3, ← r2.out] at e0
          obtain ⟨rfl, g⟩ := g3
          replace e0 := hide e0
          clear g1 g2
          go_enter Try.func96, Try.ntmps96
          go_wp2_with fail
          refine (rwidth_b8 fw true _ b1.out).mono ?_; rintro e w' ⟨rfl, rfl⟩
          go_wp2_with fail
          refine (rwidth_b8 tw true _ b2.out).mono ?_; rintro e w' ⟨rfl, rfl⟩
          go_wp2_with fail
          refine (rcut_any tw v _ (by omega) hv.out).mono ?_; rintro e w' ⟨rfl, rfl⟩
          go_wp2
          go_ret2
          exact ⟨ret_conv8 e0.out, Below.refl _ _⟩
        · rw [if_neg g3] at e0
          replace e0 := hide e0
          have c1 : ((op == 20) && decide (fw < tw)) = false := by rw [Bool.and_eq_false_iff]; simp; omega
          have c2 : ((op == 21) && decide (fw < tw)) = false := by rw [Bool.and_eq_false_iff]; simp; omega
          have c3 : ((op == 22) && decide (tw < fw)) = false := by rw [Bool.and_eq_false_iff]; simp; omega
          replace g1 := hide g1
          replace g2 := hide g2
          replace g3 := hide g3
          cases d1 : (op == 20)
          all_goals cases d2 : (op == 21)
          all_goals cases d3 : (op == 22)
          all_goals cases d4 : decide (fw < tw)
          all_goals cases d5 : decide (tw < fw)
          all_goals first
            | (exfalso; rw [d1, d4] at c1; cases c1; done)
            | (exfalso; rw [d2, d4] at c2; cases c2; done)
            | (exfalso; rw [d3, d5] at c3; cases c3; done)
            | (clear c1 c2 c3
               go_enter Try.func96, Try.ntmps96
               go_wp2_with fail
               refine (rwidth_b8 fw true _ b1.out).mono ?_; rintro e w' ⟨rfl, rfl⟩
               go_wp2_with fail
               refine (rwidth_b8 tw true _ b2.out).mono ?_; rintro e w' ⟨rfl, rfl⟩
               go_wp2
               all_goals go_ret2
               all_goals exact ⟨ret_conv8 e0.out, Below.refl _ _⟩)

set_option maxHeartbeats 1600000 in
theorem rflags8_any (op : Int) (W : World) : Calls Try.prog 71 #[.int .i64 op] W fun e w' => e = .returned (.int .i64 (flagsOf op)) ∧ W = w' := by
  go_enter Try.func71, Try.ntmps71
  go_wp2
  all_goals go_ret
  all_goals
    refine ⟨ret_int ?_, rfl⟩
    unfold flagsOf
    try simp at *
    (repeat' split) <;> omega

end Go.Proofs.Ytamjcafjdioidaa
