/- Texts of the chain, without what is not wanted: BmE, VrM, IrCa, IrF, IrDatc. No condition but sizes. -/
import Derived.WalkKit
import Derived.Deep.Slices
import Derived.Deep.Draws
import Derived.ChangeSame
import Derived.ChangeOld
import Derived.OwnWalk
import Derived.Laws.OwnMore
import Derived.Deep.AppendLies
import Derived.Test.YtamjcafjdioidaaRows
import Derived.WalkLawsBesides
import Derived.Laws.Externs
import Derived.Laws.Bits64b
import Derived.Lib.Mul64
import Derived.Deep.QuietTactic
import Derived.BigQuiet
import Derived.ProofKit
import Derived.OpenShut
import Derived.JoinedCond
import Derived.WalkSpells
import Derived.Deep.RegionHeld3
import Derived.Deep.LoopGhost
import Derived.Deep.DeepCutAuto
import Derived.Deep.CutBlock
import Derived.StillTailTactics
import Derived.Lib.SliceRun
import Derived.Test.YtamjcafjdioidaaUz01
import Derived.Test.YtamjcafjdioidaaUz02
import Derived.Test.YtamjcafjdioidaaUz04
import Derived.Test.YtamjcafjdioidaaUz33
namespace Go.Proofs.Ytamjcafjdioidaa
set_option linter.unusedSimpArgs false
set_option linter.unusedVariables false
def pw (w : Int) : Int := 2 ^ w.toNat
theorem pw_pos (w : Int) : 1 ≤ pw w := by
 unfold pw
 have : (0 : Int) < 2 ^ w.toNat := Int.pow_pos (by decide)
 omega
theorem pw_add {a b : Int} (ha : 0 ≤ a) (hb : 0 ≤ b) : pw (a + b) = pw a * pw b := by
 unfold pw
 rw [← Int.pow_add, Int.toNat_add ha hb]
theorem pw_64 : pw 64 = 18446744073709551616 := by decide
theorem pw_63 : pw 63 = 9223372036854775808 := by decide
theorem pw_succ {a : Int} (ha : 0 ≤ a) : pw (a + 1) = 2 * pw a := by
 rw [pw_add ha (by decide)]
 have : pw 1 = 2 := by decide
 rw [this, Int.mul_comm]
theorem pw_half {w : Int} (h : 1 ≤ w) : pw w = 2 * pw (w - 1) := by
 have := pw_succ (a := w - 1) (by omega)
 rwa [show w - 1 + 1 = w by omega] at this
theorem pw_rest {w : Int} (h : 0 ≤ w) (h' : w ≤ 64) : pw w * pw (64 - w) = 18446744073709551616 := by
 rw [← pw_add h (by omega), show w + (64 - w) = 64 by omega, pw_64]
theorem pw_rest63 {w : Int} (h : 1 ≤ w) (h' : w ≤ 64) : pw (w - 1) * pw (64 - w) = 9223372036854775808 := by
 rw [← pw_add (by omega) (by omega), show w - 1 + (64 - w) = 63 by omega, pw_63]
theorem pw_mono {a b : Int} (ha : 0 ≤ a) (h : a ≤ b) : pw a ≤ pw b := by
 have := pw_add (a := a) (b := b - a) ha (by omega)
 rw [show a + (b - a) = b by omega] at this
 rw [this]
 have h1 := pw_pos a
 have h2 := pw_pos (b - a)
 have : pw a * 1 ≤ pw a * pw (b - a) := Int.mul_le_mul_of_nonneg_left h2 (by omega)
 omega
theorem pw_le {w : Int} (h : 0 ≤ w) (h' : w ≤ 64) : pw w ≤ 18446744073709551616 := by
 rw [← pw_64]; exact pw_mono h h'
theorem pw_le63 {w : Int} (h : 0 ≤ w) (h' : w ≤ 63) : pw w ≤ 9223372036854775808 := by
 rw [← pw_63]; exact pw_mono h h'
def sg (M v : Int) : Int := if 2 * (v % M) < M then v % M else v % M - M
def inR (M t : Int) : Bool := decide (-M ≤ 2 * t) && decide (2 * t < M)
theorem sg_in {H v : Int} (h : 1 ≤ H) : -H ≤ sg (2 * H) v ∧ sg (2 * H) v < H := by
 have h1 := Int.emod_nonneg v (show 2 * H ≠ 0 by omega)
 have h2 := Int.emod_lt_of_pos v (show 0 < 2 * H by omega)
 unfold sg; split <;> omega
theorem sg_of_mod {M v u : Int} (h : v % M = u % M) : sg M v = sg M u := by unfold sg; rw [h]
theorem sg_id {H t : Int} (h1 : -H ≤ t) (h2 : t < H) : sg (2 * H) t = t := by
 unfold sg
 rcases Int.lt_or_le t 0 with h | h
 ·have : t % (2 * H) = t + 2 * H := by
   rw [← Int.add_emod_right, Int.emod_eq_of_lt (by omega) (by omega)]
  rw [this]; split <;> omega
 ·rw [Int.emod_eq_of_lt h (by omega)]; split <;> omega
theorem sg_eq_iff {H t : Int} (h : 1 ≤ H) : sg (2 * H) t = t ↔ -H ≤ t ∧ t < H :=
 ⟨fun e => by have := sg_in (v := t) h; omega, fun ⟨h1, h2⟩ => sg_id h1 h2⟩
theorem inR_iff {H t : Int} : inR (2 * H) t = true ↔ -H ≤ t ∧ t < H := by
 simp only [inR, Bool.and_eq_true, decide_eq_true_eq]; omega
theorem inR_sg_w {M H t : Int} (hM : M = 2 * H) (h : 1 ≤ H) : inR M t = decide (sg M t = t) := by
 rw [hM, Bool.eq_iff_iff, inR_iff, decide_eq_true_eq, sg_eq_iff h]
end Go.Proofs.Ytamjcafjdioidaa
namespace Go.Proofs.Ytamjcafjdioidaa
set_option linter.unusedSimpArgs false
set_option linter.unusedVariables false
theorem signed_law {w v : Int} (h1 : 1 ≤ w) (h2 : w ≤ 64) :
  (if 9223372036854775808 ≤ v * pw (64 - w) % 18446744073709551616 then v * pw (64 - w) % 18446744073709551616 - 18446744073709551616 else v * pw (64 - w) % 18446744073709551616) / pw (64 - w) = sg (pw w) v := by
 have hM := pw_rest (w := w) (by omega) h2
 have hH := pw_rest63 h1 h2
 have hk := pw_pos (64 - w)
 have hm := pw_pos w
 have hh := pw_half h1
 have e : v * pw (64 - w) % 18446744073709551616 = (v % pw w) * pw (64 - w) := by
  rw [← hM, Int.mul_comm v, Int.mul_comm (pw w), Int.mul_emod_mul_of_pos _ _ (by omega), Int.mul_comm]
 simp only [e]
 unfold sg
 have hr := Int.emod_nonneg v (show pw w ≠ 0 by omega)
 generalize pw (64 - w) = K at *
 generalize v % pw w = r at *
 generalize pw (w - 1) = H at *
 rw [hh] at hM ⊢
 by_cases hc : H ≤ r
 ·have : H * K ≤ r * K := Int.mul_le_mul_of_nonneg_right hc (by omega)
  rw [if_pos (by omega), if_neg (by omega), ← hM, ← Int.sub_mul, Int.mul_ediv_cancel _ (by omega)]
 ·have : (r + 1) * K ≤ H * K := Int.mul_le_mul_of_nonneg_right (by omega) (by omega)
  rw [Int.add_mul] at this
  rw [if_neg (by omega), if_pos (by omega), Int.mul_ediv_cancel _ (by omega)]
def w64 (n : Int) : Int := (n + 9223372036854775808) % 18446744073709551616 - 9223372036854775808
theorem sg_w64 {w t : Int} (h1 : 1 ≤ w) (h2 : w ≤ 64) : sg (pw w) (w64 t) = sg (pw w) t := by
 refine sg_of_mod ?_
 have hM := pw_rest (w := w) (by omega) h2
 have e : w64 t = t + pw w * (-(pw (64 - w)) * ((t + 9223372036854775808) / 18446744073709551616)) := by
  unfold w64
  rw [← Int.mul_assoc, Int.mul_neg, hM]
  omega
 rw [e, Int.add_mul_emod_self_left]
theorem wid {w : Int} (h1 : 1 ≤ w) (h2 : w ≤ 64) : pw w = 2 * pw (w - 1) ∧ 1 ≤ pw (w - 1) ∧ (pw (w - 1) = 9223372036854775808 ∨ pw (w - 1) ≤ 4611686018427387904) := by
 refine ⟨pw_half h1, pw_pos _, ?_⟩
 rcases Int.lt_or_le w 64 with h | h
 ·right
  have : pw 62 = 4611686018427387904 := by decide
  rw [← this]; exact pw_mono (by omega) (by omega)
 ·left
  have : w = 64 := by omega
  subst this; exact pw_63
theorem wraps_add {w x y : Int} (h1 : 1 ≤ w) (h2 : w ≤ 64) (hx : -pw (w - 1) ≤ x ∧ x < pw (w - 1)) (hy : -pw (w - 1) ≤ y ∧ y < pw (w - 1)) :
  ((decide (x > 0) && decide (y > 0) && decide (w64 (x + y) ≤ 0)) || (decide (x < 0) && decide (y < 0) && decide (w64 (x + y) ≥ 0)) || (w64 (x + y) != sg (pw w) (w64 (x + y)))) = !inR (pw w) (x + y) := by
 obtain ⟨hM, hH, hw⟩ := wid h1 h2
 have hs := sg_w64 (t := x + y) h1 h2
 rw [hs, inR_sg_w hM hH]
 have e := sg_eq_iff (t := x + y) hH
 rw [← hM] at e
 rw [Bool.eq_iff_iff]
 simp only [Bool.or_eq_true, Bool.and_eq_true, decide_eq_true_eq, bne_iff_ne, ne_eq, Bool.not_eq_true', decide_eq_false_iff_not]
 rw [e]
 generalize hg : sg (pw w) (x + y) = g at *
 have hgr := sg_in (v := x + y) hH
 rw [← hM, hg] at hgr
 unfold w64
 omega
end Go.Proofs.Ytamjcafjdioidaa
namespace Go.Proofs.Ytamjcafjdioidaa
set_option linter.unusedSimpArgs false
set_option linter.unusedVariables false
structure Big where
 hi : Int
 lo : Int
 below : Bool
 deriving DecidableEq, Inhabited
def big (v : Int) : Big := ⟨v.natAbs / 18446744073709551616, v.natAbs % 18446744073709551616, decide (v < 0)⟩
theorem big_0 {n : Int} (h : 0 ≤ n) (h' : n < 18446744073709551616) : big n = ⟨0, n, false⟩ := by
 unfold big
 simp only [Big.mk.injEq, decide_eq_false_iff_not]
 omega
theorem big_neg {n : Int} (h : n < 0) (h' : -18446744073709551616 < n) : big n = ⟨0, -n, true⟩ := by
 unfold big
 simp only [Big.mk.injEq, decide_eq_true_eq]
 omega
end Go.Proofs.Ytamjcafjdioidaa
namespace Go.Proofs.Ytamjcafjdioidaa
set_option linter.unusedSimpArgs false
set_option linter.unusedVariables false
def rcut (w v : Int) : Int := if 64 ≤ w then v else v % pw w
theorem rcut_eq {w v : Int} (h : w ≤ 64) (h0 : 0 ≤ v) (hv : v < 18446744073709551616) : rcut w v = v % pw w := by
 unfold rcut
 split
 ·have : w = 64 := by omega
  subst this
  rw [pw_64, Int.emod_eq_of_lt h0 hv]
 ·rfl
theorem with_law {w v : Int} (h1 : 1 ≤ w) (h2 : w ≤ 64) :
  (if v % pw w < pw (w - 1) then (⟨0, v % pw w, false⟩ : Big) else ⟨0, (0 - v % pw w) % 18446744073709551616 % pw w, true⟩) = big (sg (pw w) v) := by
 obtain ⟨hM, hH, hw⟩ := wid h1 h2
 have hR := pw_rest (w := w) (by omega) h2
 have hr := Int.emod_nonneg v (show pw w ≠ 0 by omega)
 have hlt := Int.emod_lt_of_pos v (show 0 < pw w by omega)
 rw [Int.emod_emod_of_dvd _ ⟨_, hR.symm⟩]
 unfold sg
 split
 ·rw [if_pos (by omega), big_0 hr (by omega)]
 ·rw [if_neg (by omega), big_neg (by omega) (by omega)]
  congr 1
  rw [← Int.add_emod_right, Int.emod_eq_of_lt (by omega) (by omega)]
  omega
theorem wrapped_law {w t : Int} (h1 : 1 ≤ w) (h2 : w ≤ 64) :
  (if (big t).below = true then (0 - (big t).lo) % 18446744073709551616 % pw w else (big t).lo % pw w) = t % pw w := by
 have hR := pw_rest (w := w) (by omega) h2
 simp only [big, decide_eq_true_eq]
 split
 ·rw [Int.emod_emod_of_dvd _ ⟨_, hR.symm⟩]
  have e : 0 - (t.natAbs : Int) % 18446744073709551616 = t + pw w * (pw (64 - w) * ((t.natAbs : Int) / 18446744073709551616)) := by
   rw [← Int.mul_assoc, hR]; omega
  rw [e, Int.add_mul_emod_self_left]
 ·have e : (t.natAbs : Int) % 18446744073709551616 = t + pw w * (-(pw (64 - w)) * ((t.natAbs : Int) / 18446744073709551616)) := by
   rw [← Int.mul_assoc, Int.mul_neg, hR]; omega
  rw [e, Int.add_mul_emod_self_left]
end Go.Proofs.Ytamjcafjdioidaa

namespace Go.Proofs.Ytamjcafjdioidaa
open Go.RowKit
set_option linter.unusedSimpArgs false
set_option linter.unusedVariables false
theorem wrap_u (n : Int) : IntKind.u64.wrap n = n % 18446744073709551616 := IntKind.wrap_u64 n
theorem pw1 {w : Int} (h : 1 ≤ w) : (2 : Int) ^ (w.toNat - 1) = pw (w - 1) := by unfold pw; congr 1; omega
def maskS (w : Int) : Int := if w < 1 ∨ 64 < w then 0 else pw w - 1
def flagsOf (op : Int) : Int := if op = 1 ∨ op = 2 ∨ op = 3 ∨ op = 11 then 3 else if op = 4 ∨ op = 5 ∨ op = 12 ∨ op = 13 then 4 else 0
end Go.Proofs.Ytamjcafjdioidaa
namespace Go.Proofs.Ytamjcafjdioidaa
open Go.RowKit
set_option linter.unusedSimpArgs false
set_option linter.unusedVariables false
abbrev Big.v (b : Big) : Value := .agg #[.int .u64 b.hi, .int .u64 b.lo, .bool b.below]
theorem rwidth_any (w : Int) (W : World) : Calls Try.prog 109 #[.int .i64 w] W fun e w' => e = .returned (.bool (decide (1 ≤ w) && decide (w ≤ 64))) ∧ W = w' := by
 go_enter Try.func109, Try.ntmps109
 go_wp2
 all_goals go_ret
 all_goals exact ⟨ret_bool (by rw [Bool.eq_iff_iff]; simp; omega), rfl⟩
theorem rcut_any (w v : Int) (W : World) (h0 : 0 ≤ w) (hv : 0 ≤ v ∧ v ≤ 18446744073709551615) : Calls Try.prog 110 #[.int .i64 w, .int .u64 v] W fun e w' => e = .returned (.int .u64 (rcut w v)) ∧ W = w' := by
 have hp := pw_pos w
 by_cases h : 64 ≤ w
 ·have e : Hid (rcut w v = v) := hide (if_pos h)
  go_enter Try.func110, Try.ntmps110
  go_wp2
  go_ret
  exact ⟨ret_int e.out.symm, rfl⟩
 ·have e : Hid (rcut w v = v % pw w) := hide (if_neg h)
  have hle := pw_le63 (w := w) h0 (by omega)
  have hk : IntKind.u64.wrap (2 ^ w.toNat) = 2 ^ w.toNat := by rw [wrap_u]; show pw w % _ = pw w; omega
  have hk0 : (1 : Int) ≤ 2 ^ w.toNat := hp
  have hk1 : ¬ (2 : Int) ^ w.toNat = 0 := by omega
  go_enter Try.func110, Try.ntmps110
  go_wp2
  go_ret
  exact ⟨ret_int e.out.symm, rfl⟩
theorem rhalf_any (w : Int) (W : World) (h1 : 1 ≤ w) (h2 : w ≤ 64) : Calls Try.prog 117 #[.int .i64 w] W fun e w' => e = .returned (.int .u64 (pw (w - 1))) ∧ W = w' := by
 obtain ⟨hM, hH, hw⟩ := wid h1 h2
 go_enter Try.func117, Try.ntmps117
 go_wp2
 go_ret
 exact ⟨ret_int (by rw [pw1 h1, wrap_u]; omega), rfl⟩
theorem rwith_any (w v : Int) (W : World) (h1 : 1 ≤ w) (h2 : w ≤ 64) (hv : 0 ≤ v ∧ v ≤ 18446744073709551615) : Calls Try.prog 112 #[.int .i64 w, .int .u64 v] W fun e w' => e = .returned (big (sg (pw w) v)).v ∧ Below W.heap.size W w' := by
 have hp := pw_pos w
 have hle := pw_le (w := w) (by omega) h2
 have e0 := Int.emod_nonneg v (show pw w ≠ 0 by omega)
 have e1 := Int.emod_lt_of_pos v (show 0 < pw w by omega)
 have ec : Hid (rcut w v = v % pw w) := hide (rcut_eq h2 hv.1 (by omega))
 have hl := with_law (v := v) h1 h2
 obtain ⟨u, hu⟩ : ∃ u, u = (0 - v % pw w) % 18446744073709551616 := ⟨_, rfl⟩
 have hu' : IntKind.u64.wrap (-(v % pw w)) = u := by rw [hu, wrap_u, Int.zero_sub]
 have hb0 : 0 ≤ u ∧ u ≤ 18446744073709551615 := by omega
 rw [← hu] at hl
 have ed : Hid (rcut w u = u % pw w) := hide (rcut_eq h2 hb0.1 (by omega))
 clear hu
 have hv' : 0 ≤ v % pw w ∧ v % pw w ≤ 18446744073709551615 := by omega
 by_cases hc : v % pw w < pw (w - 1)
 ·rw [if_pos hc] at hl
  replace hl := hide hl
  clear e0 e1 hp hle hb0 hu'
  go_enter Try.func112, Try.ntmps112
  go_wp2_with fail
  refine (rcut_any w v _ (by omega) hv).mono ?_; rintro e w' ⟨rfl, rfl⟩
  rw [ec.out]
  go_wp2_with fail
  refine (rhalf_any w _ h1 h2).mono ?_; rintro e w' ⟨rfl, rfl⟩
  go_wp2
  refine bodyPost_ret (v := (big (sg (pw w) v)).v) (by simp [results, Try.results112, go_sem, ← hl.out]) rfl ⟨rfl, (Below.refl _ _).alloc (Nat.le_refl _) _⟩
 ·rw [if_neg hc] at hl
  replace hl := hide hl
  clear e0 e1 hp hle
  go_enter Try.func112, Try.ntmps112
  go_wp2_with fail
  refine (rcut_any w v _ (by omega) hv).mono ?_; rintro e w' ⟨rfl, rfl⟩
  rw [ec.out]
  go_wp2_with fail
  refine (rhalf_any w _ h1 h2).mono ?_; rintro e w' ⟨rfl, rfl⟩
  go_wp2_with fail
  refine (rcut_any w u _ (by omega) hb0).mono ?_; rintro e w' ⟨rfl, rfl⟩
  rw [ed.out]
  go_wp2
  refine bodyPost_ret (v := (big (sg (pw w) v)).v) (by simp [results, Try.results112, go_sem, ← hl.out]) rfl ⟨rfl, (Below.refl _ _).alloc (Nat.le_refl _) _⟩
theorem rwrapped_any (w t : Int) (W : World) (h1 : 1 ≤ w) (h2 : w ≤ 64) : Calls Try.prog 111 #[.int .i64 w, (big t).v] W fun e w' => e = .returned (.int .u64 (t % pw w)) ∧ Below W.heap.size W w' := by
 have hl := wrapped_law (t := t) h1 h2
 have hlo : 0 ≤ (big t).lo ∧ (big t).lo ≤ 18446744073709551615 := by simp only [big]; omega
 obtain ⟨u, hu⟩ : ∃ u, u = (0 - (big t).lo) % 18446744073709551616 := ⟨_, rfl⟩
 have hu' : IntKind.u64.wrap (-(big t).lo) = u := by rw [hu, wrap_u, Int.zero_sub]
 have hb0 : 0 ≤ u ∧ u ≤ 18446744073709551615 := by omega
 rw [← hu] at hl
 clear hu
 have e1 : Hid (rcut w (big t).lo = (big t).lo % pw w) := hide (rcut_eq h2 hlo.1 (by omega))
 have e2 : Hid (rcut w u = u % pw w) := hide (rcut_eq h2 hb0.1 (by omega))
 cases hc : (big t).below
 ·rw [if_neg (by rw [hc]; decide)] at hl
  replace hl := hide hl
  go_enter Try.func111, Try.ntmps111
  go_wp2_with (go_at_call 110; refine (rcut_any w (big t).lo _ (by omega) hlo).mono ?_; rintro e w' ⟨rfl, rfl⟩)
  go_ret
  exact ⟨ret_int (e1.out.trans hl.out), (Below.refl _ _).alloc (Nat.le_refl _) _⟩
 ·rw [if_pos hc] at hl
  replace hl := hide hl
  go_enter Try.func111, Try.ntmps111
  go_wp2_with (go_at_call 110; refine (rcut_any w u _ (by omega) hb0).mono ?_; rintro e w' ⟨rfl, rfl⟩)
  go_ret
  exact ⟨ret_int (e2.out.trans hl.out), (Below.refl _ _).alloc (Nat.le_refl _) _⟩
end Go.Proofs.Ytamjcafjdioidaa
namespace Go.Proofs.Ytamjcafjdioidaa
open Go.RowKit
set_option linter.unusedSimpArgs false
set_option linter.unusedVariables false
def convS8 (op fw tw v : Int) : Int × Bool :=
 if fw < 1 ∨ 64 < fw ∨ tw < 1 ∨ 64 < tw then (0, false) else if op = 20 ∧ fw < tw then (v % pw fw, true) else if op = 21 ∧ fw < tw then (sg (pw fw) v % pw tw, true) else if op = 22 ∧ tw < fw then (v % pw tw, true) else (0, false)
def convV8 (p : Int × Bool) : Value := .tuple #[.int .u64 p.1, .bool p.2]
theorem ret_conv8 {a : Int} {b : Bool} {p : Int × Bool} (h : p = (a, b)) : Ending.returned (.tuple #[.int .u64 a, .bool b]) = .returned (convV8 p) := by rw [h]; rfl
theorem wok_yes8 {w : Int} (h1 : 1 ≤ w) (h2 : w ≤ 64) : (decide (1 ≤ w) && decide (w ≤ 64)) = true := by simp; omega
theorem wok_no8 {w : Int} (h : w < 1 ∨ 64 < w) : (decide (1 ≤ w) && decide (w ≤ 64)) = false := by rw [Bool.and_eq_false_iff]; simp; omega
theorem rwidth_b8 (w : Int) (b : Bool) (W : World) (hb : (decide (1 ≤ w) && decide (w ≤ 64)) = b) : Calls Try.prog 109 #[.int .i64 w] W fun e w' => e = .returned (.bool b) ∧ W = w' := by
 rw [← hb]; exact rwidth_any w W
set_option maxHeartbeats 1000000 in
theorem rmask8_any (w : Int) (W : World) : Calls Try.prog 99 #[.int .i64 w] W fun e w' => e = .returned (.int .u64 (maskS w)) ∧ W = w' := by
 by_cases h : w < 1 ∨ 64 < w
 ·have e : Hid (maskS w = 0) := hide (if_pos h)
  have hb := hide (wok_no8 h)
  go_enter Try.func99, Try.ntmps99
  go_wp2_with fail
  refine (rwidth_b8 w false _ hb.out).mono ?_; rintro e w' ⟨rfl, rfl⟩
  go_wp2
  go_ret
  exact ⟨ret_int e.out.symm, rfl⟩
 ·have e : Hid (maskS w = pw w - 1) := hide (if_neg h)
  have h1 : 1 ≤ w := by omega
  have h2 : w ≤ 64 := by omega
  have hb := hide (wok_yes8 h1 h2)
  have hR := pw_rest (w := w) (by omega) h2
  have hp := pw_pos w
  have hc : Hid (rcut w 18446744073709551615 = pw w - 1) := hide (by
   rw [rcut_eq h2 (by decide) (by decide)]
   have e1 : (18446744073709551615 : Int) = (pw w - 1) + pw w * (pw (64 - w) - 1) := by rw [Int.mul_sub, hR]; omega
   rw [e1, Int.add_mul_emod_self_left, Int.emod_eq_of_lt (by omega) (by omega)])
  clear hR hp h
  go_enter Try.func99, Try.ntmps99
  go_wp2_with fail
  refine (rwidth_b8 w true _ hb.out).mono ?_; rintro e w' ⟨rfl, rfl⟩
  go_wp2_with fail
  refine (rcut_any w 18446744073709551615 _ (by omega) (by decide)).mono ?_; rintro e w' ⟨rfl, rfl⟩
  go_wp2
  go_ret
  exact ⟨ret_int (hc.out.trans e.out.symm), rfl⟩
set_option maxRecDepth 100000 in
set_option maxHeartbeats 2000000 in
theorem rconv8_any (op fw tw v : Int) (W : World) (hv : 0 ≤ v ∧ v ≤ 18446744073709551615) :
  Calls Try.prog 96 #[.int .i64 op, .int .i64 fw, .int .i64 tw, .int .u64 v] W fun e w' => e = .returned (.tuple #[.int .u64 (convS8 op fw tw v).1, .bool (convS8 op fw tw v).2]) ∧ Below W.heap.size W w' := by
 by_cases h : fw < 1 ∨ 64 < fw ∨ tw < 1 ∨ 64 < tw
 ·have e0 : Hid (convS8 op fw tw v = (0, false)) := hide (if_pos h)
  by_cases g : fw < 1 ∨ 64 < fw
  ·have b1 := hide (wok_no8 g)
   clear h g
   go_enter Try.func96, Try.ntmps96
   go_wp2_with fail
   refine (rwidth_b8 fw false _ b1.out).mono ?_; rintro e w' ⟨rfl, rfl⟩
   go_wp2
   go_ret2
   exact ⟨ret_conv8 e0.out, Below.refl _ _⟩
  ·have b1 := hide (wok_yes8 (w := fw) (by omega) (by omega))
   have b2 := hide (wok_no8 (w := tw) (by omega))
   clear h g
   go_enter Try.func96, Try.ntmps96
   go_wp2_with fail
   refine (rwidth_b8 fw true _ b1.out).mono ?_; rintro e w' ⟨rfl, rfl⟩
   go_wp2_with fail
   refine (rwidth_b8 tw false _ b2.out).mono ?_; rintro e w' ⟨rfl, rfl⟩
   go_wp2
   go_ret2
   exact ⟨ret_conv8 e0.out, Below.refl _ _⟩
 ·have e0 : convS8 op fw tw v = if op = 20 ∧ fw < tw then (v % pw fw, true) else if op = 21 ∧ fw < tw then (sg (pw fw) v % pw tw, true) else if op = 22 ∧ tw < fw then (v % pw tw, true) else (0, false) := if_neg h
  have h1 : 1 ≤ fw := by omega
  have h2 : fw ≤ 64 := by omega
  have h3 : 1 ≤ tw := by omega
  have h4 : tw ≤ 64 := by omega
  have b1 := hide (wok_yes8 h1 h2)
  have b2 := hide (wok_yes8 h3 h4)
  have r1 : Hid (rcut fw v = v % pw fw) := hide (rcut_eq h2 hv.1 (by omega))
  have r2 : Hid (rcut tw v = v % pw tw) := hide (rcut_eq h4 hv.1 (by omega))
  replace hv := hide hv
  clear h
  by_cases g1 : op = 20 ∧ fw < tw
  ·rw [if_pos g1, ← r1.out] at e0
   obtain ⟨rfl, g⟩ := g1
   replace e0 := hide e0
   go_enter Try.func96, Try.ntmps96
   go_wp2_with fail
   refine (rwidth_b8 fw true _ b1.out).mono ?_; rintro e w' ⟨rfl, rfl⟩
   go_wp2_with fail
   refine (rwidth_b8 tw true _ b2.out).mono ?_; rintro e w' ⟨rfl, rfl⟩
   go_wp2_with fail
   refine (rcut_any fw v _ (by omega) hv.out).mono ?_; rintro e w' ⟨rfl, rfl⟩
   go_wp2
   go_ret2
   exact ⟨ret_conv8 e0.out, Below.refl _ _⟩
  ·rw [if_neg g1] at e0
   by_cases g2 : op = 21 ∧ fw < tw
   ·rw [if_pos g2] at e0
    obtain ⟨rfl, g⟩ := g2
    replace e0 := hide e0
    clear g1
    go_enter Try.func96, Try.ntmps96
    go_wp2_with fail
    refine (rwidth_b8 fw true _ b1.out).mono ?_; rintro e w' ⟨rfl, rfl⟩
    go_wp2_with fail
    refine (rwidth_b8 tw true _ b2.out).mono ?_; rintro e w' ⟨rfl, rfl⟩
    go_wp2_with fail
    refine (rwith_any fw v _ h1 h2 hv.out).mono ?_; rintro e w1 ⟨rfl, hx1⟩
    replace hx1 := hide hx1
    go_wp2_with fail
    refine (rwrapped_any tw (sg (pw fw) v) _ h3 h4).mono ?_; rintro e w2 ⟨rfl, hx2⟩
    replace hx2 := hide hx2
    go_wp2
    go_ret2
    exact ⟨ret_conv8 e0.out, hx1.out.trans (hx2.out.mono hx1.out.size)⟩
   ·rw [if_neg g2] at e0
    by_cases g3 : op = 22 ∧ tw < fw
    ·rw [if_pos g3, ← r2.out] at e0
     obtain ⟨rfl, g⟩ := g3
     replace e0 := hide e0
     clear g1 g2
     go_enter Try.func96, Try.ntmps96
     go_wp2_with fail
     refine (rwidth_b8 fw true _ b1.out).mono ?_; rintro e w' ⟨rfl, rfl⟩
     go_wp2_with fail
     refine (rwidth_b8 tw true _ b2.out).mono ?_; rintro e w' ⟨rfl, rfl⟩
     go_wp2_with fail
     refine (rcut_any tw v _ (by omega) hv.out).mono ?_; rintro e w' ⟨rfl, rfl⟩
     go_wp2
     go_ret2
     exact ⟨ret_conv8 e0.out, Below.refl _ _⟩
    ·rw [if_neg g3] at e0
     replace e0 := hide e0
     have c1 : ((op == 20) && decide (fw < tw)) = false := by rw [Bool.and_eq_false_iff]; simp; omega
     have c2 : ((op == 21) && decide (fw < tw)) = false := by rw [Bool.and_eq_false_iff]; simp; omega
     have c3 : ((op == 22) && decide (tw < fw)) = false := by rw [Bool.and_eq_false_iff]; simp; omega
     replace g1 := hide g1
     replace g2 := hide g2
     replace g3 := hide g3
     cases d1 : (op == 20)
     all_goals cases d2 : (op == 21)
     all_goals cases d3 : (op == 22)
     all_goals cases d4 : decide (fw < tw)
     all_goals cases d5 : decide (tw < fw)
     all_goals first
      | (exfalso; rw [d1, d4] at c1; cases c1; done)
      | (exfalso; rw [d2, d4] at c2; cases c2; done)
      | (exfalso; rw [d3, d5] at c3; cases c3; done)
      | (clear c1 c2 c3
         go_enter Try.func96, Try.ntmps96
         go_wp2_with fail
         refine (rwidth_b8 fw true _ b1.out).mono ?_; rintro e w' ⟨rfl, rfl⟩
         go_wp2_with fail
         refine (rwidth_b8 tw true _ b2.out).mono ?_; rintro e w' ⟨rfl, rfl⟩
         go_wp2
         all_goals go_ret2
         all_goals exact ⟨ret_conv8 e0.out, Below.refl _ _⟩)
set_option maxHeartbeats 1600000 in
theorem rflags8_any (op : Int) (W : World) : Calls Try.prog 71 #[.int .i64 op] W fun e w' => e = .returned (.int .i64 (flagsOf op)) ∧ W = w' := by
 go_enter Try.func71, Try.ntmps71
 go_wp2
 all_goals go_ret
 all_goals
  refine ⟨ret_int ?_, rfl⟩
  unfold flagsOf
  try simp at *
  (repeat' split) <;> omega
end Go.Proofs.Ytamjcafjdioidaa

namespace Go.Proofs.Ytamjcafjdioidaa
open Go.RowKit
set_option linter.unusedSimpArgs false
set_option linter.unusedVariables false
def calleeS (m : Mod) (n : Int) : List Int × Int × Bool :=
 if 0 ≤ n then (match m.funcs[n.toNat]? with
  | some f => (f.params, f.ret, true)
  | none => ([], 0, false))
 else (match m.exts[(-1 - n).toNat]? with
  | some x => (x.params, x.ret, true)
  | none => ([], 0, false))
def RCalleePost (m : Mod) (n : Int) (B : Nat) (w : World) (e : Ending) (w' : World) : Prop := ∃ v, e = .returned (.tuple #[v, .int .i64 (calleeS m n).2.1, .bool (calleeS m n).2.2]) ∧ RInts.rep w' B [v] (calleeS m n).1 ∧ Below w.heap.size w w'
set_option maxRecDepth 100000 in
set_option maxHeartbeats 6400000 in
theorem rcallee_any (m : Mod) (n : Int) (c1 d1 e1 : Value) (w : World) (B : Nat) (hB : B ≤ w.heap.size) (ha : RMod.rep w B [c1, d1, e1] m) (hn : -9223372036854775808 ≤ n ∧ n ≤ 9223372036854775807) :
  Calls Try.prog 97 #[m.v c1 d1 e1, .int .i64 n] w (RCalleePost m n B w) := by
 obtain ⟨-, hax, haf⟩ := mod_open ha
 obtain ⟨A3, k3, rfl, hl3, gx⟩ := exts_at hax
 obtain ⟨A5, k5, rfl, hl5, gf⟩ := funs_at haf
 clear ha hax haf
 obtain ⟨n3, hn3⟩ : ∃ n, Hid (n = m.exts.length) := ⟨_, hide rfl⟩
 obtain ⟨n5, hn5⟩ : ∃ n, Hid (n = m.funcs.length) := ⟨_, hide rfl⟩
 rw [← hn3.out] at hl3 ⊢
 rw [← hn5.out] at hl5 ⊢
 obtain ⟨W, hW, hwW, hWs, hx⟩ := boxes1 w #[c1, .slice A3 n3 k3, .slice A5 n5 k5] 26
 have x1 := hx 1 _ rfl
 have x2 := hx 2 _ rfl
 clear hx
 have hws : w.heap.size ≤ W.heap.size := by omega
 replace hWs := hide hWs
 replace gx := hide gx
 replace gf := hide gf
 have hself := Below.refl W.heap.size W
 replace hW := hide hW
 replace hwW := hide hwW
 by_cases h0 : 0 ≤ n
 ·obtain ⟨k, rfl⟩ := Int.eq_ofNat_of_zero_le h0
  by_cases hlt : k < n5
  ·obtain ⟨f, hf⟩ := get_ex (l := m.funcs) (k := k) (by rw [← hn5.out]; exact hlt)
   have hcs : Hid (calleeS m k = (f.params, f.ret, true)) := hide (by unfold calleeS; rw [if_pos h0, Int.toNat_natCast, hf.out])
   obtain ⟨q, o, rfl, he⟩ := gf.out (by rw [← hn5.out]; omega)
   obtain ⟨ca, ea, hra, hc⟩ := he k f hf.out
   obtain ⟨a0, a1, a2, a3⟩ := (hc.later (hwW.out.mono hB) (Nat.le_trans hB hws)).four
   have hrp := hide (fun_open hra).1
   clear he hc hra
   go_enter Try.func97, Try.ntmps97
   go_upto_region 1 with (fail)
   rw [hW.out]
   clear hW
   go_wp2_with fail
   go_quiet (fail)
   go_wp2
   go_ret3
   have hb9 := fun q => hwW.out.trans ((below_drewN hself q).mono hws)
   exact ⟨ca, by rw [hcs.out]; rfl, by rw [hcs.out]; exact RInts.below hrp.out ((hb9 _).mono hB), hb9 _⟩
  ·have hcs : Hid (calleeS m k = ([], 0, false)) := hide (by unfold calleeS; rw [if_pos h0, Int.toNat_natCast, List.getElem?_eq_none (by rw [← hn5.out]; omega)])
   have hk2 : ¬ ((k : Int) < (n5 : Int)) := by omega
   have hk3 : ¬ ((k : Int) < 0) := by omega
   go_enter Try.func97, Try.ntmps97
   go_upto_region 1 with (fail)
   rw [hW.out]
   clear hW
   go_wp2
   go_ret3
   exact ⟨_, by rw [hcs.out]; rfl, by rw [hcs.out]; exact Rp.nil_rep, hwW.out⟩
 ·obtain ⟨k, hk⟩ : ∃ k : Nat, n = -1 - (k : Int) := ⟨(-1 - n).toNat, by omega⟩
  subst hk
  have e3 : (-1 - (k : Int) ≥ 0) = False := by simp; omega
  have e4 : (-1 - (k : Int)) < 0 := by omega
  have e5 : -1 - (-1 - (k : Int)) = (k : Int) := by omega
  by_cases hlt : k < n3
  ·obtain ⟨f, hf⟩ := get_ex (l := m.exts) (k := k) (by rw [← hn3.out]; exact hlt)
   have hcs : Hid (calleeS m (-1 - (k : Int)) = (f.params, f.ret, true)) := hide (by unfold calleeS; rw [if_neg h0, show (-1 - (-1 - (k : Int))).toNat = k by omega, hf.out])
   obtain ⟨q, o, rfl, he⟩ := gx.out (by rw [← hn3.out]; omega)
   obtain ⟨ca, hra, -, hc⟩ := he k f hf.out
   obtain ⟨a0, a1, a2⟩ := (hc.later (hwW.out.mono hB) (Nat.le_trans hB hws)).three
   replace hra := hide hra
   clear he hc
   have e6 : -(n3 : Int) ≤ -1 - (k : Int) := by omega
   go_enter Try.func97, Try.ntmps97
   go_upto_region 1 with (fail)
   rw [hW.out]
   clear hW
   go_wp2_with fail
   go_quiet (fail)
   go_wp2
   go_ret3
   have hb9 := fun q => hwW.out.trans ((below_drewN hself q).mono hws)
   exact ⟨ca, by rw [hcs.out]; rfl, by rw [hcs.out]; exact RInts.below hra.out ((hb9 _).mono hB), hb9 _⟩
  ·have hcs : Hid (calleeS m (-1 - (k : Int)) = ([], 0, false)) := hide (by unfold calleeS; rw [if_neg h0, show (-1 - (-1 - (k : Int))).toNat = k by omega, List.getElem?_eq_none (by rw [← hn3.out]; omega)])
   have e6 : ¬ (-(n3 : Int) ≤ -1 - (k : Int)) := by omega
   go_enter Try.func97, Try.ntmps97
   go_upto_region 1 with (fail)
   rw [hW.out]
   clear hW
   go_wp2
   go_ret3
   exact ⟨_, by rw [hcs.out]; rfl, by rw [hcs.out]; exact Rp.nil_rep, hwW.out⟩
end Go.Proofs.Ytamjcafjdioidaa

namespace Go.Proofs.Ytamjcafjdioidaa
open Go.RowKit
def DefPost (f : Fun) (reg : Int) (w : World) (e : Ending) (w' : World) : Prop :=
 ∃ (i j : Nat) (fd : Bool), e = .returned (.tuple #[.agg #[.int .i64 0, .int .i64 i, .int .i64 j], .bool fd]) ∧ Below w.heap.size w w' ∧
   (fd = true → IsDef f.blocks reg i j) ∧ (fd = false → i = 0 ∧ j = 0 ∧ noDef f.blocks.flatten reg)
end Go.Proofs.Ytamjcafjdioidaa

namespace Go.Proofs.Ytamjcafjdioidaa
theorem beforeP_row (bs : List (List Ins)) (n : Nat) : beforeP bs (n + 1) 0 = beforeP bs n 0 ++ rowP n (bs.getD n []).length := by
 unfold beforeP
 rw [List.range_succ, List.flatMap_append]
 simp [rowP]
theorem beforeP_pre (bs : List (List Ins)) (i : Nat) : ∀ d : Nat, ∃ r, beforeP bs i 0 ++ r = beforeP bs (i + d) 0
 | 0 => ⟨[], by simp⟩
 | d + 1 => by
  obtain ⟨r, hr⟩ := beforeP_pre bs i d
  exact ⟨r ++ rowP (i + d) (bs.getD (i + d) []).length, by rw [← List.append_assoc, hr, ← beforeP_row]; rfl⟩
theorem rowP_pre (i : Nat) {j n : Nat} (h : j ≤ n) : ∃ r, rowP i j ++ r = rowP i n := by
 refine ⟨((List.range (n - j)).map fun (k : Nat) => ⟨0, (i : Int), ((j + k : Nat) : Int)⟩), ?_⟩
 unfold rowP
 have e : List.range n = List.range j ++ (List.range (n - j)).map (j + ·) := by
  have := @List.range_add j (n - j)
  rwa [show j + (n - j) = n by omega] at this
 rw [e, List.map_append, List.map_map]
 rfl
theorem beforeP_all {bs : List (List Ins)} {i j : Nat} {x : List Ins} (hx : bs[i]? = some x) (hj : j ≤ x.length) : ∃ r, beforeP bs i j ++ r = beforeP bs bs.length 0 := by
 have hi := (List.getElem?_eq_some_iff.1 hx).1
 obtain ⟨r1, h1⟩ := rowP_pre i hj
 obtain ⟨r2, h2⟩ := beforeP_pre bs (i + 1) (bs.length - (i + 1))
 rw [show i + 1 + (bs.length - (i + 1)) = bs.length by omega] at h2
 refine ⟨r1 ++ r2, ?_⟩
 rw [← h2, beforeP_row, getD_nil hx, ← h1]
 simp [beforeP, rowP]
theorem pos_place {bs : List (List Ins)} {i j : Nat} {x : List Ins} {ins : Ins} (hx : bs[i]? = some x) (hi : x[j]? = some ins) : (beforeP bs bs.length 0)[(before bs i j).length]? = some ⟨0, i, j⟩ := by
 have hj := (List.getElem?_eq_some_iff.1 hi).1
 have hil := (List.getElem?_eq_some_iff.1 hx).1
 obtain ⟨r, hr⟩ := beforeP_all hx (j := j + 1) (by omega)
 rw [← hr, beforeP_step, ← beforeP_length i j (.inr ⟨x, hx, by omega⟩) (by omega), List.append_assoc, List.getElem?_append_right (Nat.le_refl _)]
 simp
theorem pos_ins {bs : List (List Ins)} {i j : Nat} {x : List Ins} {ins : Ins} (hx : bs[i]? = some x) (hi : x[j]? = some ins) : bs.flatten[(before bs i j).length]? = some ins ∧ bs.flatten.take (before bs i j).length = before bs i j := by
 obtain ⟨r, hr⟩ := @before_prefix bs i (j + 1)
 rw [before_step hx hi] at hr
 rw [← hr, List.append_assoc]
 refine ⟨?_, by simp⟩
 rw [List.getElem?_append_right (Nat.le_refl _)]
 simp
theorem before_len {bs : List (List Ins)} {i j : Nat} {x : List Ins} (hx : bs[i]? = some x) (hj : j ≤ x.length) : (before bs i j).length = (before bs i 0).length + j := by
 unfold before
 rw [getD_nil hx]
 simp only [List.length_append, List.take_zero, List.length_nil, Nat.add_zero, List.length_take]
 omega
theorem place_of (bs : List (List Ins)) : ∀ i : Nat, i ≤ bs.length → ∀ k, k < (before bs i 0).length → ∃ i j x ins, bs[i]? = some x ∧ x[j]? = some ins ∧ (before bs i j).length = k
 | 0, _, k, hk => by simp [before] at hk
 | i + 1, hi, k, hk => by
  obtain ⟨x, hx⟩ : ∃ x, bs[i]? = some x := ⟨_, List.getElem?_eq_getElem (by omega)⟩
  rcases Nat.lt_or_ge k (before bs i 0).length with h | h
  ·exact place_of bs i (by omega) k h
  ·rw [← before_next hx, before_len hx (Nat.le_refl _)] at hk
   refine ⟨i, k - (before bs i 0).length, x, x[k - (before bs i 0).length]'(by omega), hx, List.getElem?_eq_getElem (by omega), ?_⟩
   rw [before_len hx (by omega)]
   omega
theorem def_of {bs : List (List Ins)} {r : Int} {k : Nat} {ins : Ins} (hk : bs.flatten[k]? = some ins) (hd : defs ins r = true) (hn : noDef (bs.flatten.take k) r) : ∃ i j : Nat, IsDef bs r i j ∧ (beforeP bs bs.length 0)[k]? = some ⟨0, i, j⟩ := by
 have hlt := (List.getElem?_eq_some_iff.1 hk).1
 obtain ⟨i, j, x, ins', hx, hi, hl⟩ := place_of bs bs.length (Nat.le_refl _) k (by rw [before_end]; exact hlt)
 obtain ⟨h1, h2⟩ := pos_ins hx hi
 have h3 := pos_place hx hi
 rw [hl] at h1 h2 h3
 rw [hk] at h1
 injection h1 with h1
 subst h1
 exact ⟨i, j, ⟨x, ins, hx, hi, hd, h2 ▸ hn⟩, h3⟩
end Go.Proofs.Ytamjcafjdioidaa
