/- The reference of layer 1, its small pieces, walked: width, Cut, half, Plain, With, less, fixed, Minus, Wrapped. No condition. -/
import Derived.Test.YtmcleghbpdenlaaBwA
import Derived.Test.YtmcleghbpdenlaaBmE
namespace Go.Proofs.Ytmcleghbpdenlaa
open Go.RowKit
set_option linter.unusedSimpArgs false
set_option linter.unusedVariables false

abbrev Big.v (b : Big) : Value := .agg #[.int .u64 b.hi, .int .u64 b.lo, .bool b.below]

theorem rwidth_any (w : Int) (W : World) : Calls Try.prog 50 #[.int .i64 w] W fun e w' => e = .returned (.bool (decide (1 ≤ w) && decide (w ≤ 64))) ∧ W = w' := by
  go_enter Try.func50, Try.ntmps50
  go_wp2
  all_goals go_ret
  all_goals exact ⟨ret_bool (by rw [Bool.eq_iff_iff]; simp; omega), rfl⟩
theorem rcut_any (w v : Int) (W : World) (h0 : 0 ≤ w) (hv : 0 ≤ v ∧ v ≤ 18446744073709551615) : Calls Try.prog 45 #[.int .i64 w, .int .u64 v] W fun e w' => e = .returned (.int .u64 (rcut w v)) ∧ W = w' := by
  have hp := pw_pos w
  by_cases h : 64 ≤ w
  · have e : Hid (rcut w v = v) := hide (if_pos h)
    go_enter Try.func45, Try.ntmps45
    go_wp2
    go_ret
    exact ⟨ret_int e.out.symm, rfl⟩
  · have e : Hid (rcut w v = v % pw w) := hide (if_neg h)
    have hle := pw_le63 (w := w) h0 (by omega)
    have hk : IntKind.u64.wrap (2 ^ w.toNat) = 2 ^ w.toNat := by rw [wrap_u]; show pw w % _ = pw w; omega
    have hk0 : (1 : Int) ≤ 2 ^ w.toNat := hp
    have hk1 : ¬ (2 : Int) ^ w.toNat = 0 := by omega
    go_enter Try.func45, Try.ntmps45
    go_wp2
    go_ret
    exact ⟨ret_int e.out.symm, rfl⟩
theorem rhalf_any (w : Int) (W : World) (h1 : 1 ≤ w) (h2 : w ≤ 64) : Calls Try.prog 73 #[.int .i64 w] W fun e w' => e = .returned (.int .u64 (pw (w - 1))) ∧ W = w' := by
  obtain ⟨hM, hH, hw⟩ := wid h1 h2
  go_enter Try.func73, Try.ntmps73
  go_wp2
  go_ret
  exact ⟨ret_int (by rw [pw1 h1, wrap_u]; omega), rfl⟩
theorem rplain_any (w v : Int) (W : World) (h1 : 1 ≤ w) (h2 : w ≤ 64) (hv : 0 ≤ v ∧ v ≤ 18446744073709551615) : Calls Try.prog 67 #[.int .i64 w, .int .u64 v] W fun e w' => e = .returned (big (v % pw w)).v ∧ Below W.heap.size W w' := by
  have hp := pw_pos w
  have hle := pw_le (w := w) (by omega) h2
  have e0 := Int.emod_nonneg v (show pw w ≠ 0 by omega)
  have e1 := Int.emod_lt_of_pos v (show 0 < pw w by omega)
  have e : Hid (big (v % pw w) = ⟨0, rcut w v, false⟩) := hide (by rw [rcut_eq h2 hv.1 (by omega)]; exact big_0 e0 (by omega))
  clear e0 e1 hp hle
  go_enter Try.func67, Try.ntmps67
  go_wp2_with (go_at_call 45; refine (rcut_any w v _ (by omega) hv).mono ?_; rintro e w' ⟨rfl, rfl⟩)
  refine bodyPost_ret (v := (big (v % pw w)).v) (by simp [results, Try.results67, go_sem, e.out]) rfl ⟨rfl, (Below.refl _ _).alloc (Nat.le_refl _) _⟩
theorem rwith_any (w v : Int) (W : World) (h1 : 1 ≤ w) (h2 : w ≤ 64) (hv : 0 ≤ v ∧ v ≤ 18446744073709551615) : Calls Try.prog 57 #[.int .i64 w, .int .u64 v] W fun e w' => e = .returned (big (sg (pw w) v)).v ∧ Below W.heap.size W w' := by
  have hp := pw_pos w
  have hle := pw_le (w := w) (by omega) h2
  have e0 := Int.emod_nonneg v (show pw w ≠ 0 by omega)
  have e1 := Int.emod_lt_of_pos v (show 0 < pw w by omega)
  have ec : Hid (rcut w v = v % pw w) := hide (rcut_eq h2 hv.1 (by omega))
  have hl := with_law (v := v) h1 h2
  obtain ⟨u, hu⟩ : ∃ u, u = (0 - v % pw w) % 18446744073709551616 := ⟨_, rfl⟩
  have hu' : IntKind.u64.wrap (-(v % pw w)) = u := by rw [hu, wrap_u, Int.zero_sub]
  have hb0 : 0 ≤ u ∧ u ≤ 18446744073709551615 := by omega
  rw [← hu] at hl
  have ed : Hid (rcut w u = u % pw w) := hide (rcut_eq h2 hb0.1 (by omega))
  clear hu
  have hv' : 0 ≤ v % pw w ∧ v % pw w ≤ 18446744073709551615 := by omega
  by_cases hc : v % pw w < pw (w - 1)
  · rw [if_pos hc] at hl
    replace hl := hide hl
    clear e0 e1 hp hle hb0 hu'
    go_enter Try.func57, Try.ntmps57
    go_wp2_with fail
    refine (rcut_any w v _ (by omega) hv).mono ?_; rintro e w' ⟨rfl, rfl⟩
    rw [ec.out]
    go_wp2_with fail
    refine (rhalf_any w _ h1 h2).mono ?_; rintro e w' ⟨rfl, rfl⟩
    go_wp2
    refine bodyPost_ret (v := (big (sg (pw w) v)).v) (by simp [results, Try.results57, go_sem, ← hl.out]) rfl ⟨rfl, (Below.refl _ _).alloc (Nat.le_refl _) _⟩
  · rw [if_neg hc] at hl
    replace hl := hide hl
    clear e0 e1 hp hle
    go_enter Try.func57, Try.ntmps57
    go_wp2_with fail
    refine (rcut_any w v _ (by omega) hv).mono ?_; rintro e w' ⟨rfl, rfl⟩
    rw [ec.out]
    go_wp2_with fail
    refine (rhalf_any w _ h1 h2).mono ?_; rintro e w' ⟨rfl, rfl⟩
    go_wp2_with fail
    refine (rcut_any w u _ (by omega) hb0).mono ?_; rintro e w' ⟨rfl, rfl⟩
    rw [ed.out]
    go_wp2
    refine bodyPost_ret (v := (big (sg (pw w) v)).v) (by simp [results, Try.results57, go_sem, ← hl.out]) rfl ⟨rfl, (Below.refl _ _).alloc (Nat.le_refl _) _⟩

/-- a Big that the reference hands about: two words -/
def Big.ok (b : Big) : Prop := (0 ≤ b.hi ∧ b.hi ≤ 18446744073709551615) ∧ (0 ≤ b.lo ∧ b.lo ≤ 18446744073709551615)
theorem bcell {W w1 : World} (hb : Below W.heap.size W w1) : (∀ b o, b < W.heap.size → w1.cell? ⟨b, o, none⟩ = W.cell? ⟨b, o, none⟩) ∧ (∀ b o, b < W.heap.size → w1.frozen? ⟨b, o, none⟩ = W.frozen? ⟨b, o, none⟩) :=
  ⟨fun b o h => hb.cell (p := ⟨b, o, none⟩) h, fun b o h => hb.frozen (p := ⟨b, o, none⟩) h⟩
theorem rless_any (a b : Big) (W : World) : Calls Try.prog 79 #[a.v, b.v] W fun e w' => e = .returned (.bool (bless a b)) ∧ Below W.heap.size W w' := by
  go_enter Try.func79, Try.ntmps79
  go_wp2
  all_goals go_ret
  all_goals
    refine ⟨ret_bool ?_, ((Below.refl _ _).alloc (Nat.le_refl _) _).alloc (by simp) _⟩
    rw [Bool.eq_iff_iff]
    simp [bless]
    omega
theorem rfixed_any (hi lo : Int) (b : Bool) (W : World) : Calls Try.prog 78 #[.agg #[.int .u64 hi, .int .u64 lo, .bool b]] W fun e w' => e = .returned (bfixed ⟨hi, lo, b⟩).v ∧ Below W.heap.size W w' := by
  by_cases h0 : hi = 0
  · by_cases h1 : lo = 0
    · subst h0 h1
      go_enter Try.func78, Try.ntmps78
      go_wp2
      refine bodyPost_ret (v := (bfixed ⟨0, 0, b⟩).v) (by simp [results, Try.results78, go_sem, bfixed]) rfl ⟨rfl, ?_⟩
      exact ((Below.refl _ _).alloc (Nat.le_refl _) _).alloc (by simp) _
    · subst h0
      have h2 : (lo == 0) = false := beq_eq_false_iff_ne.2 h1
      go_enter Try.func78, Try.ntmps78
      go_wp2
      refine bodyPost_ret (v := (bfixed ⟨0, lo, b⟩).v) (by simp [results, Try.results78, go_sem, bfixed, h1]) rfl ⟨rfl, ?_⟩
      exact ((Below.refl _ _).alloc (Nat.le_refl _) _).alloc (by simp) _
  · have h2 : (hi == 0) = false := beq_eq_false_iff_ne.2 h0
    go_enter Try.func78, Try.ntmps78
    go_wp2
    refine bodyPost_ret (v := (bfixed ⟨hi, lo, b⟩).v) (by simp [results, Try.results78, go_sem, bfixed, h0]) rfl ⟨rfl, ?_⟩
    exact ((Below.refl _ _).alloc (Nat.le_refl _) _).alloc (by simp) _
theorem rminus_any (a : Big) (W : World) : Calls Try.prog 72 #[a.v] W fun e w' => e = .returned (bminus a).v ∧ Below W.heap.size W w' := by
  go_enter Try.func72, Try.ntmps72
  go_wp2_with fail
  refine (rfixed_any a.hi a.lo (!a.below) _).mono ?_; rintro e w1 ⟨rfl, hb1⟩
  obtain ⟨hc, hf⟩ := bcell hb1
  have hz : W.heap.size + 2 ≤ w1.heap.size := by have := hb1.size; simp at this; omega
  go_wp2
  refine bodyPost_ret (v := (bminus a).v) (by simp [results, Try.results72, go_sem, bminus, hc, hz]) rfl ⟨rfl, ?_⟩
  exact (((((((Below.refl _ _).alloc (Nat.le_refl _) _).alloc (by simp) _).trans (hb1.mono (by simp; omega))).setCell (by simp) _).setCell (by simp) _).setCell (by simp) _)
theorem rwrapped_any (w t : Int) (W : World) (h1 : 1 ≤ w) (h2 : w ≤ 64) : Calls Try.prog 56 #[.int .i64 w, (big t).v] W fun e w' => e = .returned (.int .u64 (t % pw w)) ∧ Below W.heap.size W w' := by
  have hl := wrapped_law (t := t) h1 h2
  have hlo : 0 ≤ (big t).lo ∧ (big t).lo ≤ 18446744073709551615 := by simp only [big]; omega
  obtain ⟨u, hu⟩ : ∃ u, u = (0 - (big t).lo) % 18446744073709551616 := ⟨_, rfl⟩
  have hu' : IntKind.u64.wrap (-(big t).lo) = u := by rw [hu, wrap_u, Int.zero_sub]
  have hb0 : 0 ≤ u ∧ u ≤ 18446744073709551615 := by omega
  rw [← hu] at hl
  clear hu
  have e1 : Hid (rcut w (big t).lo = (big t).lo % pw w) := hide (rcut_eq h2 hlo.1 (by omega))
  have e2 : Hid (rcut w u = u % pw w) := hide (rcut_eq h2 hb0.1 (by omega))
  cases hc : (big t).below
  · rw [if_neg (by rw [hc]; decide)] at hl
    replace hl := hide hl
    go_enter Try.func56, Try.ntmps56
    go_wp2_with (go_at_call 45; refine (rcut_any w (big t).lo _ (by omega) hlo).mono ?_; rintro e w' ⟨rfl, rfl⟩)
    go_ret
    exact ⟨ret_int (e1.out.trans hl.out), (Below.refl _ _).alloc (Nat.le_refl _) _⟩
  · rw [if_pos hc] at hl
    replace hl := hide hl
    go_enter Try.func56, Try.ntmps56
    go_wp2_with (go_at_call 45; refine (rcut_any w u _ (by omega) hb0).mono ?_; rintro e w' ⟨rfl, rfl⟩)
    go_ret
    exact ⟨ret_int (e2.out.trans hl.out), (Below.refl _ _).alloc (Nat.le_refl _) _⟩
end Go.Proofs.Ytmcleghbpdenlaa
