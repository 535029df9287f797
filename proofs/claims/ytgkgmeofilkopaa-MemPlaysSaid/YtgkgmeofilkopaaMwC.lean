/- Layer 9: latheref09.Norm, walked. No condition but a number within its kind. -/
import Derived.Test.YtgkgmeofilkopaaMwB
namespace Go.Proofs.Ytgkgmeofilkopaa
open Go.RowKit
set_option linter.unusedSimpArgs false
set_option linter.unusedVariables false

set_option maxHeartbeats 1600000 in
theorem rnorm_int (t n b o : Int) (W : World) (hv : 0 ≤ n ∧ n ≤ 18446744073709551615) (h1 : 1 ≤ t) (h2 : t ≤ 64) :
    Calls Try.prog 37 #[.int .i64 t, vv ⟨1, n, b, o⟩] W fun e w' => e = .returned (vv ⟨1, n % pw t, 0, 0⟩) ∧ Below W.heap.size W w' := by
  have ec : rcut t n = n % pw t := rcut_eq h2 hv.1 (by omega)
  have cC : Hid (∀ W, Calls Try.prog 72 #[.int .i64 t, .int .u64 n] W fun e w' => e = .returned (.int .u64 (n % pw t)) ∧ W = w') := hide (fun W => by
    have := rcut_any t n W (by omega) hv
    rwa [ec] at this)
  obtain ⟨r, hr⟩ : ∃ r, n % pw t = r := ⟨_, rfl⟩
  rw [hr] at cC ⊢
  replace hv := hide hv
  clear hr ec
  go_enter Try.func37, Try.ntmps37
  go_wp2_with (go_at_call 72; refine (cC.out _).mono ?_; rintro e w' ⟨rfl, rfl⟩)
  refine bodyPost_ret (v := vv ⟨1, r, 0, 0⟩) (by simp [results, Try.results37, go_sem]) rfl ⟨rfl, ?_⟩
  exact ((Below.refl _ _).alloc (Nat.le_refl _) _).alloc (by simp) _
set_option maxHeartbeats 1600000 in
theorem rnorm_addr (b o n : Int) (W : World) :
    Calls Try.prog 37 #[.int .i64 65, vv ⟨2, n, b, o⟩] W fun e w' => e = .returned (vv ⟨2, 0, b, o⟩) ∧ Below W.heap.size W w' := by
  go_enter Try.func37, Try.ntmps37
  go_wp2
  refine bodyPost_ret (v := vv ⟨2, 0, b, o⟩) (by simp [results, Try.results37, go_sem]) rfl ⟨rfl, ?_⟩
  exact ((Below.refl _ _).alloc (Nat.le_refl _) _).alloc (by simp) _
set_option maxHeartbeats 1600000 in
theorem rnorm_poison (t b o n : Int) (W : World) (h1 : 1 ≤ t) (h2 : t ≤ 65) :
    Calls Try.prog 37 #[.int .i64 t, vv ⟨3, n, b, o⟩] W fun e w' => e = .returned (vv ⟨3, 0, 0, 0⟩) ∧ Below W.heap.size W w' := by
  have g65 : (t == 65) = true ∨ (t == 65) = false := by cases (t == 65) <;> simp
  by_cases h3 : t ≤ 64
  all_goals rcases g65 with g65 | g65
  all_goals
    go_enter Try.func37, Try.ntmps37
    go_wp2
    refine bodyPost_ret (v := vv ⟨3, 0, 0, 0⟩) (by simp [results, Try.results37, go_sem]) rfl ⟨rfl, ?_⟩
    exact ((Below.refl _ _).alloc (Nat.le_refl _) _).alloc (by simp) _
set_option maxHeartbeats 4000000 in
theorem rnorm_none (t k n b o : Int) (W : World) (h1 : k = 1 → t < 1 ∨ 64 < t) (h2 : k = 2 → t ≠ 65) (h3 : k = 3 → t < 1 ∨ 65 < t) :
    Calls Try.prog 37 #[.int .i64 t, vv ⟨k, n, b, o⟩] W fun e w' => e = .returned (vv ⟨0, 0, 0, 0⟩) ∧ Below W.heap.size W w' := by
  have q1 : (k == 1) = true → t < 1 ∨ 64 < t := fun h => h1 (beq_iff_eq.1 h)
  have q2 : (k == 2) = true → (t == 65) = false := fun h => beq_eq_false_iff_ne.2 (h2 (beq_iff_eq.1 h))
  have q3 : (k == 3) = true → t < 1 ∨ 65 < t := fun h => h3 (beq_iff_eq.1 h)
  obtain g | g | g : t < 1 ∨ 64 < t ∨ (1 ≤ t ∧ t ≤ 64) := by omega
  · have g65 : (t == 65) = false := beq_eq_false_iff_ne.2 (by omega)
    clear h1 h2 h3 q1 q2 q3
    go_enter Try.func37, Try.ntmps37
    go_wp2
    refine bodyPost_ret (v := vv ⟨0, 0, 0, 0⟩) (by simp [results, Try.results37, go_sem]) rfl ⟨rfl, ?_⟩
    exact ((Below.refl _ _).alloc (Nat.le_refl _) _).alloc (by simp) _
  · have g1 : 1 ≤ t := by omega
    by_cases g65 : t = 65
    · subst g65
      have k2 : (k == 2) = false := by cases h : (k == 2); rfl; exact absurd (q2 h) (by decide)
      have k3 : (k == 3) = false := by cases h : (k == 3); rfl; exact absurd (q3 h) (by decide)
      clear h1 h2 h3 q1 q2 q3 g g1
      go_enter Try.func37, Try.ntmps37
      go_wp2
      refine bodyPost_ret (v := vv ⟨0, 0, 0, 0⟩) (by simp [results, Try.results37, go_sem]) rfl ⟨rfl, ?_⟩
      exact ((Below.refl _ _).alloc (Nat.le_refl _) _).alloc (by simp) _
    · have g2 : (t == 65) = false := beq_eq_false_iff_ne.2 g65
      have g3 : 65 < t := by omega
      clear h1 h2 h3 q1 q2 q3 g65
      go_enter Try.func37, Try.ntmps37
      go_wp2
      refine bodyPost_ret (v := vv ⟨0, 0, 0, 0⟩) (by simp [results, Try.results37, go_sem]) rfl ⟨rfl, ?_⟩
      exact ((Below.refl _ _).alloc (Nat.le_refl _) _).alloc (by simp) _
  · obtain ⟨g1, g2⟩ := g
    have g65 : (t == 65) = false := beq_eq_false_iff_ne.2 (by omega)
    have k1 : (k == 1) = false := by cases h : (k == 1); rfl; exact absurd (q1 h) (by omega)
    have k3 : (k == 3) = false := by cases h : (k == 3); rfl; exact absurd (q3 h) (by omega)
    have g3 : t ≤ 65 := by omega
    clear h1 h2 h3 q1 q2 q3
    go_enter Try.func37, Try.ntmps37
    go_wp2
    refine bodyPost_ret (v := vv ⟨0, 0, 0, 0⟩) (by simp [results, Try.results37, go_sem]) rfl ⟨rfl, ?_⟩
    exact ((Below.refl _ _).alloc (Nat.le_refl _) _).alloc (by simp) _
theorem rnorm_any (t : Int) (v : Val) (W : World) (hv : 0 ≤ v.bits ∧ v.bits ≤ 18446744073709551615) :
    Calls Try.prog 37 #[.int .i64 t, vv v] W fun e w' => e = .returned (vv (normS t v)) ∧ Below W.heap.size W w' := by
  obtain ⟨k, n, b, o⟩ := v
  simp only at hv
  by_cases c1 : (1 ≤ t ∧ t ≤ 64) ∧ k = 1
  · have e1 : normS t ⟨k, n, b, o⟩ = ⟨1, n % pw t, 0, 0⟩ := if_pos c1
    rw [e1]
    obtain ⟨⟨g1, g2⟩, rfl⟩ := c1
    exact rnorm_int t n b o W hv g1 g2
  have e1 : normS t ⟨k, n, b, o⟩ = if t = 65 ∧ k = 2 then ⟨2, 0, b, o⟩ else if (1 ≤ t ∧ t ≤ 65) ∧ k = 3 then ⟨3, 0, 0, 0⟩ else ⟨0, 0, 0, 0⟩ := if_neg c1
  rw [e1]
  by_cases c2 : t = 65 ∧ k = 2
  · rw [if_pos c2]
    obtain ⟨rfl, rfl⟩ := c2
    exact rnorm_addr b o n W
  rw [if_neg c2]
  by_cases c3 : (1 ≤ t ∧ t ≤ 65) ∧ k = 3
  · rw [if_pos c3]
    obtain ⟨⟨g1, g2⟩, rfl⟩ := c3
    exact rnorm_poison t b o n W g1 g2
  rw [if_neg c3]
  exact rnorm_none t k n b o W (fun h => by omega) (fun h => by omega) (fun h => by omega)
end Go.Proofs.Ytgkgmeofilkopaa
