/- Layer 9: mem.Norm, latheref09.Norm, walked. No condition but a number within its kind. -/
import Derived.Test.YtgkgmeofilkopaaMwA
import Derived.RegionTactic
namespace Go.Proofs.Ytgkgmeofilkopaa
open Go.RowKit
set_option linter.unusedSimpArgs false
set_option linter.unusedVariables false

theorem maskS_no {t : Int} (h : t < 1 ∨ 64 < t) : (maskS t == 0) = true := by rw [mask_zero]; exact decide_eq_true h
theorem maskS_yes {t : Int} (h1 : 1 ≤ t) (h2 : t ≤ 64) : (maskS t == 0) = false := by rw [mask_zero]; exact decide_eq_false (by omega)
theorem countS_pos {t : Int} (h1 : 1 ≤ t) (h2 : t ≤ 65) : 0 < countS t := by unfold countS; split; omega; split <;> omega
theorem countS_no {t : Int} (h : t < 1 ∨ 65 < t) : countS t = 0 := by unfold countS; rw [if_neg (by omega), if_neg (by omega)]
theorem and_maskS {t n : Int} (h1 : 1 ≤ t) (h2 : t ≤ 64) (h : 0 ≤ n ∧ n ≤ 18446744073709551615) : bits .and .u64 n (maskS t) = n % pw t := by
  have e : maskS t = pw t - 1 := if_neg (by omega)
  rw [e]; exact and_mask h.1 h.2 (by omega) h2
set_option maxHeartbeats 1600000 in
theorem norm_int (t : Int) (v : Val) (W : World) (hv : 0 ≤ v.bits ∧ v.bits ≤ 18446744073709551615) (h1 : 1 ≤ t) (h2 : t ≤ 64) (hk : v.kind = 1) :
    Calls Try.prog 36 #[.int .i64 t, vv v] W fun e w' => e = .returned (vv (normS t v)) ∧ Below W.heap.size W w' := by
  obtain ⟨k, n, b, o⟩ := v
  simp only at hk hv
  subst hk
  have e0 : Hid (normS t ⟨1, n, b, o⟩ = ⟨1, n % pw t, 0, 0⟩) := hide (if_pos ⟨⟨h1, h2⟩, rfl⟩)
  have em := and_maskS h1 h2 hv
  have hm := maskS_yes h1 h2
  obtain ⟨r, hr⟩ : ∃ r, n % pw t = r := ⟨_, rfl⟩
  rw [hr] at em e0
  replace hv := hide hv
  clear hr
  go_enter Try.func36, Try.ntmps36
  go_wp2_with (go_at_call 73; refine (mask_any t _).mono ?_; rintro e w' ⟨rfl, rfl⟩)
  go_region_with (go_at_call 73; refine (mask_any t _).mono ?_; rintro e w' ⟨rfl, rfl⟩)
  all_goals go_wp2
  all_goals refine bodyPost_ret (v := vv ⟨1, r, 0, 0⟩) (by simp [results, Try.results36, go_sem]) rfl ⟨by rw [e0.out], ?_⟩
  all_goals exact (((Below.refl _ _).alloc (Nat.le_refl _) _).alloc (by simp) _).drew
set_option maxHeartbeats 1600000 in
theorem norm_addr (b o n : Int) (W : World) :
    Calls Try.prog 36 #[.int .i64 65, vv ⟨2, n, b, o⟩] W fun e w' => e = .returned (vv ⟨2, 0, b, o⟩) ∧ Below W.heap.size W w' := by
  go_enter Try.func36, Try.ntmps36
  go_wp2
  refine bodyPost_ret (v := vv ⟨2, 0, b, o⟩) (by simp [results, Try.results36, go_sem]) rfl ⟨rfl, ?_⟩
  exact ((Below.refl _ _).alloc (Nat.le_refl _) _).alloc (by simp) _
set_option maxHeartbeats 1600000 in
theorem norm_poison (t b o n : Int) (W : World) (h : 0 < countS t) :
    Calls Try.prog 36 #[.int .i64 t, vv ⟨3, n, b, o⟩] W fun e w' => e = .returned (vv ⟨3, 0, 0, 0⟩) ∧ Below W.heap.size W w' := by
  go_enter Try.func36, Try.ntmps36
  go_wp2_with (go_at_call 70; refine (count_any t _).mono ?_; rintro e w' ⟨rfl, rfl⟩)
  refine bodyPost_ret (v := vv ⟨3, 0, 0, 0⟩) (by simp [results, Try.results36, go_sem]) rfl ⟨rfl, ?_⟩
  exact ((Below.refl _ _).alloc (Nat.le_refl _) _).alloc (by simp) _
set_option maxHeartbeats 1600000 in
theorem norm_none (t k n b o : Int) (W : World) (h1 : k = 1 → (maskS t == 0) = true) (h2 : k = 2 → (t == 65) = false) (h3 : k = 3 → countS t = 0) :
    Calls Try.prog 36 #[.int .i64 t, vv ⟨k, n, b, o⟩] W fun e w' => e = .returned (vv ⟨0, 0, 0, 0⟩) ∧ Below W.heap.size W w' := by
  obtain g | g | g | g : k = 1 ∨ k = 2 ∨ k = 3 ∨ (k ≠ 1 ∧ k ≠ 2 ∧ k ≠ 3) := by omega
  · have g1 := h1 g
    subst g
    clear h1 h2 h3
    go_enter Try.func36, Try.ntmps36
    go_wp2_with (go_at_call 73; refine (mask_any t _).mono ?_; rintro e w' ⟨rfl, rfl⟩)
    refine bodyPost_ret (v := vv ⟨0, 0, 0, 0⟩) (by simp [results, Try.results36, go_sem]) rfl ⟨rfl, ?_⟩
    exact ((Below.refl _ _).alloc (Nat.le_refl _) _).alloc (by simp) _
  · have g1 := h2 g
    subst g
    clear h1 h2 h3
    go_enter Try.func36, Try.ntmps36
    go_wp2
    refine bodyPost_ret (v := vv ⟨0, 0, 0, 0⟩) (by simp [results, Try.results36, go_sem]) rfl ⟨rfl, ?_⟩
    exact ((Below.refl _ _).alloc (Nat.le_refl _) _).alloc (by simp) _
  · have g1 := h3 g
    subst g
    clear h1 h2 h3
    have cC : Hid (∀ W, Calls Try.prog 70 #[.int .i64 t] W fun e w' => e = .returned (.int .i64 0) ∧ W = w') := hide (fun W => by have := count_any t W; rwa [g1] at this)
    clear g1
    go_enter Try.func36, Try.ntmps36
    go_wp2_with (go_at_call 70; refine (cC.out _).mono ?_; rintro e w' ⟨rfl, rfl⟩)
    refine bodyPost_ret (v := vv ⟨0, 0, 0, 0⟩) (by simp [results, Try.results36, go_sem]) rfl ⟨rfl, ?_⟩
    exact ((Below.refl _ _).alloc (Nat.le_refl _) _).alloc (by simp) _
  · have g1 : (k == 1) = false := beq_eq_false_iff_ne.2 g.1
    have g2 : (k == 2) = false := beq_eq_false_iff_ne.2 g.2.1
    have g3 : (k == 3) = false := beq_eq_false_iff_ne.2 g.2.2
    clear h1 h2 h3 g
    go_enter Try.func36, Try.ntmps36
    go_wp2
    refine bodyPost_ret (v := vv ⟨0, 0, 0, 0⟩) (by simp [results, Try.results36, go_sem]) rfl ⟨rfl, ?_⟩
    exact ((Below.refl _ _).alloc (Nat.le_refl _) _).alloc (by simp) _
theorem norm_any (t : Int) (v : Val) (W : World) (hv : 0 ≤ v.bits ∧ v.bits ≤ 18446744073709551615) :
    Calls Try.prog 36 #[.int .i64 t, vv v] W fun e w' => e = .returned (vv (normS t v)) ∧ Below W.heap.size W w' := by
  by_cases c1 : (1 ≤ t ∧ t ≤ 64) ∧ v.kind = 1
  · exact norm_int t v W hv c1.1.1 c1.1.2 c1.2
  have e1 : normS t v = if t = 65 ∧ v.kind = 2 then ⟨2, 0, v.block, v.off⟩ else if (1 ≤ t ∧ t ≤ 65) ∧ v.kind = 3 then ⟨3, 0, 0, 0⟩ else ⟨0, 0, 0, 0⟩ := if_neg c1
  rw [e1]
  obtain ⟨k, n, b, o⟩ := v
  simp only at c1 hv ⊢
  by_cases c2 : t = 65 ∧ k = 2
  · rw [if_pos c2]
    obtain ⟨rfl, rfl⟩ := c2
    exact norm_addr b o n W
  rw [if_neg c2]
  by_cases c3 : (1 ≤ t ∧ t ≤ 65) ∧ k = 3
  · rw [if_pos c3]
    obtain ⟨⟨g1, g2⟩, rfl⟩ := c3
    exact norm_poison t b o n W (countS_pos g1 g2)
  rw [if_neg c3]
  exact norm_none t k n b o W (fun h => maskS_no (by omega)) (fun h => beq_eq_false_iff_ne.2 (by omega)) (fun h => countS_no (by omega))
end Go.Proofs.Ytgkgmeofilkopaa
