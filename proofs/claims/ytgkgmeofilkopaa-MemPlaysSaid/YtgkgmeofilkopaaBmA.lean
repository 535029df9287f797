/- Whole numbers of 1 to 64 bits, as integers; no program is in sight. No condition. -/
namespace Go.Proofs.Ytgkgmeofilkopaa
set_option linter.unusedSimpArgs false
set_option linter.unusedVariables false

/-- 2 to the power of w -/
def pw (w : Int) : Int := 2 ^ w.toNat

theorem pw_pos (w : Int) : 1 ≤ pw w := by
  unfold pw
  have : (0 : Int) < 2 ^ w.toNat := Int.pow_pos (by decide)
  omega
theorem pw_nat (w : Int) : pw w = ((2 ^ w.toNat : Nat) : Int) := by unfold pw; simp
theorem pw_add {a b : Int} (ha : 0 ≤ a) (hb : 0 ≤ b) : pw (a + b) = pw a * pw b := by
  unfold pw
  rw [← Int.pow_add, Int.toNat_add ha hb]
theorem pw_64 : pw 64 = 18446744073709551616 := by decide
theorem pw_63 : pw 63 = 9223372036854775808 := by decide
theorem pw_0 : pw 0 = 1 := by decide
theorem pw_succ {a : Int} (ha : 0 ≤ a) : pw (a + 1) = 2 * pw a := by
  rw [pw_add ha (by decide)]
  have : pw 1 = 2 := by decide
  rw [this, Int.mul_comm]
theorem pw_half {w : Int} (h : 1 ≤ w) : pw w = 2 * pw (w - 1) := by
  have := pw_succ (a := w - 1) (by omega)
  rwa [show w - 1 + 1 = w by omega] at this
theorem pw_rest {w : Int} (h : 0 ≤ w) (h' : w ≤ 64) : pw w * pw (64 - w) = 18446744073709551616 := by
  rw [← pw_add h (by omega), show w + (64 - w) = 64 by omega, pw_64]
theorem pw_rest63 {w : Int} (h : 1 ≤ w) (h' : w ≤ 64) : pw (w - 1) * pw (64 - w) = 9223372036854775808 := by
  rw [← pw_add (by omega) (by omega), show w - 1 + (64 - w) = 63 by omega, pw_63]
theorem pw_mono {a b : Int} (ha : 0 ≤ a) (h : a ≤ b) : pw a ≤ pw b := by
  have := pw_add (a := a) (b := b - a) ha (by omega)
  rw [show a + (b - a) = b by omega] at this
  rw [this]
  have h1 := pw_pos a
  have h2 := pw_pos (b - a)
  have : pw a * 1 ≤ pw a * pw (b - a) := Int.mul_le_mul_of_nonneg_left h2 (by omega)
  omega
theorem pw_le {w : Int} (h : 0 ≤ w) (h' : w ≤ 64) : pw w ≤ 18446744073709551616 := by
  rw [← pw_64]; exact pw_mono h h'
theorem pw_le63 {w : Int} (h : 0 ≤ w) (h' : w ≤ 63) : pw w ≤ 9223372036854775808 := by
  rw [← pw_63]; exact pw_mono h h'

/-- read with a sign -/
def sg (M v : Int) : Int := if 2 * (v % M) < M then v % M else v % M - M
/-- is it one of the numbers with a sign? -/
def inR (M t : Int) : Bool := decide (-M ≤ 2 * t) && decide (2 * t < M)

theorem sg_in {H v : Int} (h : 1 ≤ H) : -H ≤ sg (2 * H) v ∧ sg (2 * H) v < H := by
  have h1 := Int.emod_nonneg v (show 2 * H ≠ 0 by omega)
  have h2 := Int.emod_lt_of_pos v (show 0 < 2 * H by omega)
  unfold sg; split <;> omega
theorem sg_mod {M v : Int} (h : 1 ≤ M) : sg M v % M = v % M := by
  unfold sg; split
  · exact Int.emod_emod_of_dvd _ (Int.dvd_refl _)
  · rw [Int.sub_emod_right]; exact Int.emod_emod_of_dvd _ (Int.dvd_refl _)
theorem sg_of_mod {M v u : Int} (h : v % M = u % M) : sg M v = sg M u := by unfold sg; rw [h]
theorem sg_cut {M v : Int} : sg M (v % M) = sg M v := sg_of_mod (Int.emod_emod_of_dvd _ (Int.dvd_refl _))
theorem sg_id {H t : Int} (h1 : -H ≤ t) (h2 : t < H) : sg (2 * H) t = t := by
  unfold sg
  rcases Int.lt_or_le t 0 with h | h
  · have : t % (2 * H) = t + 2 * H := by
      rw [← Int.add_emod_right, Int.emod_eq_of_lt (by omega) (by omega)]
    rw [this]; split <;> omega
  · rw [Int.emod_eq_of_lt h (by omega)]; split <;> omega
theorem sg_eq_iff {H t : Int} (h : 1 ≤ H) : sg (2 * H) t = t ↔ -H ≤ t ∧ t < H :=
  ⟨fun e => by have := sg_in (v := t) h; omega, fun ⟨h1, h2⟩ => sg_id h1 h2⟩
theorem inR_iff {H t : Int} : inR (2 * H) t = true ↔ -H ≤ t ∧ t < H := by
  simp only [inR, Bool.and_eq_true, decide_eq_true_eq]; omega
theorem inR_sg_w {M H t : Int} (hM : M = 2 * H) (h : 1 ≤ H) : inR M t = decide (sg M t = t) := by
  rw [hM, Bool.eq_iff_iff, inR_iff, decide_eq_true_eq, sg_eq_iff h]
theorem inR_sg {H t : Int} (h : 1 ≤ H) : inR (2 * H) t = decide (sg (2 * H) t = t) := by
  rw [Bool.eq_iff_iff, inR_iff, decide_eq_true_eq, sg_eq_iff h]
end Go.Proofs.Ytgkgmeofilkopaa
