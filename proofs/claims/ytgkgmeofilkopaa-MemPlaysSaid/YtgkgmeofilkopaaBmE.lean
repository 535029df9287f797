/- What the reference's pieces make, as whole numbers. No program is in sight. No condition. -/
import Derived.Test.YtgkgmeofilkopaaBmB
import Derived.Test.YtgkgmeofilkopaaBmC
namespace Go.Proofs.Ytgkgmeofilkopaa
set_option linter.unusedSimpArgs false
set_option linter.unusedVariables false

/-- latheref01.Cut -/
def rcut (w v : Int) : Int := if 64 ≤ w then v else v % pw w
theorem rcut_eq {w v : Int} (h : w ≤ 64) (h0 : 0 ≤ v) (hv : v < 18446744073709551616) : rcut w v = v % pw w := by
  unfold rcut
  split
  · have : w = 64 := by omega
    subst this
    rw [pw_64, Int.emod_eq_of_lt h0 hv]
  · rfl
/-- latheref01.With -/
theorem with_law {w v : Int} (h1 : 1 ≤ w) (h2 : w ≤ 64) :
    (if v % pw w < pw (w - 1) then (⟨0, v % pw w, false⟩ : Big) else ⟨0, (0 - v % pw w) % 18446744073709551616 % pw w, true⟩) = big (sg (pw w) v) := by
  obtain ⟨hM, hH, hw⟩ := wid h1 h2
  have hR := pw_rest (w := w) (by omega) h2
  have hr := Int.emod_nonneg v (show pw w ≠ 0 by omega)
  have hlt := Int.emod_lt_of_pos v (show 0 < pw w by omega)
  rw [Int.emod_emod_of_dvd _ ⟨_, hR.symm⟩]
  unfold sg
  split
  · rw [if_pos (by omega), big_0 hr (by omega)]
  · rw [if_neg (by omega), big_neg (by omega) (by omega)]
    congr 1
    rw [← Int.add_emod_right, Int.emod_eq_of_lt (by omega) (by omega)]
    omega
/-- latheref01.Wrapped -/
theorem wrapped_law {w t : Int} (h1 : 1 ≤ w) (h2 : w ≤ 64) :
    (if (big t).below = true then (0 - (big t).lo) % 18446744073709551616 % pw w else (big t).lo % pw w) = t % pw w := by
  have hR := pw_rest (w := w) (by omega) h2
  simp only [big, decide_eq_true_eq]
  split
  · rw [Int.emod_emod_of_dvd _ ⟨_, hR.symm⟩]
    have e : 0 - (t.natAbs : Int) % 18446744073709551616 = t + pw w * (pw (64 - w) * ((t.natAbs : Int) / 18446744073709551616)) := by
      rw [← Int.mul_assoc, hR]; omega
    rw [e, Int.add_mul_emod_self_left]
  · have e : (t.natAbs : Int) % 18446744073709551616 = t + pw w * (-(pw (64 - w)) * ((t.natAbs : Int) / 18446744073709551616)) := by
      rw [← Int.mul_assoc, Int.mul_neg, hR]; omega
    rw [e, Int.add_mul_emod_self_left]
/-- latheref01.fits -/
def fitS (M t : Int) (sign : Bool) : Bool := if sign then inR M t else !outU M t
theorem fits_sign {w t : Int} (h1 : 1 ≤ w) (h2 : w ≤ 64) : decide (big (sg (pw w) (t % pw w)) = big t) = inR (pw w) t := by
  obtain ⟨hM, hH, hw⟩ := wid h1 h2
  rw [sg_cut, inR_sg_w hM hH, decide_eq_decide]
  exact ⟨big_inj, fun h => by rw [h]⟩
theorem fits_plain {w t : Int} : decide (big (t % pw w) = big t) = !outU (pw w) t := by
  have hp := pw_pos w
  rw [Bool.eq_iff_iff]
  simp only [outU, decide_eq_true_eq, Bool.not_eq_true', Bool.or_eq_false_iff, decide_eq_false_iff_not]
  constructor
  · intro h
    have h' := big_inj h
    have := Int.emod_nonneg t (show pw w ≠ 0 by omega)
    have := Int.emod_lt_of_pos t (show 0 < pw w by omega)
    omega
  · rintro ⟨h, h'⟩
    rw [Int.emod_eq_of_lt (by omega) (by omega)]

/-- exact at Ashr: the rest of the sizes -/
theorem ashr_rest {w A n : Int} (h1 : 1 ≤ w) (hn0 : 0 ≤ n) (hn : n < w) : (((sg (pw w) A).tmod (pw n)).natAbs != 0) = (A % pw n != 0) := by
  have hp := pw_pos n
  have hl := sg_low (A := A) h1 hn0 hn
  rw [Bool.eq_iff_iff]
  simp only [bne_iff_ne, ne_eq]
  rw [← hl]
  have a := Int.dvd_iff_tmod_eq_zero (a := pw n) (b := sg (pw w) A)
  have b := Int.dvd_iff_emod_eq_zero (a := pw n) (b := sg (pw w) A)
  constructor
  · intro h h'
    exact h (by rw [a.1 (b.2 h')]; rfl)
  · intro h h'
    exact h (b.1 (a.2 (by omega)))
/-- the quotient, downwards -/
theorem floor_law {x p : Int} (hp : 1 ≤ p) : (if x.tmod p < 0 then x.tdiv p - 1 else x.tdiv p) = x / p := by
  have h1 := Int.tmod_add_mul_tdiv x p
  have h2 := Int.emod_nonneg x (show p ≠ 0 by omega)
  have h3 := Int.emod_lt_of_pos x (show 0 < p by omega)
  have h4 := Int.mul_ediv_add_emod x p
  rcases Int.lt_or_le x 0 with h | h
  · have h5 := Int.tmod_nonneg p (a := -x) (by omega)
    rw [Int.neg_tmod] at h5
    have h6 := Int.lt_of_lt_of_le (Int.tmod_lt_of_pos (-x) (b := p) (by omega)) (Int.le_refl p)
    rw [Int.neg_tmod] at h6
    split
    · symm
      rw [Int.ediv_eq_iff_of_pos (by omega)]
      constructor
      · rw [Int.sub_mul, Int.mul_comm]; omega
      · rw [Int.sub_mul, Int.mul_comm]; omega
    · symm
      rw [Int.ediv_eq_iff_of_pos (by omega)]
      constructor
      · rw [Int.mul_comm]; omega
      · rw [Int.mul_comm]; omega
  · rw [Int.tmod_eq_emod_of_nonneg h, if_neg (by omega), Int.tdiv_eq_ediv_of_nonneg h]

/-- latheref01.bitwise: a round -/
theorem bits_mod_succ (x k : Nat) : x % 2 ^ (k + 1) = x % 2 ^ k + 2 ^ k * (x / 2 ^ k % 2) := by
  rw [Nat.pow_succ, Nat.mod_mul]

/-- what an operation without flags ends with -/
def ofV (op w a b : Int) : Int := (opS op w (pw w) (a % pw w) (b % pw w) false false false).1

theorem of_add (w a b : Int) : ofV 1 w a b = (a + b) % pw w := by
  simp [ofV, opS, ringBad, ringU]
theorem of_sub (w a b : Int) : ofV 2 w a b = (a - b) % pw w := by
  simp [ofV, opS, ringBad, ringU]
theorem of_mul (w a b : Int) : ofV 3 w a b = (a * b) % pw w := by
  simp [ofV, opS, ringBad, ringU, Int.mul_emod]

theorem ring_law (w a b c : Int) :
    ofV 1 w a b = ofV 1 w b a ∧ ofV 3 w a b = ofV 3 w b a ∧ ofV 2 w (ofV 1 w a b) b = a % pw w ∧
    ofV 3 w a (ofV 1 w b c) = ofV 1 w (ofV 3 w a b) (ofV 3 w a c) ∧ ofV 1 w (ofV 1 w a b) c = ofV 1 w a (ofV 1 w b c) ∧ ofV 2 w a b = ofV 1 w a (ofV 2 w 0 b) := by
  simp only [of_add, of_sub, of_mul]
  refine ⟨by rw [Int.add_comm], by rw [Int.mul_comm], ?_, ?_, ?_, ?_⟩
  · rw [Int.emod_sub_emod, Int.add_sub_cancel]
  · rw [Int.emod_add_emod, Int.add_emod_emod, ← Int.mul_add, Int.mul_emod, Int.emod_emod, ← Int.mul_emod]
  · rw [Int.emod_add_emod, Int.add_emod_emod, Int.add_assoc]
  · rw [Int.add_emod_emod]; congr 1; omega
end Go.Proofs.Ytgkgmeofilkopaa
