/- What the operations make of numbers, as plain functions; what the program's tests say. No program is in sight. No condition. -/
import Derived.Test.YtgkgmeofilkopaaBmA
namespace Go.Proofs.Ytgkgmeofilkopaa
set_option linter.unusedSimpArgs false
set_option linter.unusedVariables false

/-- does a whole number leave the width, read without a sign? -/
def outU (M u : Int) : Bool := decide (u < 0) || decide (M ≤ u)

/-- sums, differences, products -/
def ringU (op A B : Int) : Int := if op = 1 then A + B else if op = 2 then A - B else A * B
def ringBad (op M A B : Int) (nuw nsw : Bool) : Bool := (nuw && outU M (ringU op A B)) || (nsw && !inR M (ringU op (sg M A) (sg M B)))
def divQ (op M A B : Int) : Int := if op = 4 ∨ op = 6 then A / B else (sg M A).tdiv (sg M B)
def divR (op M A B : Int) : Int := if op = 4 ∨ op = 6 then A % B else (sg M A).tmod (sg M B)
/-- is there no quotient of the width? -/
def divOut (op M A B : Int) : Bool := B == 0 || (!(op == 4 || op == 6) && !inR M ((sg M A).tdiv (sg M B)))
/-- shifts by less than the width -/
def shV (op M A B : Int) : Int := if op = 11 then A * pw B % M else if op = 12 then A / pw B else sg M A / pw B
def shBad (op M A B : Int) (nuw nsw ex : Bool) : Bool :=
  if op = 11 then (nuw && outU M (A * pw B)) || (nsw && !inR M (sg M A * pw B)) else ex && A % pw B != 0
def cmpB (op M A B : Int) : Bool :=
  if op = 14 then A == B else if op = 15 then A != B else if op = 16 then decide (A < B) else if op = 17 then decide (A ≤ B) else if op = 18 then decide (sg M A < sg M B) else decide (sg M A ≤ sg M B)
def logV (op A B : Int) : Int := if op = 8 then ((A.toNat &&& B.toNat : Nat) : Int) else if op = 9 then ((A.toNat ||| B.toNat : Nat) : Int) else ((A.toNat ^^^ B.toNat : Nat) : Int)

/-- an operation of two numbers below M: the value and how it ends -/
def opS (op w M A B : Int) (nuw nsw ex : Bool) : Int × Int :=
  if op ≤ 3 then (if ringBad op M A B nuw nsw then (0, 1) else (ringU op A B % M, 0))
  else if op ≤ 7 then (if divOut op M A B then (0, 2) else if op = 6 ∨ op = 7 then (divR op M A B % M, 0) else if ex && divR op M A B != 0 then (0, 1) else (divQ op M A B % M, 0))
  else if op ≤ 10 then (logV op A B, 0)
  else if op ≤ 13 then (if w ≤ B then (0, 1) else if shBad op M A B nuw nsw ex then (0, 1) else (shV op M A B % M, 0))
  else (if cmpB op M A B then 1 else 0, 0)

/-- bits.Signed -/
theorem signed_law {w v : Int} (h1 : 1 ≤ w) (h2 : w ≤ 64) :
    (if 9223372036854775808 ≤ v * pw (64 - w) % 18446744073709551616 then v * pw (64 - w) % 18446744073709551616 - 18446744073709551616 else v * pw (64 - w) % 18446744073709551616) / pw (64 - w) = sg (pw w) v := by
  have hM := pw_rest (w := w) (by omega) h2
  have hH := pw_rest63 h1 h2
  have hk := pw_pos (64 - w)
  have hm := pw_pos w
  have hh := pw_half h1
  have e : v * pw (64 - w) % 18446744073709551616 = (v % pw w) * pw (64 - w) := by
    rw [← hM, Int.mul_comm v, Int.mul_comm (pw w), Int.mul_emod_mul_of_pos _ _ (by omega), Int.mul_comm]
  simp only [e]
  unfold sg
  have hr := Int.emod_nonneg v (show pw w ≠ 0 by omega)
  generalize pw (64 - w) = K at *
  generalize v % pw w = r at *
  generalize pw (w - 1) = H at *
  rw [hh] at hM ⊢
  by_cases hc : H ≤ r
  · have : H * K ≤ r * K := Int.mul_le_mul_of_nonneg_right hc (by omega)
    rw [if_pos (by omega), if_neg (by omega), ← hM, ← Int.sub_mul, Int.mul_ediv_cancel _ (by omega)]
  · have : (r + 1) * K ≤ H * K := Int.mul_le_mul_of_nonneg_right (by omega) (by omega)
    rw [Int.add_mul] at this
    rw [if_neg (by omega), if_pos (by omega), Int.mul_ediv_cancel _ (by omega)]
/-- bits.Mask -/
theorem mask_law {w : Int} (h1 : 0 ≤ w) (h2 : w ≤ 64) : 18446744073709551615 / pw (64 - w) = pw w - 1 := by
  have hM := pw_rest h1 h2
  have hk := pw_pos (64 - w)
  have e : (18446744073709551615 : Int) = (pw w - 1) * pw (64 - w) + (pw (64 - w) - 1) := by rw [Int.sub_mul]; omega
  rw [e, Int.add_comm, Int.add_mul_ediv_right _ _ (by omega), Int.ediv_eq_zero_of_lt (by omega) (by omega)]
  omega

/-- wrap of 64 bits, by cases: a sum of two numbers with a sign of a width -/
def w64 (n : Int) : Int := (n + 9223372036854775808) % 18446744073709551616 - 9223372036854775808

theorem sg_w64 {w t : Int} (h1 : 1 ≤ w) (h2 : w ≤ 64) : sg (pw w) (w64 t) = sg (pw w) t := by
  refine sg_of_mod ?_
  have hM := pw_rest (w := w) (by omega) h2
  have e : w64 t = t + pw w * (-(pw (64 - w)) * ((t + 9223372036854775808) / 18446744073709551616)) := by
    unfold w64
    rw [← Int.mul_assoc, Int.mul_neg, hM]
    omega
  rw [e, Int.add_mul_emod_self_left]

/-- the width's facts, for omega: M = 2 H; either 64 bits or at most half of them -/
theorem wid {w : Int} (h1 : 1 ≤ w) (h2 : w ≤ 64) : pw w = 2 * pw (w - 1) ∧ 1 ≤ pw (w - 1) ∧ (pw (w - 1) = 9223372036854775808 ∨ pw (w - 1) ≤ 4611686018427387904) := by
  refine ⟨pw_half h1, pw_pos _, ?_⟩
  rcases Int.lt_or_le w 64 with h | h
  · right
    have : pw 62 = 4611686018427387904 := by decide
    rw [← this]; exact pw_mono (by omega) (by omega)
  · left
    have : w = 64 := by omega
    subst this; exact pw_63

theorem wraps_add {w x y : Int} (h1 : 1 ≤ w) (h2 : w ≤ 64) (hx : -pw (w - 1) ≤ x ∧ x < pw (w - 1)) (hy : -pw (w - 1) ≤ y ∧ y < pw (w - 1)) :
    ((decide (x > 0) && decide (y > 0) && decide (w64 (x + y) ≤ 0)) || (decide (x < 0) && decide (y < 0) && decide (w64 (x + y) ≥ 0)) || (w64 (x + y) != sg (pw w) (w64 (x + y)))) = !inR (pw w) (x + y) := by
  obtain ⟨hM, hH, hw⟩ := wid h1 h2
  have hs := sg_w64 (t := x + y) h1 h2
  rw [hs, inR_sg_w hM hH]
  have e := sg_eq_iff (t := x + y) hH
  rw [← hM] at e
  rw [Bool.eq_iff_iff]
  simp only [Bool.or_eq_true, Bool.and_eq_true, decide_eq_true_eq, bne_iff_ne, ne_eq, Bool.not_eq_true', decide_eq_false_iff_not]
  rw [e]
  generalize hg : sg (pw w) (x + y) = g at *
  have hgr := sg_in (v := x + y) hH
  rw [← hM, hg] at hgr
  unfold w64
  omega
theorem wraps_sub {w x y : Int} (h1 : 1 ≤ w) (h2 : w ≤ 64) (hx : -pw (w - 1) ≤ x ∧ x < pw (w - 1)) (hy : -pw (w - 1) ≤ y ∧ y < pw (w - 1)) :
    ((decide (x ≥ 0) && decide (y < 0) && decide (w64 (x - y) < 0)) || (decide (x < 0) && decide (y > 0) && decide (w64 (x - y) ≥ 0)) || (w64 (x - y) != sg (pw w) (w64 (x - y)))) = !inR (pw w) (x - y) := by
  obtain ⟨hM, hH, hw⟩ := wid h1 h2
  have hs := sg_w64 (t := x - y) h1 h2
  rw [hs, inR_sg_w hM hH]
  have e := sg_eq_iff (t := x - y) hH
  rw [← hM] at e
  rw [Bool.eq_iff_iff]
  simp only [Bool.or_eq_true, Bool.and_eq_true, decide_eq_true_eq, bne_iff_ne, ne_eq, Bool.not_eq_true', decide_eq_false_iff_not]
  rw [e]
  generalize hg : sg (pw w) (x - y) = g at *
  have hgr := sg_in (v := x - y) hH
  rw [← hM, hg] at hgr
  unfold w64
  omega

theorem product_law {w x y : Int} (h1 : 1 ≤ w) (h2 : w ≤ 64) (hx : -pw (w - 1) ≤ x ∧ x < pw (w - 1)) (hy : -pw (w - 1) ≤ y ∧ y < pw (w - 1)) :
    (decide ((x.natAbs * y.natAbs : Nat) / 18446744073709551616 ≠ (0 : Int)) || decide ((x.natAbs * y.natAbs : Nat) % 18446744073709551616 > (if decide (x < 0) = decide (y < 0) then pw (w - 1) - 1 else pw (w - 1)))) = !inR (pw w) (x * y) := by
  obtain ⟨hM, hH, hw⟩ := wid h1 h2
  have e := @inR_iff (pw (w - 1)) (x * y)
  rw [← hM] at e
  rw [Bool.eq_iff_iff]
  simp only [Bool.or_eq_true, decide_eq_true_eq, Bool.not_eq_true', ← Bool.not_eq_true, ne_eq]
  rw [e]
  have hn : (x * y).natAbs = x.natAbs * y.natAbs := Int.natAbs_mul x y
  rw [← hn]
  have hpos : decide (x < 0) = decide (y < 0) → 0 ≤ x * y := fun h => by
    rw [decide_eq_decide] at h
    rcases Int.lt_or_le x 0 with h1 | h1
    · exact Int.mul_nonneg_of_nonpos_of_nonpos (by omega) (by omega)
    · exact Int.mul_nonneg h1 (by omega)
  have hneg : decide (x < 0) ≠ decide (y < 0) → x * y ≤ 0 := fun h => by
    rw [ne_eq, decide_eq_decide] at h
    rcases Int.lt_or_le x 0 with h1 | h1
    · exact Int.mul_nonpos_of_nonpos_of_nonneg (by omega) (by omega)
    · exact Int.mul_nonpos_of_nonneg_of_nonpos h1 (by omega)
  generalize x * y = t at *
  split
  · rename_i hs; have := hpos hs; omega
  · rename_i hs; have := hneg hs; omega

theorem sg_A {H A : Int} (h0 : 0 ≤ A) (h1 : A < 2 * H) : sg (2 * H) A = if A < H then A else A - 2 * H := by
  unfold sg
  rw [Int.emod_eq_of_lt h0 h1]
  split <;> split <;> omega

theorem div_out {w A B : Int} (h1 : 1 ≤ w) (h2 : w ≤ 64) (hA : 0 ≤ A ∧ A < pw w) :
    (decide (sg (pw w) B = -1) && decide (A = pw (w - 1))) = !inR (pw w) ((sg (pw w) A).tdiv (sg (pw w) B)) ∨ sg (pw w) B = 0 := by
  obtain ⟨hM, hH, hw⟩ := wid h1 h2
  by_cases h0 : sg (pw w) B = 0
  · exact .inr h0
  left
  have hx := sg_in (v := A) hH
  have hy := sg_in (v := B) hH
  have hsA := sg_A (H := pw (w - 1)) hA.1 (by omega)
  have e := @inR_iff (pw (w - 1)) ((sg (pw w) A).tdiv (sg (pw w) B))
  rw [← hM] at e hx hy hsA
  rw [Bool.eq_iff_iff]
  simp only [Bool.and_eq_true, decide_eq_true_eq, Bool.not_eq_true', ← Bool.not_eq_true]
  rw [e]
  have hn : ((sg (pw w) A).tdiv (sg (pw w) B)).natAbs = (sg (pw w) A).natAbs / (sg (pw w) B).natAbs := Int.natAbs_tdiv (sg (pw w) A) (sg (pw w) B)
  by_cases hm1 : sg (pw w) B = -1
  · rw [hm1, Int.tdiv_neg, Int.tdiv_one]
    split at hsA <;> omega
  · by_cases hp1 : sg (pw w) B = 1
    · rw [hp1, Int.tdiv_one]; omega
    · have : (sg (pw w) A).natAbs / (sg (pw w) B).natAbs ≤ (sg (pw w) A).natAbs / 2 := Nat.div_le_div_left (by omega) (by decide)
      rw [← hn] at this
      clear hn
      generalize (sg (pw w) A).tdiv (sg (pw w) B) = q at *
      omega

section
variable {w A B : Int}
theorem pw_split (hB0 : 0 ≤ B) (hB : B < w) : pw w = pw B * pw (w - B) := by
  rw [← pw_add hB0 (by omega), show B + (w - B) = w by omega]
theorem shl_nuw (hB0 : 0 ≤ B) (hB : B < w) (hA : 0 ≤ A ∧ A < pw w) : ((A * pw B % pw w) / pw B != A) = outU (pw w) (A * pw B) := by
  have hb := pw_pos B
  have hc := pw_pos (w - B)
  have hs := pw_split hB0 hB
  have h0 : 0 ≤ A * pw B := Int.mul_nonneg hA.1 (by omega)
  rw [Bool.eq_iff_iff]
  simp only [outU, Bool.or_eq_true, decide_eq_true_eq, bne_iff_ne, ne_eq]
  have e : A * pw B % pw w = (A % pw (w - B)) * pw B := by
    rw [hs, Int.mul_comm A, Int.mul_emod_mul_of_pos _ _ (by omega), Int.mul_comm]
  rw [e, Int.mul_ediv_cancel _ (by omega)]
  have hr := Int.emod_lt_of_pos A (show 0 < pw (w - B) by omega)
  constructor
  · intro h
    right
    rcases Int.lt_or_le A (pw (w - B)) with h1 | h1
    · exact absurd (Int.emod_eq_of_lt hA.1 h1) h
    · have : pw (w - B) * pw B ≤ A * pw B := Int.mul_le_mul_of_nonneg_right h1 (by omega)
      rw [hs, Int.mul_comm]; exact this
  · rintro (h | h)
    · omega
    · intro hh
      have : (A + 1) * pw B ≤ pw (w - B) * pw B := Int.mul_le_mul_of_nonneg_right (by omega) (by omega)
      rw [Int.add_mul, Int.mul_comm (pw (w - B)), ← hs] at this
      omega
theorem shl_nsw (h1 : 1 ≤ w) (h2 : w ≤ 64) (hB0 : 0 ≤ B) (hB : B < w) : (sg (pw w) (A * pw B % pw w) / pw B != sg (pw w) A) = !inR (pw w) (sg (pw w) A * pw B) := by
  obtain ⟨hM, hH, hw⟩ := wid h1 h2
  have hb := pw_pos B
  have hs := pw_split hB0 hB
  have ecut : sg (pw w) (A * pw B % pw w) = sg (pw w) (sg (pw w) A * pw B) := by
    rw [sg_cut]
    refine sg_of_mod ?_
    rw [Int.mul_emod, ← sg_mod (M := pw w) (v := A) (by omega), ← Int.mul_emod]
  rw [ecut]
  have e := sg_eq_iff (t := sg (pw w) A * pw B) hH
  have e2 := @inR_iff (pw (w - 1)) (sg (pw w) A * pw B)
  rw [← hM] at e e2
  rw [Bool.eq_iff_iff]
  simp only [bne_iff_ne, ne_eq, Bool.not_eq_true', ← Bool.not_eq_true]
  rw [e2, ← e]
  have hmod : (sg (pw w) (sg (pw w) A * pw B)) % pw B = 0 := by
    have h := sg_mod (M := pw w) (v := sg (pw w) A * pw B) (by omega)
    have h' : _ % pw B = _ % pw B := congrArg (· % pw B) h
    rw [Int.emod_emod_of_dvd _ ⟨_, hs⟩, Int.emod_emod_of_dvd _ ⟨_, hs⟩, Int.mul_emod_left] at h'
    exact h'
  generalize sg (pw w) (sg (pw w) A * pw B) = g at *
  have hg := Int.mul_ediv_add_emod g (pw B)
  rw [hmod, Int.add_zero, Int.mul_comm] at hg
  constructor
  · intro h h'
    exact h (by rw [h', Int.mul_ediv_cancel _ (by omega)])
  · intro h h'
    exact h (by rw [← h', hg])
theorem lshr_ex (hB0 : 0 ≤ B) (hB : B < w) (h2 : w ≤ 64) (hA : 0 ≤ A ∧ A < pw w) : (A / pw B * pw B % 18446744073709551616 != A) = (A % pw B != 0) := by
  have hb := pw_pos B
  have hle := pw_le (w := w) (by omega) h2
  have hg := Int.mul_ediv_add_emod A (pw B)
  rw [Int.mul_comm] at hg
  have hr := Int.emod_nonneg A (show pw B ≠ 0 by omega)
  have h0 : 0 ≤ A / pw B * pw B := Int.mul_nonneg (Int.ediv_nonneg hA.1 (by omega)) (by omega)
  rw [Int.emod_eq_of_lt h0 (by omega), Bool.eq_iff_iff]
  simp only [bne_iff_ne, ne_eq]
  omega
theorem sg_low (h1 : 1 ≤ w) (hB0 : 0 ≤ B) (hB : B < w) : sg (pw w) A % pw B = A % pw B := by
  have hs := pw_split hB0 hB
  have h := sg_mod (M := pw w) (v := A) (pw_pos w)
  have h' : _ % pw B = _ % pw B := congrArg (· % pw B) h
  rwa [Int.emod_emod_of_dvd _ ⟨_, hs⟩, Int.emod_emod_of_dvd _ ⟨_, hs⟩] at h'
theorem ashr_ex (h1 : 1 ≤ w) (h2 : w ≤ 64) (hB0 : 0 ≤ B) (hB : B < w) (hA : 0 ≤ A ∧ A < pw w) : (sg (pw w) A / pw B % 18446744073709551616 * pw B % 18446744073709551616 % pw w != A) = (A % pw B != 0) := by
  have hb := pw_pos B
  have hM := pw_rest (w := w) (by omega) h2
  have hl := sg_low (A := A) h1 hB0 hB
  have hsm := sg_mod (M := pw w) (v := A) (pw_pos w)
  have e : sg (pw w) A / pw B % 18446744073709551616 * pw B % 18446744073709551616 % pw w = (A - A % pw B) % pw w := by
    rw [Int.mul_emod, Int.emod_emod_of_dvd _ (Int.dvd_refl _), ← Int.mul_emod, Int.emod_emod_of_dvd _ ⟨_, hM.symm⟩]
    have hg := Int.mul_ediv_add_emod (sg (pw w) A) (pw B)
    rw [Int.mul_comm] at hg
    have : sg (pw w) A / pw B * pw B = sg (pw w) A - A % pw B := by rw [← hl]; omega
    rw [this, Int.sub_emod, hsm, ← Int.sub_emod]
  have hr := Int.emod_nonneg A (show pw B ≠ 0 by omega)
  have hlt := Int.emod_lt_of_pos A (show 0 < pw B by omega)
  have hle : A % pw B ≤ A := by
    rcases Int.lt_or_le A (pw B) with h | h
    · rw [Int.emod_eq_of_lt hA.1 h]; exact Int.le_refl _
    · omega
  rw [e, Int.emod_eq_of_lt (by omega) (by omega), Bool.eq_iff_iff]
  simp only [bne_iff_ne, ne_eq]
  omega
end
end Go.Proofs.Ytgkgmeofilkopaa
