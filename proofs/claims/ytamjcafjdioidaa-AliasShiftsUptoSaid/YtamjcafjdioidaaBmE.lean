/- Whole numbers of 1 to 64 bits, as integers; no program is in sight. No condition. | What the operations make of numbers, as plain functions; what the program's tests say. No program is in sight. No condition. | Numbers of twice 64 bits with a sign of their own, as the reference reckons; no program is in sight. No condition. | What the reference's pieces make, as whole numbers. No program is in sight. No condition. -/

namespace Go.Proofs.Ytamjcafjdioidaa
set_option linter.unusedSimpArgs false
set_option linter.unusedVariables false

/-- 2 to the power of w -/
def pw (w : Int) : Int := 2 ^ w.toNat

theorem pw_pos (w : Int) : 1 ≤ pw w := by
  unfold pw
  have : (0 : Int) < 2 ^ w.toNat := Int.pow_pos (by decide)
  omega
theorem pw_nat (w : Int) : pw w = ((2 ^ w.toNat : Nat) : Int) := by unfold pw; simp
theorem pw_add {a b : Int} (ha : 0 ≤ a) (hb : 0 ≤ b) : pw (a + b) = pw a * pw b := by
  unfold pw
  rw [← Int.pow_add, Int.toNat_add ha hb]
theorem pw_64 : pw 64 = 18446744073709551616 := by decide
theorem pw_63 : pw 63 = 9223372036854775808 := by decide
theorem pw_0 : pw 0 = 1 := by decide
theorem pw_succ {a : Int} (ha : 0 ≤ a) : pw (a + 1) = 2 * pw a := by
  rw [pw_add ha (by decide)]
  have : pw 1 = 2 := by decide
  rw [this, Int.mul_comm]
theorem pw_half {w : Int} (h : 1 ≤ w) : pw w = 2 * pw (w - 1) := by
  have := pw_succ (a := w - 1) (by omega)
  rwa [show w - 1 + 1 = w by omega] at this
theorem pw_rest {w : Int} (h : 0 ≤ w) (h' : w ≤ 64) : pw w * pw (64 - w) = 18446744073709551616 := by
  rw [← pw_add h (by omega), show w + (64 - w) = 64 by omega, pw_64]
theorem pw_rest63 {w : Int} (h : 1 ≤ w) (h' : w ≤ 64) : pw (w - 1) * pw (64 - w) = 9223372036854775808 := by
  rw [← pw_add (by omega) (by omega), show w - 1 + (64 - w) = 63 by omega, pw_63]
theorem pw_mono {a b : Int} (ha : 0 ≤ a) (h : a ≤ b) : pw a ≤ pw b := by
  have := pw_add (a := a) (b := b - a) ha (by omega)
  rw [show a + (b - a) = b by omega] at this
  rw [this]
  have h1 := pw_pos a
  have h2 := pw_pos (b - a)
  have : pw a * 1 ≤ pw a * pw (b - a) := Int.mul_le_mul_of_nonneg_left h2 (by omega)
  omega
theorem pw_le {w : Int} (h : 0 ≤ w) (h' : w ≤ 64) : pw w ≤ 18446744073709551616 := by
  rw [← pw_64]; exact pw_mono h h'
theorem pw_le63 {w : Int} (h : 0 ≤ w) (h' : w ≤ 63) : pw w ≤ 9223372036854775808 := by
  rw [← pw_63]; exact pw_mono h h'

/-- read with a sign -/
def sg (M v : Int) : Int := if 2 * (v % M) < M then v % M else v % M - M
/-- is it one of the numbers with a sign? -/
def inR (M t : Int) : Bool := decide (-M ≤ 2 * t) && decide (2 * t < M)

theorem sg_in {H v : Int} (h : 1 ≤ H) : -H ≤ sg (2 * H) v ∧ sg (2 * H) v < H := by
  have h1 := Int.emod_nonneg v (show 2 * H ≠ 0 by omega)
  have h2 := Int.emod_lt_of_pos v (show 0 < 2 * H by omega)
  unfold sg; split <;> omega
theorem sg_mod {M v : Int} (h : 1 ≤ M) : sg M v % M = v % M := by
  unfold sg; split
  · exact Int.emod_emod_of_dvd _ (Int.dvd_refl _)
  · rw [Int.sub_emod_right]; exact Int.emod_emod_of_dvd _ (Int.dvd_refl _)
theorem sg_of_mod {M v u : Int} (h : v % M = u % M) : sg M v = sg M u := by unfold sg; rw [h]
theorem sg_cut {M v : Int} : sg M (v % M) = sg M v := sg_of_mod (Int.emod_emod_of_dvd _ (Int.dvd_refl _))
theorem sg_id {H t : Int} (h1 : -H ≤ t) (h2 : t < H) : sg (2 * H) t = t := by
  unfold sg
  rcases Int.lt_or_le t 0 with h | h
  · have : t % (2 * H) = t + 2 * H := by
      rw [← Int.add_emod_right, Int.emod_eq_of_lt (by omega) (by omega)]
    rw [this]; split <;> omega
  · rw [Int.emod_eq_of_lt h (by omega)]; split <;> omega
theorem sg_eq_iff {H t : Int} (h : 1 ≤ H) : sg (2 * H) t = t ↔ -H ≤ t ∧ t < H :=
  ⟨fun e => by have := sg_in (v := t) h; omega, fun ⟨h1, h2⟩ => sg_id h1 h2⟩
theorem inR_iff {H t : Int} : inR (2 * H) t = true ↔ -H ≤ t ∧ t < H := by
  simp only [inR, Bool.and_eq_true, decide_eq_true_eq]; omega
theorem inR_sg_w {M H t : Int} (hM : M = 2 * H) (h : 1 ≤ H) : inR M t = decide (sg M t = t) := by
  rw [hM, Bool.eq_iff_iff, inR_iff, decide_eq_true_eq, sg_eq_iff h]
theorem inR_sg {H t : Int} (h : 1 ≤ H) : inR (2 * H) t = decide (sg (2 * H) t = t) := by
  rw [Bool.eq_iff_iff, inR_iff, decide_eq_true_eq, sg_eq_iff h]
end Go.Proofs.Ytamjcafjdioidaa

namespace Go.Proofs.Ytamjcafjdioidaa
set_option linter.unusedSimpArgs false
set_option linter.unusedVariables false

/-- does a whole number leave the width, read without a sign? -/
def outU (M u : Int) : Bool := decide (u < 0) || decide (M ≤ u)

/-- sums, differences, products -/
def ringU (op A B : Int) : Int := if op = 1 then A + B else if op = 2 then A - B else A * B
def ringBad (op M A B : Int) (nuw nsw : Bool) : Bool := (nuw && outU M (ringU op A B)) || (nsw && !inR M (ringU op (sg M A) (sg M B)))
def divQ (op M A B : Int) : Int := if op = 4 ∨ op = 6 then A / B else (sg M A).tdiv (sg M B)
def divR (op M A B : Int) : Int := if op = 4 ∨ op = 6 then A % B else (sg M A).tmod (sg M B)
/-- is there no quotient of the width? -/
def divOut (op M A B : Int) : Bool := B == 0 || (!(op == 4 || op == 6) && !inR M ((sg M A).tdiv (sg M B)))
/-- shifts by less than the width -/
def shV (op M A B : Int) : Int := if op = 11 then A * pw B % M else if op = 12 then A / pw B else sg M A / pw B
def shBad (op M A B : Int) (nuw nsw ex : Bool) : Bool :=
  if op = 11 then (nuw && outU M (A * pw B)) || (nsw && !inR M (sg M A * pw B)) else ex && A % pw B != 0
def cmpB (op M A B : Int) : Bool :=
  if op = 14 then A == B else if op = 15 then A != B else if op = 16 then decide (A < B) else if op = 17 then decide (A ≤ B) else if op = 18 then decide (sg M A < sg M B) else decide (sg M A ≤ sg M B)
def logV (op A B : Int) : Int := if op = 8 then ((A.toNat &&& B.toNat : Nat) : Int) else if op = 9 then ((A.toNat ||| B.toNat : Nat) : Int) else ((A.toNat ^^^ B.toNat : Nat) : Int)

/-- an operation of two numbers below M: the value and how it ends -/
def opS (op w M A B : Int) (nuw nsw ex : Bool) : Int × Int :=
  if op ≤ 3 then (if ringBad op M A B nuw nsw then (0, 1) else (ringU op A B % M, 0))
  else if op ≤ 7 then (if divOut op M A B then (0, 2) else if op = 6 ∨ op = 7 then (divR op M A B % M, 0) else if ex && divR op M A B != 0 then (0, 1) else (divQ op M A B % M, 0))
  else if op ≤ 10 then (logV op A B, 0)
  else if op ≤ 13 then (if w ≤ B then (0, 1) else if shBad op M A B nuw nsw ex then (0, 1) else (shV op M A B % M, 0))
  else (if cmpB op M A B then 1 else 0, 0)

/-- bits.Signed -/
theorem signed_law {w v : Int} (h1 : 1 ≤ w) (h2 : w ≤ 64) :
    (if 9223372036854775808 ≤ v * pw (64 - w) % 18446744073709551616 then v * pw (64 - w) % 18446744073709551616 - 18446744073709551616 else v * pw (64 - w) % 18446744073709551616) / pw (64 - w) = sg (pw w) v := by
  have hM := pw_rest (w := w) (by omega) h2
  have hH := pw_rest63 h1 h2
  have hk := pw_pos (64 - w)
  have hm := pw_pos w
  have hh := pw_half h1
  have e : v * pw (64 - w) % 18446744073709551616 = (v % pw w) * pw (64 - w) := by
    rw [← hM, Int.mul_comm v, Int.mul_comm (pw w), Int.mul_emod_mul_of_pos _ _ (by omega), Int.mul_comm]
  simp only [e]
  unfold sg
  have hr := Int.emod_nonneg v (show pw w ≠ 0 by omega)
  generalize pw (64 - w) = K at *
  generalize v % pw w = r at *
  generalize pw (w - 1) = H at *
  rw [hh] at hM ⊢
  by_cases hc : H ≤ r
  · have : H * K ≤ r * K := Int.mul_le_mul_of_nonneg_right hc (by omega)
    rw [if_pos (by omega), if_neg (by omega), ← hM, ← Int.sub_mul, Int.mul_ediv_cancel _ (by omega)]
  · have : (r + 1) * K ≤ H * K := Int.mul_le_mul_of_nonneg_right (by omega) (by omega)
    rw [Int.add_mul] at this
    rw [if_neg (by omega), if_pos (by omega), Int.mul_ediv_cancel _ (by omega)]
/-- bits.Mask -/
theorem mask_law {w : Int} (h1 : 0 ≤ w) (h2 : w ≤ 64) : 18446744073709551615 / pw (64 - w) = pw w - 1 := by
  have hM := pw_rest h1 h2
  have hk := pw_pos (64 - w)
  have e : (18446744073709551615 : Int) = (pw w - 1) * pw (64 - w) + (pw (64 - w) - 1) := by rw [Int.sub_mul]; omega
  rw [e, Int.add_comm, Int.add_mul_ediv_right _ _ (by omega), Int.ediv_eq_zero_of_lt (by omega) (by omega)]
  omega

/-- wrap of 64 bits, by cases: a sum of two numbers with a sign of a width -/
def w64 (n : Int) : Int := (n + 9223372036854775808) % 18446744073709551616 - 9223372036854775808

theorem sg_w64 {w t : Int} (h1 : 1 ≤ w) (h2 : w ≤ 64) : sg (pw w) (w64 t) = sg (pw w) t := by
  refine sg_of_mod ?_
  have hM := pw_rest (w := w) (by omega) h2
  have e : w64 t = t + pw w * (-(pw (64 - w)) * ((t + 9223372036854775808) / 18446744073709551616)) := by
    unfold w64
    rw [← Int.mul_assoc, Int.mul_neg, hM]
    omega
  rw [e, Int.add_mul_emod_self_left]

/-- the width's facts, for omega: M = 2 H; either 64 bits or at most half of them -/
theorem wid {w : Int} (h1 : 1 ≤ w) (h2 : w ≤ 64) : pw w = 2 * pw (w - 1) ∧ 1 ≤ pw (w - 1) ∧ (pw (w - 1) = 9223372036854775808 ∨ pw (w - 1) ≤ 4611686018427387904) := by
  refine ⟨pw_half h1, pw_pos _, ?_⟩
  rcases Int.lt_or_le w 64 with h | h
  · right
    have : pw 62 = 4611686018427387904 := by decide
    rw [← this]; exact pw_mono (by omega) (by omega)
  · left
    have : w = 64 := by omega
    subst this; exact pw_63

theorem wraps_add {w x y : Int} (h1 : 1 ≤ w) (h2 : w ≤ 64) (hx : -pw (w - 1) ≤ x ∧ x < pw (w - 1)) (hy : -pw (w - 1) ≤ y ∧ y < pw (w - 1)) :
    ((decide (x > 0) && decide (y > 0) && decide (w64 (x + y) ≤ 0)) || (decide (x < 0) && decide (y < 0) && decide (w64 (x + y) ≥ 0)) || (w64 (x + y) != sg (pw w) (w64 (x + y)))) = !inR (pw w) (x + y) := by
  obtain ⟨hM, hH, hw⟩ := wid h1 h2
  have hs := sg_w64 (t := x + y) h1 h2
  rw [hs, inR_sg_w hM hH]
  have e := sg_eq_iff (t := x + y) hH
  rw [← hM] at e
  rw [Bool.eq_iff_iff]
  simp only [Bool.or_eq_true, Bool.and_eq_true, decide_eq_true_eq, bne_iff_ne, ne_eq, Bool.not_eq_true', decide_eq_false_iff_not]
  rw [e]
  generalize hg : sg (pw w) (x + y) = g at *
  have hgr := sg_in (v := x + y) hH
  rw [← hM, hg] at hgr
  unfold w64
  omega
theorem wraps_sub {w x y : Int} (h1 : 1 ≤ w) (h2 : w ≤ 64) (hx : -pw (w - 1) ≤ x ∧ x < pw (w - 1)) (hy : -pw (w - 1) ≤ y ∧ y < pw (w - 1)) :
    ((decide (x ≥ 0) && decide (y < 0) && decide (w64 (x - y) < 0)) || (decide (x < 0) && decide (y > 0) && decide (w64 (x - y) ≥ 0)) || (w64 (x - y) != sg (pw w) (w64 (x - y)))) = !inR (pw w) (x - y) := by
  obtain ⟨hM, hH, hw⟩ := wid h1 h2
  have hs := sg_w64 (t := x - y) h1 h2
  rw [hs, inR_sg_w hM hH]
  have e := sg_eq_iff (t := x - y) hH
  rw [← hM] at e
  rw [Bool.eq_iff_iff]
  simp only [Bool.or_eq_true, Bool.and_eq_true, decide_eq_true_eq, bne_iff_ne, ne_eq, Bool.not_eq_true', decide_eq_false_iff_not]
  rw [e]
  generalize hg : sg (pw w) (x - y) = g at *
  have hgr := sg_in (v := x - y) hH
  rw [← hM, hg] at hgr
  unfold w64
  omega

theorem product_law {w x y : Int} (h1 : 1 ≤ w) (h2 : w ≤ 64) (hx : -pw (w - 1) ≤ x ∧ x < pw (w - 1)) (hy : -pw (w - 1) ≤ y ∧ y < pw (w - 1)) :
    (decide ((x.natAbs * y.natAbs : Nat) / 18446744073709551616 ≠ (0 : Int)) || decide ((x.natAbs * y.natAbs : Nat) % 18446744073709551616 > (if decide (x < 0) = decide (y < 0) then pw (w - 1) - 1 else pw (w - 1)))) = !inR (pw w) (x * y) := by
  obtain ⟨hM, hH, hw⟩ := wid h1 h2
  have e := @inR_iff (pw (w - 1)) (x * y)
  rw [← hM] at e
  rw [Bool.eq_iff_iff]
  simp only [Bool.or_eq_true, decide_eq_true_eq, Bool.not_eq_true', ← Bool.not_eq_true, ne_eq]
  rw [e]
  have hn : (x * y).natAbs = x.natAbs * y.natAbs := Int.natAbs_mul x y
  rw [← hn]
  have hpos : decide (x < 0) = decide (y < 0) → 0 ≤ x * y := fun h => by
    rw [decide_eq_decide] at h
    rcases Int.lt_or_le x 0 with h1 | h1
    · exact Int.mul_nonneg_of_nonpos_of_nonpos (by omega) (by omega)
    · exact Int.mul_nonneg h1 (by omega)
  have hneg : decide (x < 0) ≠ decide (y < 0) → x * y ≤ 0 := fun h => by
    rw [ne_eq, decide_eq_decide] at h
    rcases Int.lt_or_le x 0 with h1 | h1
    · exact Int.mul_nonpos_of_nonpos_of_nonneg (by omega) (by omega)
    · exact Int.mul_nonpos_of_nonneg_of_nonpos h1 (by omega)
  generalize x * y = t at *
  split
  · rename_i hs; have := hpos hs; omega
  · rename_i hs; have := hneg hs; omega

theorem sg_A {H A : Int} (h0 : 0 ≤ A) (h1 : A < 2 * H) : sg (2 * H) A = if A < H then A else A - 2 * H := by
  unfold sg
  rw [Int.emod_eq_of_lt h0 h1]
  split <;> split <;> omega

theorem div_out {w A B : Int} (h1 : 1 ≤ w) (h2 : w ≤ 64) (hA : 0 ≤ A ∧ A < pw w) :
    (decide (sg (pw w) B = -1) && decide (A = pw (w - 1))) = !inR (pw w) ((sg (pw w) A).tdiv (sg (pw w) B)) ∨ sg (pw w) B = 0 := by
  obtain ⟨hM, hH, hw⟩ := wid h1 h2
  by_cases h0 : sg (pw w) B = 0
  · exact .inr h0
  left
  have hx := sg_in (v := A) hH
  have hy := sg_in (v := B) hH
  have hsA := sg_A (H := pw (w - 1)) hA.1 (by omega)
  have e := @inR_iff (pw (w - 1)) ((sg (pw w) A).tdiv (sg (pw w) B))
  rw [← hM] at e hx hy hsA
  rw [Bool.eq_iff_iff]
  simp only [Bool.and_eq_true, decide_eq_true_eq, Bool.not_eq_true', ← Bool.not_eq_true]
  rw [e]
  have hn : ((sg (pw w) A).tdiv (sg (pw w) B)).natAbs = (sg (pw w) A).natAbs / (sg (pw w) B).natAbs := Int.natAbs_tdiv (sg (pw w) A) (sg (pw w) B)
  by_cases hm1 : sg (pw w) B = -1
  · rw [hm1, Int.tdiv_neg, Int.tdiv_one]
    split at hsA <;> omega
  · by_cases hp1 : sg (pw w) B = 1
    · rw [hp1, Int.tdiv_one]; omega
    · have : (sg (pw w) A).natAbs / (sg (pw w) B).natAbs ≤ (sg (pw w) A).natAbs / 2 := Nat.div_le_div_left (by omega) (by decide)
      rw [← hn] at this
      clear hn
      generalize (sg (pw w) A).tdiv (sg (pw w) B) = q at *
      omega

section
variable {w A B : Int}
theorem pw_split (hB0 : 0 ≤ B) (hB : B < w) : pw w = pw B * pw (w - B) := by
  rw [← pw_add hB0 (by omega), show B + (w - B) = w by omega]
theorem shl_nuw (hB0 : 0 ≤ B) (hB : B < w) (hA : 0 ≤ A ∧ A < pw w) : ((A * pw B % pw w) / pw B != A) = outU (pw w) (A * pw B) := by
  have hb := pw_pos B
  have hc := pw_pos (w - B)
  have hs := pw_split hB0 hB
  have h0 : 0 ≤ A * pw B := Int.mul_nonneg hA.1 (by omega)
  rw [Bool.eq_iff_iff]
  simp only [outU, Bool.or_eq_true, decide_eq_true_eq, bne_iff_ne, ne_eq]
  have e : A * pw B % pw w = (A % pw (w - B)) * pw B := by
    rw [hs, Int.mul_comm A, Int.mul_emod_mul_of_pos _ _ (by omega), Int.mul_comm]
  rw [e, Int.mul_ediv_cancel _ (by omega)]
  have hr := Int.emod_lt_of_pos A (show 0 < pw (w - B) by omega)
  constructor
  · intro h
    right
    rcases Int.lt_or_le A (pw (w - B)) with h1 | h1
    · exact absurd (Int.emod_eq_of_lt hA.1 h1) h
    · have : pw (w - B) * pw B ≤ A * pw B := Int.mul_le_mul_of_nonneg_right h1 (by omega)
      rw [hs, Int.mul_comm]; exact this
  · rintro (h | h)
    · omega
    · intro hh
      have : (A + 1) * pw B ≤ pw (w - B) * pw B := Int.mul_le_mul_of_nonneg_right (by omega) (by omega)
      rw [Int.add_mul, Int.mul_comm (pw (w - B)), ← hs] at this
      omega
theorem shl_nsw (h1 : 1 ≤ w) (h2 : w ≤ 64) (hB0 : 0 ≤ B) (hB : B < w) : (sg (pw w) (A * pw B % pw w) / pw B != sg (pw w) A) = !inR (pw w) (sg (pw w) A * pw B) := by
  obtain ⟨hM, hH, hw⟩ := wid h1 h2
  have hb := pw_pos B
  have hs := pw_split hB0 hB
  have ecut : sg (pw w) (A * pw B % pw w) = sg (pw w) (sg (pw w) A * pw B) := by
    rw [sg_cut]
    refine sg_of_mod ?_
    rw [Int.mul_emod, ← sg_mod (M := pw w) (v := A) (by omega), ← Int.mul_emod]
  rw [ecut]
  have e := sg_eq_iff (t := sg (pw w) A * pw B) hH
  have e2 := @inR_iff (pw (w - 1)) (sg (pw w) A * pw B)
  rw [← hM] at e e2
  rw [Bool.eq_iff_iff]
  simp only [bne_iff_ne, ne_eq, Bool.not_eq_true', ← Bool.not_eq_true]
  rw [e2, ← e]
  have hmod : (sg (pw w) (sg (pw w) A * pw B)) % pw B = 0 := by
    have h := sg_mod (M := pw w) (v := sg (pw w) A * pw B) (by omega)
    have h' : _ % pw B = _ % pw B := congrArg (· % pw B) h
    rw [Int.emod_emod_of_dvd _ ⟨_, hs⟩, Int.emod_emod_of_dvd _ ⟨_, hs⟩, Int.mul_emod_left] at h'
    exact h'
  generalize sg (pw w) (sg (pw w) A * pw B) = g at *
  have hg := Int.mul_ediv_add_emod g (pw B)
  rw [hmod, Int.add_zero, Int.mul_comm] at hg
  constructor
  · intro h h'
    exact h (by rw [h', Int.mul_ediv_cancel _ (by omega)])
  · intro h h'
    exact h (by rw [← h', hg])
theorem lshr_ex (hB0 : 0 ≤ B) (hB : B < w) (h2 : w ≤ 64) (hA : 0 ≤ A ∧ A < pw w) : (A / pw B * pw B % 18446744073709551616 != A) = (A % pw B != 0) := by
  have hb := pw_pos B
  have hle := pw_le (w := w) (by omega) h2
  have hg := Int.mul_ediv_add_emod A (pw B)
  rw [Int.mul_comm] at hg
  have hr := Int.emod_nonneg A (show pw B ≠ 0 by omega)
  have h0 : 0 ≤ A / pw B * pw B := Int.mul_nonneg (Int.ediv_nonneg hA.1 (by omega)) (by omega)
  rw [Int.emod_eq_of_lt h0 (by omega), Bool.eq_iff_iff]
  simp only [bne_iff_ne, ne_eq]
  omega
theorem sg_low (h1 : 1 ≤ w) (hB0 : 0 ≤ B) (hB : B < w) : sg (pw w) A % pw B = A % pw B := by
  have hs := pw_split hB0 hB
  have h := sg_mod (M := pw w) (v := A) (pw_pos w)
  have h' : _ % pw B = _ % pw B := congrArg (· % pw B) h
  rwa [Int.emod_emod_of_dvd _ ⟨_, hs⟩, Int.emod_emod_of_dvd _ ⟨_, hs⟩] at h'
theorem ashr_ex (h1 : 1 ≤ w) (h2 : w ≤ 64) (hB0 : 0 ≤ B) (hB : B < w) (hA : 0 ≤ A ∧ A < pw w) : (sg (pw w) A / pw B % 18446744073709551616 * pw B % 18446744073709551616 % pw w != A) = (A % pw B != 0) := by
  have hb := pw_pos B
  have hM := pw_rest (w := w) (by omega) h2
  have hl := sg_low (A := A) h1 hB0 hB
  have hsm := sg_mod (M := pw w) (v := A) (pw_pos w)
  have e : sg (pw w) A / pw B % 18446744073709551616 * pw B % 18446744073709551616 % pw w = (A - A % pw B) % pw w := by
    rw [Int.mul_emod, Int.emod_emod_of_dvd _ (Int.dvd_refl _), ← Int.mul_emod, Int.emod_emod_of_dvd _ ⟨_, hM.symm⟩]
    have hg := Int.mul_ediv_add_emod (sg (pw w) A) (pw B)
    rw [Int.mul_comm] at hg
    have : sg (pw w) A / pw B * pw B = sg (pw w) A - A % pw B := by rw [← hl]; omega
    rw [this, Int.sub_emod, hsm, ← Int.sub_emod]
  have hr := Int.emod_nonneg A (show pw B ≠ 0 by omega)
  have hlt := Int.emod_lt_of_pos A (show 0 < pw B by omega)
  have hle : A % pw B ≤ A := by
    rcases Int.lt_or_le A (pw B) with h | h
    · rw [Int.emod_eq_of_lt hA.1 h]; exact Int.le_refl _
    · omega
  rw [e, Int.emod_eq_of_lt (by omega) (by omega), Bool.eq_iff_iff]
  simp only [bne_iff_ne, ne_eq]
  omega
end
end Go.Proofs.Ytamjcafjdioidaa

namespace Go.Proofs.Ytamjcafjdioidaa
set_option linter.unusedSimpArgs false
set_option linter.unusedVariables false

structure Big where
  hi : Int
  lo : Int
  below : Bool
  deriving DecidableEq, Inhabited


/-- a whole number, as the reference lays it -/
def big (v : Int) : Big := ⟨v.natAbs / 18446744073709551616, v.natAbs % 18446744073709551616, decide (v < 0)⟩

/-- latheref01.less -/
def bless (a b : Big) : Bool := decide (a.hi < b.hi) || (a.hi == b.hi && decide (a.lo < b.lo))
/-- latheref01.fixed -/
def bfixed (a : Big) : Big := if a.hi = 0 ∧ a.lo = 0 then ⟨a.hi, a.lo, false⟩ else a
/-- latheref01.Minus -/
def bminus (a : Big) : Big := bfixed ⟨a.hi, a.lo, !a.below⟩
/-- latheref01.Plus, sizes of one sign -/
def badd (a b : Big) : Big := ⟨if (a.lo + b.lo) % 18446744073709551616 < a.lo then ((a.hi + b.hi) % 18446744073709551616 + 1) % 18446744073709551616 else (a.hi + b.hi) % 18446744073709551616, (a.lo + b.lo) % 18446744073709551616, a.below⟩
/-- latheref01.Plus, the greater size ahead -/
def bsub (a b : Big) : Big := bfixed ⟨if a.lo < b.lo then ((a.hi - b.hi) % 18446744073709551616 - 1) % 18446744073709551616 else (a.hi - b.hi) % 18446744073709551616, (a.lo - b.lo) % 18446744073709551616, a.below⟩
/-- latheref01.Plus -/
def bplus (a b : Big) : Big := if a.below = b.below then badd a b else if bless a b = true then bsub b a else bsub a b
/-- latheref01.Times -/
def btimes (a b : Big) : Big :=
  let p := a.lo / 4294967296
  let q := a.lo % 4294967296
  let r := b.lo / 4294967296
  let s := b.lo % 4294967296
  let mid := bplus ⟨0, p * s % 18446744073709551616, false⟩ ⟨0, q * r % 18446744073709551616, false⟩
  let up : Big := ⟨(mid.hi * 4294967296 % 18446744073709551616 + mid.lo / 4294967296) % 18446744073709551616, mid.lo % 4294967296 * 4294967296 % 18446744073709551616, false⟩
  let t := bplus (bplus ⟨0, q * s % 18446744073709551616, false⟩ up) ⟨p * r % 18446744073709551616, 0, false⟩
  bfixed ⟨t.hi, t.lo, a.below != b.below⟩
/-- latheref01.quotient -/
def bquo (x y : Big) : Big := bfixed ⟨0, x.lo / y.lo, x.below != y.below⟩
def brem (x y : Big) : Big := bfixed ⟨0, x.lo % y.lo, x.below⟩

theorem big_inj {u v : Int} (h : big u = big v) : u = v := by
  unfold big at h
  simp only [Big.mk.injEq, decide_eq_decide] at h
  omega
theorem big_0 {n : Int} (h : 0 ≤ n) (h' : n < 18446744073709551616) : big n = ⟨0, n, false⟩ := by
  unfold big
  simp only [Big.mk.injEq, decide_eq_false_iff_not]
  omega
theorem big_neg {n : Int} (h : n < 0) (h' : -18446744073709551616 < n) : big n = ⟨0, -n, true⟩ := by
  unfold big
  simp only [Big.mk.injEq, decide_eq_true_eq]
  omega
theorem big_lo {n : Int} (h' : -18446744073709551616 < n) (h : n < 18446744073709551616) : (big n).lo = n.natAbs := by
  unfold big; simp only; omega
theorem bfixed_of {hi lo : Int} {b : Bool} {v : Int} (h1 : hi = (v.natAbs : Int) / 18446744073709551616) (h2 : lo = (v.natAbs : Int) % 18446744073709551616) (h3 : v ≠ 0 → b = decide (v < 0)) : bfixed ⟨hi, lo, b⟩ = big v := by
  unfold bfixed big
  by_cases h0 : v = 0
  · subst h0
    simp at h1 h2
    simp [h1, h2]
  · rw [if_neg (by simp only; omega), h1, h2, h3 h0]
theorem bminus_big (v : Int) : bminus (big v) = big (-v) := by
  unfold bminus
  refine bfixed_of (by simp [big]) (by simp [big]) (fun h => ?_)
  simp only [big]
  rw [Bool.eq_iff_iff]; simp; omega
theorem bless_big (u v : Int) : bless (big u) (big v) = decide (u.natAbs < v.natAbs) := by
  unfold bless big
  rw [Bool.eq_iff_iff]
  simp only [Bool.or_eq_true, Bool.and_eq_true, decide_eq_true_eq, beq_iff_eq]
  omega
theorem badd_big {u v : Int} (hb : (big u).below = (big v).below) (hu : u.natAbs + v.natAbs < 340282366920938463463374607431768211456) : badd (big u) (big v) = big (u + v) := by
  simp only [big, decide_eq_decide] at hb
  dsimp only [badd, big]
  have e : (u + v).natAbs = u.natAbs + v.natAbs := by omega
  have s : decide (u < 0) = decide (u + v < 0) := by rw [decide_eq_decide]; omega
  rw [e, s]
  simp only [Big.mk.injEq, and_true]
  generalize u.natAbs = x at *
  generalize v.natAbs = y at *
  refine ⟨?_, by omega⟩
  by_cases hc : ((x : Int) % 18446744073709551616 + (y : Int) % 18446744073709551616) % 18446744073709551616 < (x : Int) % 18446744073709551616
  · rw [if_pos hc]; omega
  · rw [if_neg hc]; omega
theorem bsub_big {u v : Int} (hb : (big u).below ≠ (big v).below) (hu : v.natAbs ≤ u.natAbs) (hs : u.natAbs < 340282366920938463463374607431768211456) : bsub (big u) (big v) = big (u + v) := by
  simp only [big, ne_eq, decide_eq_decide] at hb
  dsimp only [bsub, big]
  have e : ((u + v).natAbs : Int) = u.natAbs - v.natAbs := by omega
  refine bfixed_of ?_ ?_ (fun h => ?_)
  · rw [e]
    generalize u.natAbs = x at *
    generalize v.natAbs = y at *
    by_cases hc : (x : Int) % 18446744073709551616 < (y : Int) % 18446744073709551616
    · rw [if_pos hc]; omega
    · rw [if_neg hc]; omega
  · rw [e]; omega
  · rw [decide_eq_decide]; omega
theorem bplus_big {u v : Int} (h : u.natAbs + v.natAbs < 340282366920938463463374607431768211456) : bplus (big u) (big v) = big (u + v) := by
  unfold bplus
  split
  · rename_i hb; exact badd_big hb h
  · rename_i hb
    rw [bless_big]
    split
    · rename_i hl; rw [bsub_big (fun e => hb e.symm) (by have := of_decide_eq_true hl; omega) (by omega), Int.add_comm]
    · rename_i hl; exact bsub_big hb (by simp at hl; omega) (by omega)
theorem bquo_big {u v : Int} (hu : u.natAbs < 18446744073709551616) (hv : v.natAbs < 18446744073709551616) (h0 : v ≠ 0) : bquo (big u) (big v) = big (u.tdiv v) := by
  have e : (u.tdiv v).natAbs = u.natAbs / v.natAbs := Int.natAbs_tdiv u v
  unfold bquo
  have hle : u.natAbs / v.natAbs ≤ u.natAbs := Nat.div_le_self _ _
  refine bfixed_of (by rw [e]; omega) ?_ (fun h => ?_)
  · rw [e, big_lo (by omega) (by omega), big_lo (by omega) (by omega), ← Int.natCast_ediv]; omega
  · simp only [big]
    have hs := Int.sign_tdiv u v
    rw [Bool.eq_iff_iff]
    simp only [bne_iff_ne, ne_eq, decide_eq_decide, decide_eq_true_eq]
    have hn : ¬ u.natAbs < v.natAbs := fun hlt => h (by have := Nat.div_eq_of_lt hlt; omega)
    rw [if_neg hn] at hs
    have hu0 : u ≠ 0 := by rintro rfl; simp at h
    rcases Int.lt_or_gt_of_ne hu0 with h1 | h1 <;> rcases Int.lt_or_gt_of_ne h0 with h2 | h2
    · rw [Int.sign_eq_neg_one_of_neg h1, Int.sign_eq_neg_one_of_neg h2] at hs
      have : (u.tdiv v).sign = 1 := by simpa using hs
      have := Int.pos_of_sign_eq_one this
      omega
    · rw [Int.sign_eq_neg_one_of_neg h1, Int.sign_eq_one_of_pos h2] at hs
      have : (u.tdiv v).sign = -1 := by simpa using hs
      have := Int.neg_of_sign_eq_neg_one this
      omega
    · rw [Int.sign_eq_one_of_pos h1, Int.sign_eq_neg_one_of_neg h2] at hs
      have : (u.tdiv v).sign = -1 := by simpa using hs
      have := Int.neg_of_sign_eq_neg_one this
      omega
    · rw [Int.sign_eq_one_of_pos h1, Int.sign_eq_one_of_pos h2] at hs
      have : (u.tdiv v).sign = 1 := by simpa using hs
      have := Int.pos_of_sign_eq_one this
      omega
theorem brem_big {u v : Int} (hu : u.natAbs < 18446744073709551616) (hv : v.natAbs < 18446744073709551616) (h0 : v ≠ 0) : brem (big u) (big v) = big (u.tmod v) := by
  have e : (u.tmod v).natAbs = u.natAbs % v.natAbs := Int.natAbs_tmod u v
  unfold brem
  have hle : u.natAbs % v.natAbs ≤ u.natAbs := Nat.mod_le _ _
  refine bfixed_of (by rw [e]; omega) ?_ (fun h => ?_)
  · rw [e, big_lo (by omega) (by omega), big_lo (by omega) (by omega), ← Int.natCast_emod]; omega
  · simp only [big]
    rw [decide_eq_decide]
    rcases Int.lt_or_le u 0 with h1 | h1
    · have := Int.tmod_nonneg v (a := -u) (by omega)
      rw [Int.neg_tmod] at this
      omega
    · have := Int.tmod_nonneg v h1
      omega

theorem half_div (p q : Nat) (hq : q < 4294967296) : ((p * 4294967296 + q : Nat) : Int) / 4294967296 = p := by omega
theorem half_mod (p q : Nat) (hq : q < 4294967296) : ((p * 4294967296 + q : Nat) : Int) % 4294967296 = q := by omega
theorem mul_le4 {a b : Nat} (ha : a < 4294967296) (hb : b < 4294967296) : a * b ≤ 18446744065119617025 :=
  by
  have := Nat.mul_le_mul (show a ≤ 4294967295 by omega) (show b ≤ 4294967295 by omega)
  omega
theorem btimes_big {u v : Int} (hu : u.natAbs < 18446744073709551616) (hv : v.natAbs < 18446744073709551616) : btimes (big u) (big v) = big (u * v) := by
  unfold btimes
  rw [big_lo (by omega) (by omega), big_lo (by omega) (by omega)]
  have e : (u * v).natAbs = u.natAbs * v.natAbs := Int.natAbs_mul u v
  have hb : (big u).below ≠ (big v).below → u * v ≤ 0 := fun h => by
    simp only [big, ne_eq, decide_eq_decide] at h
    rcases Int.lt_or_le u 0 with h1 | h1
    · exact Int.mul_nonpos_of_nonpos_of_nonneg (by omega) (by omega)
    · exact Int.mul_nonpos_of_nonneg_of_nonpos h1 (by omega)
  have hb' : (big u).below = (big v).below → 0 ≤ u * v := fun h => by
    simp only [big, decide_eq_decide] at h
    rcases Int.lt_or_le u 0 with h1 | h1
    · exact Int.mul_nonneg_of_nonpos_of_nonpos (by omega) (by omega)
    · exact Int.mul_nonneg h1 (by omega)
  generalize hx : u.natAbs = x at *
  generalize hy : v.natAbs = y at *
  obtain ⟨p, q, hp, hq, rfl⟩ : ∃ p q : Nat, p < 4294967296 ∧ q < 4294967296 ∧ x = p * 4294967296 + q := ⟨x / 4294967296, x % 4294967296, by omega, by omega, by omega⟩
  obtain ⟨r, s, hr, hs, rfl⟩ : ∃ p q : Nat, p < 4294967296 ∧ q < 4294967296 ∧ y = p * 4294967296 + q := ⟨y / 4294967296, y % 4294967296, by omega, by omega, by omega⟩
  have e1 : ((p * 4294967296 + q : Nat) : Int) / 4294967296 = p := half_div _ _ hq
  have e2 : ((p * 4294967296 + q : Nat) : Int) % 4294967296 = q := half_mod _ _ hq
  have e3 : ((r * 4294967296 + s : Nat) : Int) / 4294967296 = r := half_div _ _ hs
  have e4 : ((r * 4294967296 + s : Nat) : Int) % 4294967296 = s := half_mod _ _ hs
  simp only [e1, e2, e3, e4]
  have m1 : p * s ≤ 18446744065119617025 := mul_le4 (by omega) (by omega)
  have m2 : q * r ≤ 18446744065119617025 := mul_le4 (by omega) (by omega)
  have m3 : q * s ≤ 18446744065119617025 := mul_le4 (by omega) (by omega)
  have m4 : p * r ≤ 18446744065119617025 := mul_le4 (by omega) (by omega)
  have tot : (p * 4294967296 + q) * (r * 4294967296 + s) = p * r * 18446744073709551616 + (p * s + q * r) * 4294967296 + q * s := by
    rw [Nat.add_mul, Nat.mul_add, Nat.mul_add]
    have a1 : p * 4294967296 * (r * 4294967296) = p * r * 18446744073709551616 := by
      rw [Nat.mul_mul_mul_comm]
    have a2 : p * 4294967296 * s = p * s * 4294967296 := by rw [Nat.mul_right_comm]
    have a3 : q * (r * 4294967296) = q * r * 4294967296 := by rw [Nat.mul_assoc]
    rw [a1, a2, a3, Nat.add_mul]
    omega
  rw [tot] at e
  have c1 : (p : Int) * s = ((p * s : Nat) : Int) := by simp
  have c2 : (q : Int) * r = ((q * r : Nat) : Int) := by simp
  have c3 : (q : Int) * s = ((q * s : Nat) : Int) := by simp
  have c4 : (p : Int) * r = ((p * r : Nat) : Int) := by simp
  simp only [c1, c2, c3, c4]
  generalize p * s = ps at *
  generalize q * r = qr at *
  generalize q * s = qs at *
  generalize p * r = pr at *
  rw [← big_0 (n := (ps : Int) % 18446744073709551616) (by omega) (by omega), ← big_0 (n := (qr : Int) % 18446744073709551616) (by omega) (by omega), bplus_big (by omega)]
  have g1 : (⟨((big ((ps : Int) % 18446744073709551616 + (qr : Int) % 18446744073709551616)).hi * 4294967296 % 18446744073709551616 + (big ((ps : Int) % 18446744073709551616 + (qr : Int) % 18446744073709551616)).lo / 4294967296) % 18446744073709551616, (big ((ps : Int) % 18446744073709551616 + (qr : Int) % 18446744073709551616)).lo % 4294967296 * 4294967296 % 18446744073709551616, false⟩ : Big) = big ((ps + qr) * 4294967296) := by
    simp only [big, Big.mk.injEq]
    refine ⟨?_, ?_, ?_⟩
    · omega
    · omega
    · simp; omega
  rw [g1, ← big_0 (n := (qs : Int) % 18446744073709551616) (by omega) (by omega), bplus_big (by omega)]
  have g2 : (⟨(pr : Int) % 18446744073709551616, 0, false⟩ : Big) = big (pr * 18446744073709551616) := by
    simp only [big, Big.mk.injEq]
    refine ⟨?_, ?_, ?_⟩
    · omega
    · omega
    · simp; omega
  rw [g2, bplus_big (by omega)]
  refine bfixed_of ?_ ?_ (fun h => ?_)
  · rw [e]; simp only [big]; omega
  · rw [e]; simp only [big]; omega
  · by_cases hbb : (big u).below = (big v).below
    · have := hb' hbb
      rw [hbb, bne_self_eq_false]
      symm; rw [decide_eq_false_iff_not]; omega
    · have := hb hbb
      have e2 : ((big u).below != (big v).below) = true := by rw [bne_iff_ne]; exact hbb
      rw [e2]; symm; rw [decide_eq_true_eq]; omega
end Go.Proofs.Ytamjcafjdioidaa

namespace Go.Proofs.Ytamjcafjdioidaa
set_option linter.unusedSimpArgs false
set_option linter.unusedVariables false

/-- latheref01.Cut -/
def rcut (w v : Int) : Int := if 64 ≤ w then v else v % pw w
theorem rcut_eq {w v : Int} (h : w ≤ 64) (h0 : 0 ≤ v) (hv : v < 18446744073709551616) : rcut w v = v % pw w := by
  unfold rcut
  split
  · have : w = 64 := by omega
    subst this
    rw [pw_64, Int.emod_eq_of_lt h0 hv]
  · rfl
/-- latheref01.With -/
theorem with_law {w v : Int} (h1 : 1 ≤ w) (h2 : w ≤ 64) :
    (if v % pw w < pw (w - 1) then (⟨0, v % pw w, false⟩ : Big) else ⟨0, (0 - v % pw w) % 18446744073709551616 % pw w, true⟩) = big (sg (pw w) v) := by
  obtain ⟨hM, hH, hw⟩ := wid h1 h2
  have hR := pw_rest (w := w) (by omega) h2
  have hr := Int.emod_nonneg v (show pw w ≠ 0 by omega)
  have hlt := Int.emod_lt_of_pos v (show 0 < pw w by omega)
  rw [Int.emod_emod_of_dvd _ ⟨_, hR.symm⟩]
  unfold sg
  split
  · rw [if_pos (by omega), big_0 hr (by omega)]
  · rw [if_neg (by omega), big_neg (by omega) (by omega)]
    congr 1
    rw [← Int.add_emod_right, Int.emod_eq_of_lt (by omega) (by omega)]
    omega
/-- latheref01.Wrapped -/
theorem wrapped_law {w t : Int} (h1 : 1 ≤ w) (h2 : w ≤ 64) :
    (if (big t).below = true then (0 - (big t).lo) % 18446744073709551616 % pw w else (big t).lo % pw w) = t % pw w := by
  have hR := pw_rest (w := w) (by omega) h2
  simp only [big, decide_eq_true_eq]
  split
  · rw [Int.emod_emod_of_dvd _ ⟨_, hR.symm⟩]
    have e : 0 - (t.natAbs : Int) % 18446744073709551616 = t + pw w * (pw (64 - w) * ((t.natAbs : Int) / 18446744073709551616)) := by
      rw [← Int.mul_assoc, hR]; omega
    rw [e, Int.add_mul_emod_self_left]
  · have e : (t.natAbs : Int) % 18446744073709551616 = t + pw w * (-(pw (64 - w)) * ((t.natAbs : Int) / 18446744073709551616)) := by
      rw [← Int.mul_assoc, Int.mul_neg, hR]; omega
    rw [e, Int.add_mul_emod_self_left]
/-- latheref01.fits -/
def fitS (M t : Int) (sign : Bool) : Bool := if sign then inR M t else !outU M t
theorem fits_sign {w t : Int} (h1 : 1 ≤ w) (h2 : w ≤ 64) : decide (big (sg (pw w) (t % pw w)) = big t) = inR (pw w) t := by
  obtain ⟨hM, hH, hw⟩ := wid h1 h2
  rw [sg_cut, inR_sg_w hM hH, decide_eq_decide]
  exact ⟨big_inj, fun h => by rw [h]⟩
theorem fits_plain {w t : Int} : decide (big (t % pw w) = big t) = !outU (pw w) t := by
  have hp := pw_pos w
  rw [Bool.eq_iff_iff]
  simp only [outU, decide_eq_true_eq, Bool.not_eq_true', Bool.or_eq_false_iff, decide_eq_false_iff_not]
  constructor
  · intro h
    have h' := big_inj h
    have := Int.emod_nonneg t (show pw w ≠ 0 by omega)
    have := Int.emod_lt_of_pos t (show 0 < pw w by omega)
    omega
  · rintro ⟨h, h'⟩
    rw [Int.emod_eq_of_lt (by omega) (by omega)]

/-- exact at Ashr: the rest of the sizes -/
theorem ashr_rest {w A n : Int} (h1 : 1 ≤ w) (hn0 : 0 ≤ n) (hn : n < w) : (((sg (pw w) A).tmod (pw n)).natAbs != 0) = (A % pw n != 0) := by
  have hp := pw_pos n
  have hl := sg_low (A := A) h1 hn0 hn
  rw [Bool.eq_iff_iff]
  simp only [bne_iff_ne, ne_eq]
  rw [← hl]
  have a := Int.dvd_iff_tmod_eq_zero (a := pw n) (b := sg (pw w) A)
  have b := Int.dvd_iff_emod_eq_zero (a := pw n) (b := sg (pw w) A)
  constructor
  · intro h h'
    exact h (by rw [a.1 (b.2 h')]; rfl)
  · intro h h'
    exact h (b.1 (a.2 (by omega)))
/-- the quotient, downwards -/
theorem floor_law {x p : Int} (hp : 1 ≤ p) : (if x.tmod p < 0 then x.tdiv p - 1 else x.tdiv p) = x / p := by
  have h1 := Int.tmod_add_mul_tdiv x p
  have h2 := Int.emod_nonneg x (show p ≠ 0 by omega)
  have h3 := Int.emod_lt_of_pos x (show 0 < p by omega)
  have h4 := Int.mul_ediv_add_emod x p
  rcases Int.lt_or_le x 0 with h | h
  · have h5 := Int.tmod_nonneg p (a := -x) (by omega)
    rw [Int.neg_tmod] at h5
    have h6 := Int.lt_of_lt_of_le (Int.tmod_lt_of_pos (-x) (b := p) (by omega)) (Int.le_refl p)
    rw [Int.neg_tmod] at h6
    split
    · symm
      rw [Int.ediv_eq_iff_of_pos (by omega)]
      constructor
      · rw [Int.sub_mul, Int.mul_comm]; omega
      · rw [Int.sub_mul, Int.mul_comm]; omega
    · symm
      rw [Int.ediv_eq_iff_of_pos (by omega)]
      constructor
      · rw [Int.mul_comm]; omega
      · rw [Int.mul_comm]; omega
  · rw [Int.tmod_eq_emod_of_nonneg h, if_neg (by omega), Int.tdiv_eq_ediv_of_nonneg h]

/-- latheref01.bitwise: a round -/
theorem bits_mod_succ (x k : Nat) : x % 2 ^ (k + 1) = x % 2 ^ k + 2 ^ k * (x / 2 ^ k % 2) := by
  rw [Nat.pow_succ, Nat.mod_mul]

/-- what an operation without flags ends with -/
def ofV (op w a b : Int) : Int := (opS op w (pw w) (a % pw w) (b % pw w) false false false).1

theorem of_add (w a b : Int) : ofV 1 w a b = (a + b) % pw w := by
  simp [ofV, opS, ringBad, ringU]
theorem of_sub (w a b : Int) : ofV 2 w a b = (a - b) % pw w := by
  simp [ofV, opS, ringBad, ringU]
theorem of_mul (w a b : Int) : ofV 3 w a b = (a * b) % pw w := by
  simp [ofV, opS, ringBad, ringU, Int.mul_emod]

theorem ring_law (w a b c : Int) :
    ofV 1 w a b = ofV 1 w b a ∧ ofV 3 w a b = ofV 3 w b a ∧ ofV 2 w (ofV 1 w a b) b = a % pw w ∧
    ofV 3 w a (ofV 1 w b c) = ofV 1 w (ofV 3 w a b) (ofV 3 w a c) ∧ ofV 1 w (ofV 1 w a b) c = ofV 1 w a (ofV 1 w b c) ∧ ofV 2 w a b = ofV 1 w a (ofV 2 w 0 b) := by
  simp only [of_add, of_sub, of_mul]
  refine ⟨by rw [Int.add_comm], by rw [Int.mul_comm], ?_, ?_, ?_, ?_⟩
  · rw [Int.emod_sub_emod, Int.add_sub_cancel]
  · rw [Int.emod_add_emod, Int.add_emod_emod, ← Int.mul_add, Int.mul_emod, Int.emod_emod, ← Int.mul_emod]
  · rw [Int.emod_add_emod, Int.add_emod_emod, Int.add_assoc]
  · rw [Int.add_emod_emod]; congr 1; omega
end Go.Proofs.Ytamjcafjdioidaa
