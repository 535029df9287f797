/- Numbers of twice 64 bits with a sign of their own, as the reference reckons; no program is in sight. No condition. -/
namespace Go.Proofs.Ytgkgmeofilkopaa
set_option linter.unusedSimpArgs false
set_option linter.unusedVariables false

structure Big where
  hi : Int
  lo : Int
  below : Bool
  deriving DecidableEq, Inhabited


/-- a whole number, as the reference lays it -/
def big (v : Int) : Big := ⟨v.natAbs / 18446744073709551616, v.natAbs % 18446744073709551616, decide (v < 0)⟩

/-- latheref01.less -/
def bless (a b : Big) : Bool := decide (a.hi < b.hi) || (a.hi == b.hi && decide (a.lo < b.lo))
/-- latheref01.fixed -/
def bfixed (a : Big) : Big := if a.hi = 0 ∧ a.lo = 0 then ⟨a.hi, a.lo, false⟩ else a
/-- latheref01.Minus -/
def bminus (a : Big) : Big := bfixed ⟨a.hi, a.lo, !a.below⟩
/-- latheref01.Plus, sizes of one sign -/
def badd (a b : Big) : Big := ⟨if (a.lo + b.lo) % 18446744073709551616 < a.lo then ((a.hi + b.hi) % 18446744073709551616 + 1) % 18446744073709551616 else (a.hi + b.hi) % 18446744073709551616, (a.lo + b.lo) % 18446744073709551616, a.below⟩
/-- latheref01.Plus, the greater size ahead -/
def bsub (a b : Big) : Big := bfixed ⟨if a.lo < b.lo then ((a.hi - b.hi) % 18446744073709551616 - 1) % 18446744073709551616 else (a.hi - b.hi) % 18446744073709551616, (a.lo - b.lo) % 18446744073709551616, a.below⟩
/-- latheref01.Plus -/
def bplus (a b : Big) : Big := if a.below = b.below then badd a b else if bless a b = true then bsub b a else bsub a b
/-- latheref01.Times -/
def btimes (a b : Big) : Big :=
  let p := a.lo / 4294967296
  let q := a.lo % 4294967296
  let r := b.lo / 4294967296
  let s := b.lo % 4294967296
  let mid := bplus ⟨0, p * s % 18446744073709551616, false⟩ ⟨0, q * r % 18446744073709551616, false⟩
  let up : Big := ⟨(mid.hi * 4294967296 % 18446744073709551616 + mid.lo / 4294967296) % 18446744073709551616, mid.lo % 4294967296 * 4294967296 % 18446744073709551616, false⟩
  let t := bplus (bplus ⟨0, q * s % 18446744073709551616, false⟩ up) ⟨p * r % 18446744073709551616, 0, false⟩
  bfixed ⟨t.hi, t.lo, a.below != b.below⟩
/-- latheref01.quotient -/
def bquo (x y : Big) : Big := bfixed ⟨0, x.lo / y.lo, x.below != y.below⟩
def brem (x y : Big) : Big := bfixed ⟨0, x.lo % y.lo, x.below⟩

theorem big_inj {u v : Int} (h : big u = big v) : u = v := by
  unfold big at h
  simp only [Big.mk.injEq, decide_eq_decide] at h
  omega
theorem big_0 {n : Int} (h : 0 ≤ n) (h' : n < 18446744073709551616) : big n = ⟨0, n, false⟩ := by
  unfold big
  simp only [Big.mk.injEq, decide_eq_false_iff_not]
  omega
theorem big_neg {n : Int} (h : n < 0) (h' : -18446744073709551616 < n) : big n = ⟨0, -n, true⟩ := by
  unfold big
  simp only [Big.mk.injEq, decide_eq_true_eq]
  omega
theorem big_lo {n : Int} (h' : -18446744073709551616 < n) (h : n < 18446744073709551616) : (big n).lo = n.natAbs := by
  unfold big; simp only; omega
theorem bfixed_of {hi lo : Int} {b : Bool} {v : Int} (h1 : hi = (v.natAbs : Int) / 18446744073709551616) (h2 : lo = (v.natAbs : Int) % 18446744073709551616) (h3 : v ≠ 0 → b = decide (v < 0)) : bfixed ⟨hi, lo, b⟩ = big v := by
  unfold bfixed big
  by_cases h0 : v = 0
  · subst h0
    simp at h1 h2
    simp [h1, h2]
  · rw [if_neg (by simp only; omega), h1, h2, h3 h0]
theorem bminus_big (v : Int) : bminus (big v) = big (-v) := by
  unfold bminus
  refine bfixed_of (by simp [big]) (by simp [big]) (fun h => ?_)
  simp only [big]
  rw [Bool.eq_iff_iff]; simp; omega
theorem bless_big (u v : Int) : bless (big u) (big v) = decide (u.natAbs < v.natAbs) := by
  unfold bless big
  rw [Bool.eq_iff_iff]
  simp only [Bool.or_eq_true, Bool.and_eq_true, decide_eq_true_eq, beq_iff_eq]
  omega
theorem badd_big {u v : Int} (hb : (big u).below = (big v).below) (hu : u.natAbs + v.natAbs < 340282366920938463463374607431768211456) : badd (big u) (big v) = big (u + v) := by
  simp only [big, decide_eq_decide] at hb
  dsimp only [badd, big]
  have e : (u + v).natAbs = u.natAbs + v.natAbs := by omega
  have s : decide (u < 0) = decide (u + v < 0) := by rw [decide_eq_decide]; omega
  rw [e, s]
  simp only [Big.mk.injEq, and_true]
  generalize u.natAbs = x at *
  generalize v.natAbs = y at *
  refine ⟨?_, by omega⟩
  by_cases hc : ((x : Int) % 18446744073709551616 + (y : Int) % 18446744073709551616) % 18446744073709551616 < (x : Int) % 18446744073709551616
  · rw [if_pos hc]; omega
  · rw [if_neg hc]; omega
theorem bsub_big {u v : Int} (hb : (big u).below ≠ (big v).below) (hu : v.natAbs ≤ u.natAbs) (hs : u.natAbs < 340282366920938463463374607431768211456) : bsub (big u) (big v) = big (u + v) := by
  simp only [big, ne_eq, decide_eq_decide] at hb
  dsimp only [bsub, big]
  have e : ((u + v).natAbs : Int) = u.natAbs - v.natAbs := by omega
  refine bfixed_of ?_ ?_ (fun h => ?_)
  · rw [e]
    generalize u.natAbs = x at *
    generalize v.natAbs = y at *
    by_cases hc : (x : Int) % 18446744073709551616 < (y : Int) % 18446744073709551616
    · rw [if_pos hc]; omega
    · rw [if_neg hc]; omega
  · rw [e]; omega
  · rw [decide_eq_decide]; omega
theorem bplus_big {u v : Int} (h : u.natAbs + v.natAbs < 340282366920938463463374607431768211456) : bplus (big u) (big v) = big (u + v) := by
  unfold bplus
  split
  · rename_i hb; exact badd_big hb h
  · rename_i hb
    rw [bless_big]
    split
    · rename_i hl; rw [bsub_big (fun e => hb e.symm) (by have := of_decide_eq_true hl; omega) (by omega), Int.add_comm]
    · rename_i hl; exact bsub_big hb (by simp at hl; omega) (by omega)
theorem bquo_big {u v : Int} (hu : u.natAbs < 18446744073709551616) (hv : v.natAbs < 18446744073709551616) (h0 : v ≠ 0) : bquo (big u) (big v) = big (u.tdiv v) := by
  have e : (u.tdiv v).natAbs = u.natAbs / v.natAbs := Int.natAbs_tdiv u v
  unfold bquo
  have hle : u.natAbs / v.natAbs ≤ u.natAbs := Nat.div_le_self _ _
  refine bfixed_of (by rw [e]; omega) ?_ (fun h => ?_)
  · rw [e, big_lo (by omega) (by omega), big_lo (by omega) (by omega), ← Int.natCast_ediv]; omega
  · simp only [big]
    have hs := Int.sign_tdiv u v
    rw [Bool.eq_iff_iff]
    simp only [bne_iff_ne, ne_eq, decide_eq_decide, decide_eq_true_eq]
    have hn : ¬ u.natAbs < v.natAbs := fun hlt => h (by have := Nat.div_eq_of_lt hlt; omega)
    rw [if_neg hn] at hs
    have hu0 : u ≠ 0 := by rintro rfl; simp at h
    rcases Int.lt_or_gt_of_ne hu0 with h1 | h1 <;> rcases Int.lt_or_gt_of_ne h0 with h2 | h2
    · rw [Int.sign_eq_neg_one_of_neg h1, Int.sign_eq_neg_one_of_neg h2] at hs
      have : (u.tdiv v).sign = 1 := by simpa using hs
      have := Int.pos_of_sign_eq_one this
      omega
    · rw [Int.sign_eq_neg_one_of_neg h1, Int.sign_eq_one_of_pos h2] at hs
      have : (u.tdiv v).sign = -1 := by simpa using hs
      have := Int.neg_of_sign_eq_neg_one this
      omega
    · rw [Int.sign_eq_one_of_pos h1, Int.sign_eq_neg_one_of_neg h2] at hs
      have : (u.tdiv v).sign = -1 := by simpa using hs
      have := Int.neg_of_sign_eq_neg_one this
      omega
    · rw [Int.sign_eq_one_of_pos h1, Int.sign_eq_one_of_pos h2] at hs
      have : (u.tdiv v).sign = 1 := by simpa using hs
      have := Int.pos_of_sign_eq_one this
      omega
theorem brem_big {u v : Int} (hu : u.natAbs < 18446744073709551616) (hv : v.natAbs < 18446744073709551616) (h0 : v ≠ 0) : brem (big u) (big v) = big (u.tmod v) := by
  have e : (u.tmod v).natAbs = u.natAbs % v.natAbs := Int.natAbs_tmod u v
  unfold brem
  have hle : u.natAbs % v.natAbs ≤ u.natAbs := Nat.mod_le _ _
  refine bfixed_of (by rw [e]; omega) ?_ (fun h => ?_)
  · rw [e, big_lo (by omega) (by omega), big_lo (by omega) (by omega), ← Int.natCast_emod]; omega
  · simp only [big]
    rw [decide_eq_decide]
    rcases Int.lt_or_le u 0 with h1 | h1
    · have := Int.tmod_nonneg v (a := -u) (by omega)
      rw [Int.neg_tmod] at this
      omega
    · have := Int.tmod_nonneg v h1
      omega

theorem half_div (p q : Nat) (hq : q < 4294967296) : ((p * 4294967296 + q : Nat) : Int) / 4294967296 = p := by omega
theorem half_mod (p q : Nat) (hq : q < 4294967296) : ((p * 4294967296 + q : Nat) : Int) % 4294967296 = q := by omega
theorem mul_le4 {a b : Nat} (ha : a < 4294967296) (hb : b < 4294967296) : a * b ≤ 18446744065119617025 :=
  by
  have := Nat.mul_le_mul (show a ≤ 4294967295 by omega) (show b ≤ 4294967295 by omega)
  omega
theorem btimes_big {u v : Int} (hu : u.natAbs < 18446744073709551616) (hv : v.natAbs < 18446744073709551616) : btimes (big u) (big v) = big (u * v) := by
  unfold btimes
  rw [big_lo (by omega) (by omega), big_lo (by omega) (by omega)]
  have e : (u * v).natAbs = u.natAbs * v.natAbs := Int.natAbs_mul u v
  have hb : (big u).below ≠ (big v).below → u * v ≤ 0 := fun h => by
    simp only [big, ne_eq, decide_eq_decide] at h
    rcases Int.lt_or_le u 0 with h1 | h1
    · exact Int.mul_nonpos_of_nonpos_of_nonneg (by omega) (by omega)
    · exact Int.mul_nonpos_of_nonneg_of_nonpos h1 (by omega)
  have hb' : (big u).below = (big v).below → 0 ≤ u * v := fun h => by
    simp only [big, decide_eq_decide] at h
    rcases Int.lt_or_le u 0 with h1 | h1
    · exact Int.mul_nonneg_of_nonpos_of_nonpos (by omega) (by omega)
    · exact Int.mul_nonneg h1 (by omega)
  generalize hx : u.natAbs = x at *
  generalize hy : v.natAbs = y at *
  obtain ⟨p, q, hp, hq, rfl⟩ : ∃ p q : Nat, p < 4294967296 ∧ q < 4294967296 ∧ x = p * 4294967296 + q := ⟨x / 4294967296, x % 4294967296, by omega, by omega, by omega⟩
  obtain ⟨r, s, hr, hs, rfl⟩ : ∃ p q : Nat, p < 4294967296 ∧ q < 4294967296 ∧ y = p * 4294967296 + q := ⟨y / 4294967296, y % 4294967296, by omega, by omega, by omega⟩
  have e1 : ((p * 4294967296 + q : Nat) : Int) / 4294967296 = p := half_div _ _ hq
  have e2 : ((p * 4294967296 + q : Nat) : Int) % 4294967296 = q := half_mod _ _ hq
  have e3 : ((r * 4294967296 + s : Nat) : Int) / 4294967296 = r := half_div _ _ hs
  have e4 : ((r * 4294967296 + s : Nat) : Int) % 4294967296 = s := half_mod _ _ hs
  simp only [e1, e2, e3, e4]
  have m1 : p * s ≤ 18446744065119617025 := mul_le4 (by omega) (by omega)
  have m2 : q * r ≤ 18446744065119617025 := mul_le4 (by omega) (by omega)
  have m3 : q * s ≤ 18446744065119617025 := mul_le4 (by omega) (by omega)
  have m4 : p * r ≤ 18446744065119617025 := mul_le4 (by omega) (by omega)
  have tot : (p * 4294967296 + q) * (r * 4294967296 + s) = p * r * 18446744073709551616 + (p * s + q * r) * 4294967296 + q * s := by
    rw [Nat.add_mul, Nat.mul_add, Nat.mul_add]
    have a1 : p * 4294967296 * (r * 4294967296) = p * r * 18446744073709551616 := by
      rw [Nat.mul_mul_mul_comm]
    have a2 : p * 4294967296 * s = p * s * 4294967296 := by rw [Nat.mul_right_comm]
    have a3 : q * (r * 4294967296) = q * r * 4294967296 := by rw [Nat.mul_assoc]
    rw [a1, a2, a3, Nat.add_mul]
    omega
  rw [tot] at e
  have c1 : (p : Int) * s = ((p * s : Nat) : Int) := by simp
  have c2 : (q : Int) * r = ((q * r : Nat) : Int) := by simp
  have c3 : (q : Int) * s = ((q * s : Nat) : Int) := by simp
  have c4 : (p : Int) * r = ((p * r : Nat) : Int) := by simp
  simp only [c1, c2, c3, c4]
  generalize p * s = ps at *
  generalize q * r = qr at *
  generalize q * s = qs at *
  generalize p * r = pr at *
  rw [← big_0 (n := (ps : Int) % 18446744073709551616) (by omega) (by omega), ← big_0 (n := (qr : Int) % 18446744073709551616) (by omega) (by omega), bplus_big (by omega)]
  have g1 : (⟨((big ((ps : Int) % 18446744073709551616 + (qr : Int) % 18446744073709551616)).hi * 4294967296 % 18446744073709551616 + (big ((ps : Int) % 18446744073709551616 + (qr : Int) % 18446744073709551616)).lo / 4294967296) % 18446744073709551616, (big ((ps : Int) % 18446744073709551616 + (qr : Int) % 18446744073709551616)).lo % 4294967296 * 4294967296 % 18446744073709551616, false⟩ : Big) = big ((ps + qr) * 4294967296) := by
    simp only [big, Big.mk.injEq]
    refine ⟨?_, ?_, ?_⟩
    · omega
    · omega
    · simp; omega
  rw [g1, ← big_0 (n := (qs : Int) % 18446744073709551616) (by omega) (by omega), bplus_big (by omega)]
  have g2 : (⟨(pr : Int) % 18446744073709551616, 0, false⟩ : Big) = big (pr * 18446744073709551616) := by
    simp only [big, Big.mk.injEq]
    refine ⟨?_, ?_, ?_⟩
    · omega
    · omega
    · simp; omega
  rw [g2, bplus_big (by omega)]
  refine bfixed_of ?_ ?_ (fun h => ?_)
  · rw [e]; simp only [big]; omega
  · rw [e]; simp only [big]; omega
  · by_cases hbb : (big u).below = (big v).below
    · have := hb' hbb
      rw [hbb, bne_self_eq_false]
      symm; rw [decide_eq_false_iff_not]; omega
    · have := hb hbb
      have e2 : ((big u).below != (big v).below) = true := by rw [bne_iff_ne]; exact hbb
      rw [e2]; symm; rw [decide_eq_true_eq]; omega
end Go.Proofs.Ytgkgmeofilkopaa
