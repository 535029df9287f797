/- Layer 9: values and their bytes; no program is in sight. No condition. -/
import Derived.Test.YtgkgmeofilkopaaMwA
namespace Go.Proofs.Ytgkgmeofilkopaa
set_option linter.unusedSimpArgs false
set_option linter.unusedVariables false

abbrev noV : Val := ⟨0, 0, 0, 0⟩
/-- byte number i of a normed value -/
def byteS (t : Int) (x : Val) (i : Nat) : Byt :=
  if x.kind = 1 then ⟨1, x.bits / 256 ^ i % 256, 0, 0, 0⟩ else if x.kind = 2 then ⟨2, 0, x.block, x.off, i⟩ else if x.kind = 3 ∧ t ≠ 65 then ⟨3, 0, 0, 0, 0⟩ else ⟨0, 0, 0, 0, 0⟩
/-- mem.Pack, latheref09.Pack -/
def packS (t : Int) (v : Val) : List Byt := (List.range (countS t).toNat).map (byteS t (normS t v))
def bitsOf : List Byt → Int
  | [] => 0
  | b :: l => b.bits + 256 * bitsOf l
def okAddr (b0 : Byt) : Nat → List Byt → Bool
  | _, [] => true
  | i, b :: l => (b.kind == 2 && b.block == b0.block && b.off == b0.off && b.i == (i : Int)) && okAddr b0 (i + 1) l
/-- mem.Unpack, latheref09.Unpack -/
def unpackS (t : Int) (l : List Byt) : Val :=
  if countS t = 0 ∨ countS t ≠ l.length then noV
  else if t = 65 then (if okAddr (l.headD default) 0 l = true then ⟨2, 0, (l.headD default).block, (l.headD default).off⟩ else noV)
  else if (l.all fun b => b.kind == 1 || b.kind == 3) = true then (if (l.any fun b => b.kind == 3) = true then ⟨3, 0, 0, 0⟩ else ⟨1, bitsOf l % pw t, 0, 0⟩) else noV

theorem packS_len (t : Int) (v : Val) : (packS t v).length = (countS t).toNat := by simp [packS]
theorem countS_le (t : Int) : 0 ≤ countS t ∧ countS t ≤ 8 := by unfold countS; split; omega; split <;> omega
theorem digits (n : Nat) : ∀ b : Nat, bitsOf ((List.range n).map fun i => (⟨1, (b : Int) / 256 ^ i % 256, 0, 0, 0⟩ : Byt)) = ((b % 256 ^ n : Nat) : Int) := by
  induction n with
  | zero => intro b; simp [bitsOf, Nat.mod_one]
  | succ n ih =>
    intro b
    rw [List.range_succ_eq_map, List.map_cons, List.map_map, bitsOf]
    have e : ((fun i => (⟨1, (b : Int) / 256 ^ i % 256, 0, 0, 0⟩ : Byt)) ∘ Nat.succ) = fun i => (⟨1, ((b / 256 : Nat) : Int) / 256 ^ i % 256, 0, 0, 0⟩ : Byt) := by
      funext i
      simp only [Function.comp_apply, Byt.mk.injEq, and_true, true_and]
      have h1 : ((b / 256 : Nat) : Int) = (b : Int) / 256 := by simp
      rw [h1, Int.pow_succ, Int.mul_comm, Int.ediv_ediv_of_nonneg (by decide)]
    rw [e, ih, Nat.pow_succ, Nat.mul_comm, Nat.mod_mul]
    simp
theorem okAddr_map (x y : Int) : ∀ (n k : Nat), okAddr ⟨2, 0, x, y, 0⟩ k ((List.range' k n).map fun i : Nat => (⟨2, 0, x, y, (i : Int)⟩ : Byt)) = true := by
  intro n
  induction n with
  | zero => intro k; simp [okAddr]
  | succ n ih => intro k; rw [List.range'_succ, List.map_cons, okAddr, ih]; simp
theorem pw_256 {t : Int} (h1 : 1 ≤ t) (h2 : t ≤ 64) : pw t ≤ ((256 ^ (countS t).toNat : Nat) : Int) := by
  have e : countS t = (t + 7) / 8 := by unfold countS; rw [if_neg (by omega), if_pos ⟨h1, h2⟩]
  have hn : t.toNat ≤ 8 * (countS t).toNat := by omega
  rw [pw_nat]
  have : 2 ^ t.toNat ≤ 256 ^ (countS t).toNat := by
    rw [show (256 : Nat) = 2 ^ 8 from rfl, ← Nat.pow_mul]
    exact Nat.pow_le_pow_right (by decide) hn
  exact_mod_cast this
theorem all_map {n : Nat} (f : Nat → Byt) (p : Byt → Bool) (h : ∀ i, p (f i) = true) : ((List.range n).map f).all p = true := by simp [h]
theorem any_map_no {n : Nat} (f : Nat → Byt) (p : Byt → Bool) (h : ∀ i, p (f i) = false) : ((List.range n).map f).any p = false := by simp [h]
theorem range_head {n : Nat} (f : Nat → Byt) (h : n ≠ 0) : ∃ l, (List.range n).map f = f 0 :: l := by
  obtain ⟨m, rfl⟩ := Nat.exists_eq_succ_of_ne_zero h
  exact ⟨_, by rw [List.range_succ_eq_map, List.map_cons]⟩
theorem norm_other {t : Int} {v : Val} (h : ¬ ((1 ≤ t ∧ t ≤ 64) ∧ v.kind = 1)) (h2 : ¬ (t = 65 ∧ v.kind = 2)) (h3 : ¬ ((1 ≤ t ∧ t ≤ 65) ∧ v.kind = 3)) : normS t v = noV := by
  unfold normS; rw [if_neg h, if_neg h2, if_neg h3]
theorem back_law (t : Int) (v : Val) (hb : 0 ≤ v.bits) : unpackS t (packS t v) = if t = 65 ∧ v.kind = 3 then noV else normS t v := by
  have hl : ((packS t v).length : Int) = countS t := by rw [packS_len]; have := countS_le t; omega
  by_cases h0 : countS t = 0
  · have ht : t < 1 ∨ 65 < t := by
      by_cases g : t < 1 ∨ 65 < t
      · exact g
      · exfalso; unfold countS at h0; split at h0; omega; split at h0 <;> omega
    rw [unpackS, if_pos (.inl h0), if_neg (by omega), norm_other (by omega) (by omega) (by omega)]
  have hn : (countS t).toNat ≠ 0 := by have := countS_le t; omega
  rw [unpackS, if_neg (by omega)]
  by_cases h65 : t = 65
  · subst h65
    rw [if_pos rfl]
    by_cases hk2 : v.kind = 2
    · have e : normS 65 v = ⟨2, 0, v.block, v.off⟩ := by unfold normS; rw [if_neg (by omega), if_pos ⟨rfl, hk2⟩]
      have er : (if (65 : Int) = 65 ∧ v.kind = 3 then noV else normS 65 v) = ⟨2, 0, v.block, v.off⟩ := by rw [if_neg (by omega), e]
      rw [er, packS, e]
      simp [countS, byteS, List.range_succ_eq_map, okAddr]
    · obtain ⟨l, hl⟩ := range_head (byteS 65 (normS 65 v)) hn
      have e0 : byteS 65 (normS 65 v) 0 = ⟨0, 0, 0, 0, 0⟩ := by
        by_cases hk3 : v.kind = 3
        · have e : normS 65 v = ⟨3, 0, 0, 0⟩ := by unfold normS; rw [if_neg (by omega), if_neg (by omega), if_pos (by omega)]
          rw [e]; simp [byteS]
        · rw [norm_other (by omega) (by omega) (by omega)]; simp [byteS]
      have e1 : (if (65 : Int) = 65 ∧ v.kind = 3 then noV else normS 65 v) = noV := by
        by_cases hk3 : v.kind = 3
        · rw [if_pos ⟨rfl, hk3⟩]
        · rw [if_neg (by omega), norm_other (by omega) (by omega) (by omega)]
      rw [e1, packS, hl, e0]
      simp [okAddr]
  · have ht : 1 ≤ t ∧ t ≤ 64 := by
      unfold countS at h0
      rw [if_neg h65] at h0
      by_cases g : 1 ≤ t ∧ t ≤ 64
      · exact g
      · rw [if_neg g] at h0; exact absurd rfl h0
    have er : (if t = 65 ∧ v.kind = 3 then noV else normS t v) = normS t v := if_neg (by omega)
    rw [if_neg h65, er]
    by_cases hk1 : v.kind = 1
    · have e : normS t v = ⟨1, v.bits % pw t, 0, 0⟩ := if_pos ⟨ht, hk1⟩
      have hp := pw_pos t
      have b0 := Int.emod_nonneg v.bits (show pw t ≠ 0 by omega)
      have b1 := Int.emod_lt_of_pos v.bits (show 0 < pw t by omega)
      have hle := pw_256 ht.1 ht.2
      obtain ⟨b, hbn⟩ : ∃ b : Nat, v.bits % pw t = (b : Int) := ⟨(v.bits % pw t).toNat, by omega⟩
      have ep : packS t v = (List.range (countS t).toNat).map fun i : Nat => (⟨1, (b : Int) / 256 ^ i % 256, 0, 0, 0⟩ : Byt) := by
        rw [packS, e, hbn]; rfl
      have ed := digits (countS t).toNat b
      rw [e, ep, if_pos (all_map _ _ (fun i => rfl)), if_neg (by rw [any_map_no _ _ (fun i => rfl)]; decide), ed, hbn]
      rw [hbn] at b1
      have : b % 256 ^ (countS t).toNat = b := Nat.mod_eq_of_lt (by omega)
      rw [this, Int.emod_eq_of_lt (by omega) b1]
    · by_cases hk3 : v.kind = 3
      · have e : normS t v = ⟨3, 0, 0, 0⟩ := by unfold normS; rw [if_neg (by omega), if_neg (by omega), if_pos (by omega)]
        have ep : packS t v = (List.range (countS t).toNat).map fun _ : Nat => (⟨3, 0, 0, 0, 0⟩ : Byt) := by
          rw [packS, e]; congr 1; funext i; simp [byteS, h65]
        obtain ⟨l, hl'⟩ := range_head (fun _ : Nat => (⟨3, 0, 0, 0, 0⟩ : Byt)) hn
        rw [e, ep, if_pos (all_map _ _ (fun i => rfl)), if_pos (by rw [hl']; simp)]
      · have e : normS t v = noV := norm_other (by omega) (by omega) (by omega)
        have ep : packS t v = (List.range (countS t).toNat).map fun _ : Nat => (⟨0, 0, 0, 0, 0⟩ : Byt) := by
          rw [packS, e]; rfl
        obtain ⟨l, hl'⟩ := range_head (fun _ : Nat => (⟨0, 0, 0, 0, 0⟩ : Byt)) hn
        rw [e, ep, if_neg (by rw [hl']; simp)]
theorem norm_norm (t : Int) (v : Val) : normS t (normS t v) = normS t v := by
  by_cases c1 : (1 ≤ t ∧ t ≤ 64) ∧ v.kind = 1
  · have e : normS t v = ⟨1, v.bits % pw t, 0, 0⟩ := if_pos c1
    have e2 : normS t ⟨1, v.bits % pw t, 0, 0⟩ = ⟨1, v.bits % pw t % pw t, 0, 0⟩ := if_pos ⟨c1.1, rfl⟩
    rw [e, e2, Int.emod_emod_of_dvd _ (Int.dvd_refl _)]
  by_cases c2 : t = 65 ∧ v.kind = 2
  · have e : normS t v = ⟨2, 0, v.block, v.off⟩ := by unfold normS; rw [if_neg c1, if_pos c2]
    have e2 : normS t ⟨2, 0, v.block, v.off⟩ = ⟨2, 0, v.block, v.off⟩ := by unfold normS; rw [if_neg (by simp), if_pos ⟨c2.1, rfl⟩]
    rw [e, e2]
  by_cases c3 : (1 ≤ t ∧ t ≤ 65) ∧ v.kind = 3
  · have e : normS t v = ⟨3, 0, 0, 0⟩ := by unfold normS; rw [if_neg c1, if_neg c2, if_pos c3]
    have e2 : normS t ⟨3, 0, 0, 0⟩ = ⟨3, 0, 0, 0⟩ := by unfold normS; rw [if_neg (by simp), if_neg (by simp), if_pos ⟨c3.1, rfl⟩]
    rw [e, e2]
  · have e : normS t v = noV := norm_other c1 c2 c3
    have e2 : normS t noV = noV := norm_other (by simp) (by simp) (by simp)
    rw [e, e2]
theorem norm_bits (t : Int) (v : Val) (hv : 0 ≤ v.bits ∧ v.bits ≤ 18446744073709551615) : 0 ≤ (normS t v).bits ∧ (normS t v).bits ≤ 18446744073709551615 := by
  unfold normS
  split
  · have h1 := Int.emod_nonneg v.bits (show pw t ≠ 0 by have := pw_pos t; omega)
    have h2 : v.bits % pw t ≤ v.bits := by
      by_cases h : v.bits < pw t
      · rw [Int.emod_eq_of_lt hv.1 h]; exact Int.le_refl _
      · have := Int.emod_lt_of_pos v.bits (show 0 < pw t by have := pw_pos t; omega); omega
    exact ⟨h1, Int.le_trans h2 hv.2⟩
  · split
    · exact ⟨Int.le_refl _, by show (0 : Int) ≤ _; decide⟩
    · split
      · exact ⟨Int.le_refl _, by show (0 : Int) ≤ _; decide⟩
      · exact ⟨Int.le_refl _, by show (0 : Int) ≤ _; decide⟩
end Go.Proofs.Ytgkgmeofilkopaa
