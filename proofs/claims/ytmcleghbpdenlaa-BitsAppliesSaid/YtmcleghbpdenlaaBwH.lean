/- bits.Apply: every operation. No condition. -/
import Derived.Test.YtmcleghbpdenlaaBwG
namespace Go.Proofs.Ytmcleghbpdenlaa
open Go.RowKit
set_option linter.unusedSimpArgs false
set_option linter.unusedVariables false

theorem and_u {w n : Int} (h1 : 1 ≤ w) (h2 : w ≤ 64) : bits .and .u64 (n % 18446744073709551616) (pw w - 1) = n % pw w := by
  rw [and_mask (Int.emod_nonneg _ (by decide)) (by have := Int.emod_lt_of_pos n (show (0 : Int) < 18446744073709551616 by decide); omega) (by omega) h2, Int.emod_emod_of_dvd _ ⟨_, (pw_rest (by omega) h2).symm⟩]
theorem apply_pair {F : Nat} {op w f a b : Int} (p : Int × Int) {W : World} (h1 : 1 ≤ w) (h2 : w ≤ 64) (hf : badF op f = false) (ha : 0 ≤ a ∧ a ≤ 18446744073709551615) (hb : 0 ≤ b ∧ b ≤ 18446744073709551615)
    (hop : (1 ≤ op ∧ op ≤ 3 ∧ F = 47) ∨ (4 ≤ op ∧ op ≤ 7 ∧ F = 48) ∨ (11 ≤ op ∧ op ≤ 13 ∧ F = 49))
    (hc : ∀ W', Calls Try.prog F #[.int .i64 op, .int .i64 w, .int .i64 f, .int .u64 (a % pw w), .int .u64 (b % pw w)] W' fun e w' => e = .returned (pairV p) ∧ Below W'.heap.size W' w')
    (hs : fin p.2 (bits .and .u64 p.1 (pw w - 1)) = applyS op w f a b) :
    Calls Try.prog 27 #[.int .i64 op, .int .i64 w, .int .i64 f, .int .u64 a, .int .u64 b] W fun e w' => e = .returned (pairV (applyS op w f a b)) ∧ Below W.heap.size W w' := by
  rw [← hs]
  exact apply_call F op w f a b p.1 p.2 _ W h1 h2 hf ha hb hop rfl hc

set_option maxHeartbeats 1000000 in
theorem apply_group (op w f a b : Int) (W : World) (h1 : 1 ≤ w) (h2 : w ≤ 64) (hf : badF op f = false) (ha : 0 ≤ a ∧ a ≤ 18446744073709551615) (hb : 0 ≤ b ∧ b ≤ 18446744073709551615) (hop : (1 ≤ op ∧ op ≤ 7) ∨ (11 ≤ op ∧ op ≤ 13)) :
    Calls Try.prog 27 #[.int .i64 op, .int .i64 w, .int .i64 f, .int .u64 a, .int .u64 b] W fun e w' => e = .returned (pairV (applyS op w f a b)) ∧ Below W.heap.size W w' := by
  have hp := pw_pos w
  have hle := pw_le (w := w) (by omega) h2
  have hA : 0 ≤ a % pw w ∧ a % pw w < pw w := ⟨Int.emod_nonneg a (by omega), Int.emod_lt_of_pos a (by omega)⟩
  have hB : 0 ≤ b % pw w ∧ b % pw w < pw w := ⟨Int.emod_nonneg b (by omega), Int.emod_lt_of_pos b (by omega)⟩
  have hA' : 0 ≤ a % pw w ∧ a % pw w ≤ 18446744073709551615 := by omega
  have hB' : 0 ≤ b % pw w ∧ b % pw w ≤ 18446744073709551615 := by omega
  have hs := applyS_yes (op := op) (w := w) (f := f) (a := a) (b := b) h1 h2 (by omega) (by omega) hf
  have o1 : op = 1 ∨ op = 2 ∨ op = 3 ∨ (4 ≤ op ∧ op ≤ 7) ∨ (11 ≤ op ∧ op ≤ 13) := by omega
  have key : ∀ p : Int × Int, p.2 = 0 ∨ p.2 ≠ 0 ∧ p.1 = 0 → fin p.2 p.1 = p := fun p h => by
    obtain ⟨x, y⟩ := p
    unfold fin
    rcases h with h | ⟨h, h'⟩
    · simp only at h; rw [if_pos h, h]
    · simp only at h h'; rw [if_neg h, h']
  have hring : ∀ o : Int, 1 ≤ o → o ≤ 3 → applyS o w f a b = opS o w (pw w) (a % pw w) (b % pw w) (nuw f) (nsw f) (exa f) → fin (ringR o (pw w) (a % pw w) (b % pw w) f).2 (bits .and .u64 (ringR o (pw w) (a % pw w) (b % pw w) f).1 (pw w - 1)) = applyS o w f a b := fun o g1 g2 hs => by
    rw [hs]
    unfold opS ringR
    rw [if_pos (show o ≤ 3 by omega)]
    cases ringBad o (pw w) (a % pw w) (b % pw w) (nuw f) (nsw f)
    · simp only [Bool.false_eq_true, if_false]; rw [and_u h1 h2]; rfl
    · rfl
  rcases o1 with rfl | rfl | rfl | ⟨g1, g2⟩ | ⟨g1, g2⟩
  · exact apply_pair _ h1 h2 hf ha hb (.inl ⟨by omega, by omega, rfl⟩) (fun W' => (ring_add w f _ _ W' h1 h2 hA hB).mono fun e w' ⟨he, hw⟩ => ⟨he, hw ▸ Below.refl _ _⟩) (hring 1 (by omega) (by omega) hs)
  · exact apply_pair _ h1 h2 hf ha hb (.inl ⟨by omega, by omega, rfl⟩) (fun W' => (ring_sub w f _ _ W' h1 h2 hA hB).mono fun e w' ⟨he, hw⟩ => ⟨he, hw ▸ Below.refl _ _⟩) (hring 2 (by omega) (by omega) hs)
  · exact apply_pair _ h1 h2 hf ha hb (.inl ⟨by omega, by omega, rfl⟩) (fun W' => (ring_mul w f _ _ W' h1 h2 hA hB).mono fun e w' ⟨he, hw⟩ => ⟨he, hw ▸ Below.refl _ _⟩) (hring 3 (by omega) (by omega) hs)
  · by_cases hz : b % pw w = 0
    · refine apply_pair (0, 2) h1 h2 hf ha hb (.inr (.inl ⟨g1, g2, rfl⟩)) (fun W' => ?_) ?_
      · rw [hz]; exact (div_zero op w f _ W').mono fun e w' ⟨he, hw⟩ => ⟨he, hw ▸ Below.refl _ _⟩
      · rw [hs, hz]
        have : divOut op (pw w) (a % pw w) 0 = true := by simp [divOut]
        unfold opS; rw [if_neg (by omega), if_pos g2, if_pos this]; rfl
    · have hfin : fin (divRes op (pw w) (a % pw w) (b % pw w) f).2 (bits .and .u64 (divRes op (pw w) (a % pw w) (b % pw w) f).1 (pw w - 1)) = applyS op w f a b := by
        rw [hs]
        unfold opS divRes
        rw [if_neg (show ¬ op ≤ 3 by omega), if_pos g2]
        cases divOut op (pw w) (a % pw w) (b % pw w)
        · simp only [Bool.false_eq_true, if_false]
          by_cases h67 : op = 6 ∨ op = 7
          · rw [if_pos h67, if_pos h67]; simp only []; rw [and_u h1 h2]; rfl
          · rw [if_neg h67, if_neg h67]
            cases (exa f && divR op (pw w) (a % pw w) (b % pw w) != 0)
            · simp only [Bool.false_eq_true, if_false]; rw [and_u h1 h2]; rfl
            · rfl
        · rfl
      by_cases h46 : op = 4 ∨ op = 6
      · exact apply_pair _ h1 h2 hf ha hb (.inr (.inl ⟨g1, g2, rfl⟩)) (fun W' => div_plain op w f _ _ W' h1 h2 h46 hA' hB' hz) hfin
      · exact apply_pair _ h1 h2 hf ha hb (.inr (.inl ⟨g1, g2, rfl⟩)) (fun W' => div_sign op w f _ _ W' h1 h2 (by omega) hA hB hz) hfin
  · have hfin : fin (shRes op w (pw w) (a % pw w) (b % pw w) f).2 (bits .and .u64 (shRes op w (pw w) (a % pw w) (b % pw w) f).1 (pw w - 1)) = applyS op w f a b := by
      rw [hs]
      unfold opS shRes
      rw [if_neg (show ¬ op ≤ 3 by omega), if_neg (show ¬ op ≤ 7 by omega), if_neg (show ¬ op ≤ 10 by omega), if_pos g2]
      by_cases hw : w ≤ b % pw w
      · rw [if_pos hw, if_pos hw]; rfl
      · rw [if_neg hw, if_neg hw]
        cases shBad op (pw w) (a % pw w) (b % pw w) (nuw f) (nsw f) (exa f)
        · simp only [Bool.false_eq_true, if_false]; rw [and_u h1 h2]; rfl
        · rfl
    by_cases hw : w ≤ b % pw w
    · exact apply_pair _ h1 h2 hf ha hb (.inr (.inr ⟨g1, g2, rfl⟩)) (fun W' => shift_big op w f _ _ W' h1 h2 hw hB'.2) hfin
    · have o2 : op = 11 ∨ op = 12 ∨ op = 13 := by omega
      rcases o2 with rfl | rfl | rfl
      · exact apply_pair _ h1 h2 hf ha hb (.inr (.inr ⟨g1, g2, rfl⟩)) (fun W' => shift_shl w f _ _ W' h1 h2 hA ⟨hB.1, by omega⟩) hfin
      · exact apply_pair _ h1 h2 hf ha hb (.inr (.inr ⟨g1, g2, rfl⟩)) (fun W' => shift_lshr w f _ _ W' h1 h2 hA ⟨hB.1, by omega⟩) hfin
      · exact apply_pair _ h1 h2 hf ha hb (.inr (.inr ⟨g1, g2, rfl⟩)) (fun W' => shift_ashr w f _ _ W' h1 h2 hA ⟨hB.1, by omega⟩) hfin
end Go.Proofs.Ytmcleghbpdenlaa
