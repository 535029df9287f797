/- bits.Apply: And, Or, Xor and the comparisons, walked. No condition. -/
import Derived.Test.YtmcleghbpdenlaaBwH
namespace Go.Proofs.Ytmcleghbpdenlaa
open Go.RowKit
set_option linter.unusedSimpArgs false
set_option linter.unusedVariables false

theorem nat_of {n : Int} (h : 0 ≤ n) : ∃ k : Nat, n = k := ⟨n.toNat, by omega⟩
theorem log_eq {op : Int} {A B : Int} (hop : op = 8 ∨ op = 9 ∨ op = 10) (hA : 0 ≤ A ∧ A ≤ 18446744073709551615) (hB : 0 ≤ B ∧ B ≤ 18446744073709551615) :
    (if op = 8 then bits .and .u64 A B else if op = 9 then bits .or .u64 A B else bits .xor .u64 A B) = logV op A B := by
  obtain ⟨a, rfl⟩ := nat_of hA.1
  obtain ⟨b, rfl⟩ := nat_of hB.1
  rcases hop with rfl | rfl | rfl
  · exact bits_and_u64_nat a b (by omega) (by omega)
  · exact bits_or_u64_nat a b (by omega) (by omega)
  · exact bits_xor_u64_nat a b (by omega) (by omega)
theorem log_lt {op w A B : Int} (hA : 0 ≤ A ∧ A < pw w) (hB : 0 ≤ B ∧ B < pw w) : 0 ≤ logV op A B ∧ logV op A B < pw w := by
  have e := pw_nat w
  have h1 : A.toNat < 2 ^ w.toNat := by omega
  have h2 : B.toNat < 2 ^ w.toNat := by omega
  have g1 := Nat.and_lt_two_pow A.toNat h2
  have g2 := Nat.or_lt_two_pow h1 h2
  have g3 := Nat.xor_lt_two_pow h1 h2
  unfold logV
  split
  · omega
  · split <;> omega
theorem log_fin (op : Int) {w a b : Int} {n1 n2 n3 : Bool} (h1 : 1 ≤ w) (h2 : w ≤ 64) (hop : op = 8 ∨ op = 9 ∨ op = 10) :
    opS op w (pw w) (a % pw w) (b % pw w) n1 n2 n3 = (bits .and .u64 (if op = 8 then bits .and .u64 (a % pw w) (b % pw w) else if op = 9 then bits .or .u64 (a % pw w) (b % pw w) else bits .xor .u64 (a % pw w) (b % pw w)) (pw w - 1), 0) := by
  have hp := pw_pos w
  have hle := pw_le (w := w) (by omega) h2
  have hA : 0 ≤ a % pw w ∧ a % pw w < pw w := ⟨Int.emod_nonneg a (by omega), Int.emod_lt_of_pos a (by omega)⟩
  have hB : 0 ≤ b % pw w ∧ b % pw w < pw w := ⟨Int.emod_nonneg b (by omega), Int.emod_lt_of_pos b (by omega)⟩
  have hl := log_lt (op := op) hA hB
  rw [log_eq hop (by omega) (by omega), and_mask hl.1 (by omega) (by omega) h2, Int.emod_eq_of_lt hl.1 hl.2]
  unfold opS
  rw [if_neg (by omega), if_neg (by omega), if_pos (by omega)]
theorem cmp_yes {op w a b : Int} {n1 n2 n3 : Bool} (h1 : 1 ≤ w) (h2 : w ≤ 64) (hop : 14 ≤ op) (h : cmpB op (pw w) (a % pw w) (b % pw w) = true) : opS op w (pw w) (a % pw w) (b % pw w) n1 n2 n3 = (bits .and .u64 1 (pw w - 1), 0) := by
  obtain ⟨hM, hH, hw⟩ := wid h1 h2
  rw [and_mask (a := 1) (by decide) (by decide) (by omega) h2, Int.emod_eq_of_lt (show (0 : Int) ≤ 1 by decide) (show 1 < pw w by omega)]
  unfold opS
  rw [if_neg (by omega), if_neg (by omega), if_neg (by omega), if_neg (by omega), if_pos h]
theorem cmp_no {op w a b : Int} {n1 n2 n3 : Bool} (h1 : 1 ≤ w) (h2 : w ≤ 64) (hop : 14 ≤ op) (h : cmpB op (pw w) (a % pw w) (b % pw w) = false) : opS op w (pw w) (a % pw w) (b % pw w) n1 n2 n3 = (bits .and .u64 0 (pw w - 1), 0) := by
  have hp := pw_pos w
  rw [and_mask (a := 0) (by decide) (by decide) (by omega) h2, Int.emod_eq_of_lt (show (0 : Int) ≤ 0 by decide) (show 0 < pw w by omega)]
  unfold opS
  rw [if_neg (by omega), if_neg (by omega), if_neg (by omega), if_neg (by omega), if_neg (by rw [h]; decide)]
theorem log_and {A B : Int} (hA : 0 ≤ A ∧ A ≤ 18446744073709551615) (hB : 0 ≤ B ∧ B ≤ 18446744073709551615) : bits .and .u64 A B = logV 8 A B := by
  obtain ⟨a, rfl⟩ := nat_of hA.1
  obtain ⟨b, rfl⟩ := nat_of hB.1
  rw [bits_and_u64_nat a b (by omega) (by omega)]; rfl

set_option maxRecDepth 100000 in
set_option maxHeartbeats 2000000 in
theorem apply_log (op w f a b : Int) (W : World) (h1 : 1 ≤ w) (h2 : w ≤ 64) (hf : badF op f = false) (ha : 0 ≤ a ∧ a ≤ 18446744073709551615) (hb : 0 ≤ b ∧ b ≤ 18446744073709551615) (hop : op = 8 ∨ op = 9 ∨ op = 10) :
    Calls Try.prog 27 #[.int .i64 op, .int .i64 w, .int .i64 f, .int .u64 a, .int .u64 b] W fun e w' => e = .returned (pairV (applyS op w f a b)) ∧ Below W.heap.size W w' := by
  obtain ⟨hM, hH, hw⟩ := wid h1 h2
  have hm : (pw w - 1 == 0) = false := beq_eq_false_iff_ne.2 (by omega)
  clear hM hH hw
  have a1 : bits .and .u64 a (pw w - 1) = a % pw w := and_mask ha.1 ha.2 (by omega) h2
  have b1 : bits .and .u64 b (pw w - 1) = b % pw w := and_mask hb.1 hb.2 (by omega) h2
  have hs := hide (applyS_yes (op := op) (w := w) (f := f) (a := a) (b := b) h1 h2 (by omega) (by omega) hf)
  have hf' : (bits .andNot .i64 f (flagsOf op) != 0) = false := hf
  clear hf
  rcases hop with rfl | rfl | rfl
  all_goals
    go_enter Try.func27, Try.ntmps27
    go_wp2_with (first | (go_at_call 32; refine (mask_ok w _ h1 h2).mono ?_; rintro e w' ⟨rfl, rfl⟩) | (go_at_call 29; refine (flags_any _ _).mono ?_; rintro e w' ⟨rfl, rfl⟩))
    go_ret2
    refine ⟨ret_pair (hs.out.trans ?_), (Below.refl _ _).alloc (Nat.le_refl _) _⟩
    first
      | exact log_fin 8 h1 h2 (.inl rfl)
      | exact log_fin 9 h1 h2 (.inr (.inl rfl))
      | exact log_fin 10 h1 h2 (.inr (.inr rfl))
set_option maxRecDepth 100000 in
set_option maxHeartbeats 2000000 in
theorem apply_cmp (op w f a b : Int) (W : World) (h1 : 1 ≤ w) (h2 : w ≤ 64) (hf : badF op f = false) (ha : 0 ≤ a ∧ a ≤ 18446744073709551615) (hb : 0 ≤ b ∧ b ≤ 18446744073709551615) (hop : op = 14 ∨ op = 15 ∨ op = 16 ∨ op = 17 ∨ op = 18 ∨ op = 19) :
    Calls Try.prog 27 #[.int .i64 op, .int .i64 w, .int .i64 f, .int .u64 a, .int .u64 b] W fun e w' => e = .returned (pairV (applyS op w f a b)) ∧ Below W.heap.size W w' := by
  obtain ⟨hM, hH, hw⟩ := wid h1 h2
  have hm : (pw w - 1 == 0) = false := beq_eq_false_iff_ne.2 (by omega)
  clear hM hH hw
  have a1 : bits .and .u64 a (pw w - 1) = a % pw w := and_mask ha.1 ha.2 (by omega) h2
  have b1 : bits .and .u64 b (pw w - 1) = b % pw w := and_mask hb.1 hb.2 (by omega) h2
  have hs := hide (applyS_yes (op := op) (w := w) (f := f) (a := a) (b := b) h1 h2 (by omega) (by omega) hf)
  have hf' : (bits .andNot .i64 f (flagsOf op) != 0) = false := hf
  clear hf
  rcases hop with rfl | rfl | rfl | rfl | rfl | rfl
  all_goals
    go_enter Try.func27, Try.ntmps27
    go_wp2_with (first | (go_at_call 32; refine (mask_ok w _ h1 h2).mono ?_; rintro e w' ⟨rfl, rfl⟩) | (go_at_call 29; refine (flags_any _ _).mono ?_; rintro e w' ⟨rfl, rfl⟩) | (go_at_call 34; refine (signed_ok w _ _ h1 h2).mono ?_; rintro e w' ⟨rfl, rfl⟩))
    all_goals go_ret2
    all_goals
      rename_i q
      refine ⟨ret_pair (hs.out.trans ?_), (Below.refl _ _).alloc (Nat.le_refl _) _⟩
      first
        | exact cmp_yes h1 h2 (by decide) (by simp [cmpB]; first | exact q | exact of_decide_eq_true q | simpa [sg_cut] using q | omega)
        | exact cmp_no h1 h2 (by decide) (by simp [cmpB]; first | exact q | exact of_decide_eq_false q | simpa [sg_cut] using q | omega)
        | (trace_state; exfalso)
end Go.Proofs.Ytmcleghbpdenlaa
