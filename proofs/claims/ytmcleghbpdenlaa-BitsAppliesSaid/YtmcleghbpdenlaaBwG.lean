/- bits.Apply, walked. No condition. -/
import Derived.Test.YtmcleghbpdenlaaBwC
import Derived.Test.YtmcleghbpdenlaaBwE
import Derived.Test.YtmcleghbpdenlaaBwF
import Derived.Test.YtmcleghbpdenlaaBmE
namespace Go.Proofs.Ytmcleghbpdenlaa
open Go.RowKit
set_option linter.unusedSimpArgs false
set_option linter.unusedVariables false

def badF (op f : Int) : Bool := bits .andNot .i64 f (flagsOf op) != 0
/-- bits.Apply, latheref01.Apply -/
def applyS (op w f a b : Int) : Int × Int :=
  if w < 1 ∨ 64 < w ∨ op < 1 ∨ 19 < op ∨ badF op f = true then (0, 3) else opS op w (pw w) (a % pw w) (b % pw w) (nuw f) (nsw f) (exa f)
theorem applyS_no {op w f a b : Int} (h : w < 1 ∨ 64 < w ∨ op < 1 ∨ 19 < op ∨ badF op f = true) : applyS op w f a b = (0, 3) := if_pos h
theorem applyS_yes {op w f a b : Int} (h1 : 1 ≤ w) (h2 : w ≤ 64) (h3 : 1 ≤ op) (h4 : op ≤ 19) (h5 : badF op f = false) : applyS op w f a b = opS op w (pw w) (a % pw w) (b % pw w) (nuw f) (nsw f) (exa f) :=
  if_neg (by rw [h5]; simp; omega)

set_option maxRecDepth 100000 in
set_option maxHeartbeats 2000000 in
theorem apply_noW (op w f a b : Int) (W : World) (h : w < 1 ∨ 64 < w) :
    Calls Try.prog 27 #[.int .i64 op, .int .i64 w, .int .i64 f, .int .u64 a, .int .u64 b] W fun e w' => e = .returned (pairV (applyS op w f a b)) ∧ Below W.heap.size W w' := by
  have e0 : Hid (applyS op w f a b = (0, 3)) := hide (applyS_no (by omega))
  go_enter Try.func27, Try.ntmps27
  go_wp2_with (go_at_call 32; refine (mask_no w _ h).mono ?_; rintro e w' ⟨rfl, rfl⟩)
  go_ret2
  exact ⟨ret_pair e0.out, Below.refl _ _⟩
set_option maxRecDepth 100000 in
set_option maxHeartbeats 2000000 in
theorem apply_noOp (op w f a b : Int) (W : World) (h1 : 1 ≤ w) (h2 : w ≤ 64) (h : op < 1 ∨ 19 < op ∨ badF op f = true) :
    Calls Try.prog 27 #[.int .i64 op, .int .i64 w, .int .i64 f, .int .u64 a, .int .u64 b] W fun e w' => e = .returned (pairV (applyS op w f a b)) ∧ Below W.heap.size W w' := by
  have e0 : Hid (applyS op w f a b = (0, 3)) := hide (applyS_no (by rcases h with h | h | h <;> simp [h]))
  obtain ⟨hM, hH, hw⟩ := wid h1 h2
  have hm : (pw w - 1 == 0) = false := beq_eq_false_iff_ne.2 (by omega)
  clear hM hH hw
  by_cases g1 : op < 1
  · go_enter Try.func27, Try.ntmps27
    go_wp2_with (go_at_call 32; refine (mask_ok w _ h1 h2).mono ?_; rintro e w' ⟨rfl, rfl⟩)
    go_ret2
    exact ⟨ret_pair e0.out, Below.refl _ _⟩
  · by_cases g2 : 19 < op
    · go_enter Try.func27, Try.ntmps27
      go_wp2_with (go_at_call 32; refine (mask_ok w _ h1 h2).mono ?_; rintro e w' ⟨rfl, rfl⟩)
      go_ret2
      exact ⟨ret_pair e0.out, Below.refl _ _⟩
    · have g3 : (bits .andNot .i64 f (flagsOf op) != 0) = true := by
        rcases h with h | h | h
        · exact absurd h g1
        · exact absurd h g2
        · exact h
      clear h
      go_enter Try.func27, Try.ntmps27
      go_wp2_with (first | (go_at_call 32; refine (mask_ok w _ h1 h2).mono ?_; rintro e w' ⟨rfl, rfl⟩) | (go_at_call 29; refine (flags_any op _).mono ?_; rintro e w' ⟨rfl, rfl⟩))
      go_ret2
      exact ⟨ret_pair e0.out, Below.refl _ _⟩

def fin (k r : Int) : Int × Int := if k = 0 then (r, 0) else (0, k)
set_option maxRecDepth 100000 in
set_option maxHeartbeats 4000000 in
/-- by ring, divide or shift -/
theorem apply_call (F : Nat) (op w f a b v k r : Int) (W : World) (h1 : 1 ≤ w) (h2 : w ≤ 64) (hf : badF op f = false) (ha : 0 ≤ a ∧ a ≤ 18446744073709551615) (hb : 0 ≤ b ∧ b ≤ 18446744073709551615)
    (hop : (1 ≤ op ∧ op ≤ 3 ∧ F = 47) ∨ (4 ≤ op ∧ op ≤ 7 ∧ F = 48) ∨ (11 ≤ op ∧ op ≤ 13 ∧ F = 49)) (hr : bits .and .u64 v (pw w - 1) = r)
    (hc : ∀ W', Calls Try.prog F #[.int .i64 op, .int .i64 w, .int .i64 f, .int .u64 (a % pw w), .int .u64 (b % pw w)] W' fun e w' => e = .returned (.tuple #[.int .u64 v, .int .i64 k]) ∧ Below W'.heap.size W' w') :
    Calls Try.prog 27 #[.int .i64 op, .int .i64 w, .int .i64 f, .int .u64 a, .int .u64 b] W fun e w' => e = .returned (pairV (fin k r)) ∧ Below W.heap.size W w' := by
  obtain ⟨hM, hH, hw⟩ := wid h1 h2
  have hm : (pw w - 1 == 0) = false := beq_eq_false_iff_ne.2 (by omega)
  clear hM hH hw
  have hf' : (bits .andNot .i64 f (flagsOf op) != 0) = false := hf
  have a1 : bits .and .u64 a (pw w - 1) = a % pw w := and_mask ha.1 ha.2 (by omega) h2
  have b1 : bits .and .u64 b (pw w - 1) = b % pw w := and_mask hb.1 hb.2 (by omega) h2
  replace hc := hide hc
  clear hf
  by_cases hk : k = 0
  · have e0 : Hid (fin k r = (r, (0 : Int))) := hide (if_pos hk)
    obtain rfl : k = 0 := hk
    rcases hop with ⟨o1, o2, rfl⟩ | ⟨o1, o2, rfl⟩ | ⟨o1, o2, rfl⟩
    all_goals
      go_enter Try.func27, Try.ntmps27
      go_wp2_with (first | (go_at_call 32; refine (mask_ok w _ h1 h2).mono ?_; rintro e w' ⟨rfl, rfl⟩) | (go_at_call 29; refine (flags_any op _).mono ?_; rintro e w' ⟨rfl, rfl⟩) | (refine (hc.out _).mono ?_; rintro e w1 ⟨rfl, hb1⟩))
      go_ret2
      exact ⟨ret_pair e0.out, by assumption⟩
  · have e0 : Hid (fin k r = ((0 : Int), k)) := hide (if_neg hk)
    have hk' : (k != 0) = true := by rw [bne_iff_ne]; exact hk
    rcases hop with ⟨o1, o2, rfl⟩ | ⟨o1, o2, rfl⟩ | ⟨o1, o2, rfl⟩
    all_goals
      go_enter Try.func27, Try.ntmps27
      go_wp2_with (first | (go_at_call 32; refine (mask_ok w _ h1 h2).mono ?_; rintro e w' ⟨rfl, rfl⟩) | (go_at_call 29; refine (flags_any op _).mono ?_; rintro e w' ⟨rfl, rfl⟩) | (refine (hc.out _).mono ?_; rintro e w1 ⟨rfl, hb1⟩))
      go_ret2
      exact ⟨ret_pair e0.out, by assumption⟩
end Go.Proofs.Ytmcleghbpdenlaa
