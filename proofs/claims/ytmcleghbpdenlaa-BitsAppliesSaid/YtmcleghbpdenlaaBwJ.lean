/- bits.Apply, bits.Convert, whole; of, width and lives of the laws, walked. No condition. -/
import Derived.Test.YtmcleghbpdenlaaBwI
namespace Go.Proofs.Ytmcleghbpdenlaa
open Go.RowKit
set_option linter.unusedSimpArgs false
set_option linter.unusedVariables false

abbrev U64 (n : Int) : Prop := 0 ≤ n ∧ n ≤ 18446744073709551615
theorem apply_any (op w f a b : Int) (W : World) (ha : U64 a) (hb : U64 b) :
    Calls Try.prog 27 #[.int .i64 op, .int .i64 w, .int .i64 f, .int .u64 a, .int .u64 b] W fun e w' => e = .returned (pairV (applyS op w f a b)) ∧ Below W.heap.size W w' := by
  by_cases g1 : w < 1 ∨ 64 < w
  · exact apply_noW op w f a b W g1
  · by_cases g2 : op < 1 ∨ 19 < op ∨ badF op f = true
    · exact apply_noOp op w f a b W (by omega) (by omega) g2
    · have hf : badF op f = false := by
        cases h : badF op f
        · rfl
        · exact absurd (.inr (.inr h)) g2
      have o1 : 1 ≤ op := by rcases Int.lt_or_le op 1 with h | h; exact absurd (.inl h) g2; exact h
      have o2 : op ≤ 19 := by rcases Int.lt_or_le 19 op with h | h; exact absurd (.inr (.inl h)) g2; exact h
      have w1 : 1 ≤ w := by omega
      have w2 : w ≤ 64 := by omega
      have o3 : ((1 ≤ op ∧ op ≤ 7) ∨ (11 ≤ op ∧ op ≤ 13)) ∨ (op = 8 ∨ op = 9 ∨ op = 10) ∨ (op = 14 ∨ op = 15 ∨ op = 16 ∨ op = 17 ∨ op = 18 ∨ op = 19) := by omega
      rcases o3 with o | o | o
      · exact apply_group op w f a b W w1 w2 hf ha hb o
      · exact apply_log op w f a b W w1 w2 hf ha hb o
      · exact apply_cmp op w f a b W w1 w2 hf ha hb o

def convS (op fw tw v : Int) : Int × Bool :=
  if fw < 1 ∨ 64 < fw ∨ tw < 1 ∨ 64 < tw then (0, false) else if op = 20 ∧ fw < tw then (v % pw fw, true) else if op = 21 ∧ fw < tw then (sg (pw fw) v % pw tw, true) else if op = 22 ∧ tw < fw then (v % pw tw, true) else (0, false)
def convV (p : Int × Bool) : Value := .tuple #[.int .u64 p.1, .bool p.2]
theorem ret_conv {a : Int} {b : Bool} {p : Int × Bool} (h : p = (a, b)) : Ending.returned (.tuple #[.int .u64 a, .bool b]) = .returned (convV p) := by rw [h]; rfl
theorem mask_zero (w : Int) : (maskS w == 0) = decide (w < 1 ∨ 64 < w) := by
  unfold maskS
  rw [Bool.eq_iff_iff]
  split
  · rename_i h; simp [h]
  · rename_i h
    have := wid (w := w) (by omega) (by omega)
    simp only [beq_iff_eq, decide_eq_true_eq]; omega
set_option maxRecDepth 100000 in
set_option maxHeartbeats 2000000 in
theorem conv_no (op fw tw v : Int) (W : World) (h : fw < 1 ∨ 64 < fw ∨ tw < 1 ∨ 64 < tw) :
    Calls Try.prog 36 #[.int .i64 op, .int .i64 fw, .int .i64 tw, .int .u64 v] W fun e w' => e = .returned (convV (convS op fw tw v)) ∧ Below W.heap.size W w' := by
  have e0 : Hid (convS op fw tw v = (0, false)) := hide (if_pos h)
  have m1 := mask_zero fw
  have m2 := mask_zero tw
  by_cases g : fw < 1 ∨ 64 < fw
  · have m1' : (maskS fw == 0) = true := by rw [m1]; exact decide_eq_true g
    clear m1 m2 h g
    go_enter Try.func36, Try.ntmps36
    go_wp2_with fail
    refine (mask_any fw _).mono ?_; rintro e w' ⟨rfl, rfl⟩
    go_wp2
    go_ret2
    exact ⟨ret_conv e0.out, Below.refl _ _⟩
  · have m1' : (maskS fw == 0) = false := by rw [m1]; exact decide_eq_false g
    have m2' : (maskS tw == 0) = true := by rw [m2]; exact decide_eq_true (by omega)
    clear m1 m2 h g
    go_enter Try.func36, Try.ntmps36
    go_wp2_with fail
    refine (mask_any fw _).mono ?_; rintro e w' ⟨rfl, rfl⟩
    go_wp2_with fail
    refine (mask_any tw _).mono ?_; rintro e w' ⟨rfl, rfl⟩
    go_wp2
    go_ret2
    exact ⟨ret_conv e0.out, Below.refl _ _⟩
theorem wrap_mod {n w : Int} (h1 : 1 ≤ w) (h2 : w ≤ 64) : bits .and .u64 (IntKind.u64.wrap n) (pw w - 1) = n % pw w := by rw [wrap_u, and_u h1 h2]
set_option maxRecDepth 100000 in
set_option maxHeartbeats 2000000 in
theorem conv_yes (op fw tw v : Int) (W : World) (h1 : 1 ≤ fw) (h2 : fw ≤ 64) (h3 : 1 ≤ tw) (h4 : tw ≤ 64) (hv : U64 v) :
    Calls Try.prog 36 #[.int .i64 op, .int .i64 fw, .int .i64 tw, .int .u64 v] W fun e w' => e = .returned (convV (convS op fw tw v)) ∧ Below W.heap.size W w' := by
  have e0 : convS op fw tw v = if op = 20 ∧ fw < tw then (v % pw fw, true) else if op = 21 ∧ fw < tw then (sg (pw fw) v % pw tw, true) else if op = 22 ∧ tw < fw then (v % pw tw, true) else (0, false) := if_neg (by omega)
  have a1 := wid h1 h2
  have a2 := wid h3 h4
  have m1 : (pw fw - 1 == 0) = false := beq_eq_false_iff_ne.2 (by omega)
  have m2 : (pw tw - 1 == 0) = false := beq_eq_false_iff_ne.2 (by omega)
  have b1 : bits .and .u64 v (pw fw - 1) = v % pw fw := and_mask hv.1 hv.2 (by omega) h2
  have b2 : bits .and .u64 v (pw tw - 1) = v % pw tw := and_mask hv.1 hv.2 (by omega) h4
  have b3 : bits .and .u64 (IntKind.u64.wrap (sg (pw fw) v)) (pw tw - 1) = sg (pw fw) v % pw tw := wrap_mod h3 h4
  clear a1 a2
  by_cases g1 : op = 20 ∧ fw < tw
  · rw [if_pos g1] at e0
    obtain ⟨rfl, g⟩ := g1
    replace e0 := hide e0
    go_enter Try.func36, Try.ntmps36
    go_wp2_with (go_at_call 32; refine (mask_ok _ _ (by assumption) (by assumption)).mono ?_; rintro e w' ⟨rfl, rfl⟩)
    go_ret2
    exact ⟨ret_conv e0.out, Below.refl _ _⟩
  · rw [if_neg g1] at e0
    by_cases g2 : op = 21 ∧ fw < tw
    · rw [if_pos g2] at e0
      obtain ⟨rfl, g⟩ := g2
      replace e0 := hide e0
      clear g1
      go_enter Try.func36, Try.ntmps36
      go_wp2_with (first | (go_at_call 32; refine (mask_ok _ _ (by assumption) (by assumption)).mono ?_; rintro e w' ⟨rfl, rfl⟩) | (go_at_call 34; refine (signed_ok _ _ _ (by assumption) (by assumption)).mono ?_; rintro e w' ⟨rfl, rfl⟩))
      go_ret2
      exact ⟨ret_conv e0.out, Below.refl _ _⟩
    · rw [if_neg g2] at e0
      by_cases g3 : op = 22 ∧ tw < fw
      · rw [if_pos g3] at e0
        obtain ⟨rfl, g⟩ := g3
        replace e0 := hide e0
        clear g1 g2
        go_enter Try.func36, Try.ntmps36
        go_wp2_with (go_at_call 32; refine (mask_ok _ _ (by assumption) (by assumption)).mono ?_; rintro e w' ⟨rfl, rfl⟩)
        go_ret2
        exact ⟨ret_conv e0.out, Below.refl _ _⟩
      · rw [if_neg g3] at e0
        replace e0 := hide e0
        have c1 : ((op == 20) && decide (fw < tw)) = false := by rw [Bool.and_eq_false_iff]; simp; omega
        have c2 : ((op == 21) && decide (fw < tw)) = false := by rw [Bool.and_eq_false_iff]; simp; omega
        have c3 : ((op == 22) && decide (tw < fw)) = false := by rw [Bool.and_eq_false_iff]; simp; omega
        replace g1 := hide g1
        replace g2 := hide g2
        replace g3 := hide g3
        cases d1 : (op == 20)
        all_goals cases d2 : (op == 21)
        all_goals cases d3 : (op == 22)
        all_goals cases d4 : decide (fw < tw)
        all_goals cases d5 : decide (tw < fw)
        all_goals first
          | (exfalso; rw [d1, d4] at c1; cases c1; done)
          | (exfalso; rw [d2, d4] at c2; cases c2; done)
          | (exfalso; rw [d3, d5] at c3; cases c3; done)
          | (clear c1 c2 c3
             go_enter Try.func36, Try.ntmps36
             go_wp2_with (go_at_call 32; refine (mask_ok _ _ (by assumption) (by assumption)).mono ?_; rintro e w' ⟨rfl, rfl⟩)
             all_goals go_ret2
             all_goals exact ⟨ret_conv e0.out, Below.refl _ _⟩)
theorem conv_any (op fw tw v : Int) (W : World) (hv : U64 v) :
    Calls Try.prog 36 #[.int .i64 op, .int .i64 fw, .int .i64 tw, .int .u64 v] W fun e w' => e = .returned (convV (convS op fw tw v)) ∧ Below W.heap.size W w' := by
  by_cases h : fw < 1 ∨ 64 < fw ∨ tw < 1 ∨ 64 < tw
  · exact conv_no op fw tw v W h
  · exact conv_yes op fw tw v W (by omega) (by omega) (by omega) (by omega) hv
end Go.Proofs.Ytmcleghbpdenlaa
