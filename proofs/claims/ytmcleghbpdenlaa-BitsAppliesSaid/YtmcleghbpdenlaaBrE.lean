/- The reference of layer 1: Signed, Mask, Convert, walked; BitsConverts. No condition. -/
import Derived.Test.YtmcleghbpdenlaaBrB
import Derived.Test.YtmcleghbpdenlaaBlB
namespace Go.Proofs.Ytmcleghbpdenlaa
open Go.RowKit
set_option linter.unusedSimpArgs false
set_option linter.unusedVariables false

theorem wok_yes {w : Int} (h1 : 1 ≤ w) (h2 : w ≤ 64) : (decide (1 ≤ w) && decide (w ≤ 64)) = true := by simp; omega
theorem wok_no {w : Int} (h : w < 1 ∨ 64 < w) : (decide (1 ≤ w) && decide (w ≤ 64)) = false := by rw [Bool.and_eq_false_iff]; simp; omega
theorem rwidth_b (w : Int) (b : Bool) (W : World) (hb : (decide (1 ≤ w) && decide (w ≤ 64)) = b) : Calls Try.prog 50 #[.int .i64 w] W fun e w' => e = .returned (.bool b) ∧ W = w' := by
  rw [← hb]; exact rwidth_any w W
set_option maxHeartbeats 1000000 in
theorem rmask_any (w : Int) (W : World) : Calls Try.prog 39 #[.int .i64 w] W fun e w' => e = .returned (.int .u64 (maskS w)) ∧ W = w' := by
  by_cases h : w < 1 ∨ 64 < w
  · have e : Hid (maskS w = 0) := hide (if_pos h)
    have hb := hide (wok_no h)
    go_enter Try.func39, Try.ntmps39
    go_wp2_with fail
    refine (rwidth_b w false _ hb.out).mono ?_; rintro e w' ⟨rfl, rfl⟩
    go_wp2
    go_ret
    exact ⟨ret_int e.out.symm, rfl⟩
  · have e : Hid (maskS w = pw w - 1) := hide (if_neg h)
    have h1 : 1 ≤ w := by omega
    have h2 : w ≤ 64 := by omega
    have hb := hide (wok_yes h1 h2)
    have hR := pw_rest (w := w) (by omega) h2
    have hp := pw_pos w
    have hc : Hid (rcut w 18446744073709551615 = pw w - 1) := hide (by
      rw [rcut_eq h2 (by decide) (by decide)]
      have e1 : (18446744073709551615 : Int) = (pw w - 1) + pw w * (pw (64 - w) - 1) := by rw [Int.mul_sub, hR]; omega
      rw [e1, Int.add_mul_emod_self_left, Int.emod_eq_of_lt (by omega) (by omega)])
    clear hR hp h
    go_enter Try.func39, Try.ntmps39
    go_wp2_with fail
    refine (rwidth_b w true _ hb.out).mono ?_; rintro e w' ⟨rfl, rfl⟩
    go_wp2_with fail
    refine (rcut_any w 18446744073709551615 _ (by omega) (by decide)).mono ?_; rintro e w' ⟨rfl, rfl⟩
    go_wp2
    go_ret
    exact ⟨ret_int (hc.out.trans e.out.symm), rfl⟩
set_option maxHeartbeats 1000000 in
theorem rsigned_any (w v : Int) (W : World) (hv : 0 ≤ v ∧ v ≤ 18446744073709551615) : Calls Try.prog 38 #[.int .i64 w, .int .u64 v] W fun e w' => e = .returned (.int .i64 (signedS w v)) ∧ Below W.heap.size W w' := by
  by_cases h : w < 1 ∨ 64 < w
  · have e : Hid (signedS w v = 0) := hide (if_pos h)
    have hb := hide (wok_no h)
    go_enter Try.func38, Try.ntmps38
    go_wp2_with fail
    refine (rwidth_b w false _ hb.out).mono ?_; rintro e w' ⟨rfl, rfl⟩
    go_wp2
    go_ret
    exact ⟨ret_int e.out.symm, Below.refl _ _⟩
  · have e : Hid (signedS w v = sg (pw w) v) := hide (if_neg h)
    have h1 : 1 ≤ w := by omega
    have h2 : w ≤ 64 := by omega
    have hb := hide (wok_yes h1 h2)
    obtain ⟨hM, hH, hw⟩ := wid h1 h2
    have hx := sg_in (v := v) hH
    rw [← hM] at hx
    have hlo := big_lo (n := sg (pw w) v) (by omega) (by omega)
    have hbe : (big (sg (pw w) v)).below = decide (sg (pw w) v < 0) := rfl
    obtain ⟨x, hxx⟩ : ∃ x, sg (pw w) v = x := ⟨_, rfl⟩
    rw [hxx] at hlo hbe e hx
    have hx0 : -9223372036854775808 ≤ x ∧ x ≤ 9223372036854775807 := by omega
    replace hxx := hide hxx
    replace hv := hide hv
    cases hs : decide (x < 0)
    · rw [hs] at hbe
      have hlo' : (big x).lo = x := by rw [hlo]; have := of_decide_eq_false hs; omega
      have hs0 : 0 ≤ x := by have := of_decide_eq_false hs; omega
      clear hlo hM hw h hx hs
      go_enter Try.func38, Try.ntmps38
      go_wp2_with fail
      refine (rwidth_b w true _ hb.out).mono ?_; rintro e w' ⟨rfl, rfl⟩
      go_wp2_with fail
      refine (rwith_any w v _ h1 h2 hv.out).mono ?_; rintro e w1 ⟨rfl, hb1⟩
      rw [hxx.out]
      go_wp2
      go_ret
      exact ⟨ret_int e.out.symm, hb1.alloc hb1.size _⟩
    · rw [hs] at hbe
      have hs0 : x < 0 := of_decide_eq_true hs
      have hlo' : (big x).lo = -x := by rw [hlo]; omega
      have hwr : wrap64 (-(wrap64 (-x))) = x := by unfold wrap64; omega
      clear hlo hM hw h hx hs
      go_enter Try.func38, Try.ntmps38
      go_wp2_with fail
      refine (rwidth_b w true _ hb.out).mono ?_; rintro e w' ⟨rfl, rfl⟩
      go_wp2_with fail
      refine (rwith_any w v _ h1 h2 hv.out).mono ?_; rintro e w1 ⟨rfl, hb1⟩
      rw [hxx.out]
      go_wp2
      go_ret
      exact ⟨ret_int (hwr.trans e.out.symm), hb1.alloc hb1.size _⟩

set_option maxRecDepth 100000 in
set_option maxHeartbeats 2000000 in
theorem rconv_any (op fw tw v : Int) (W : World) (hv : 0 ≤ v ∧ v ≤ 18446744073709551615) :
    Calls Try.prog 37 #[.int .i64 op, .int .i64 fw, .int .i64 tw, .int .u64 v] W fun e w' => e = .returned (.tuple #[.int .u64 (convS op fw tw v).1, .bool (convS op fw tw v).2]) ∧ Below W.heap.size W w' := by
  by_cases h : fw < 1 ∨ 64 < fw ∨ tw < 1 ∨ 64 < tw
  · have e0 : Hid (convS op fw tw v = (0, false)) := hide (if_pos h)
    by_cases g : fw < 1 ∨ 64 < fw
    · have b1 := hide (wok_no g)
      clear h g
      go_enter Try.func37, Try.ntmps37
      go_wp2_with fail
      refine (rwidth_b fw false _ b1.out).mono ?_; rintro e w' ⟨rfl, rfl⟩
      go_wp2
      go_ret2
      exact ⟨ret_conv e0.out, Below.refl _ _⟩
    · have b1 := hide (wok_yes (w := fw) (by omega) (by omega))
      have b2 := hide (wok_no (w := tw) (by omega))
      clear h g
      go_enter Try.func37, Try.ntmps37
      go_wp2_with fail
      refine (rwidth_b fw true _ b1.out).mono ?_; rintro e w' ⟨rfl, rfl⟩
      go_wp2_with fail
      refine (rwidth_b tw false _ b2.out).mono ?_; rintro e w' ⟨rfl, rfl⟩
      go_wp2
      go_ret2
      exact ⟨ret_conv e0.out, Below.refl _ _⟩
  · have e0 : convS op fw tw v = if op = 20 ∧ fw < tw then (v % pw fw, true) else if op = 21 ∧ fw < tw then (sg (pw fw) v % pw tw, true) else if op = 22 ∧ tw < fw then (v % pw tw, true) else (0, false) := if_neg h
    have h1 : 1 ≤ fw := by omega
    have h2 : fw ≤ 64 := by omega
    have h3 : 1 ≤ tw := by omega
    have h4 : tw ≤ 64 := by omega
    have b1 := hide (wok_yes h1 h2)
    have b2 := hide (wok_yes h3 h4)
    have r1 : Hid (rcut fw v = v % pw fw) := hide (rcut_eq h2 hv.1 (by omega))
    have r2 : Hid (rcut tw v = v % pw tw) := hide (rcut_eq h4 hv.1 (by omega))
    replace hv := hide hv
    clear h
    by_cases g1 : op = 20 ∧ fw < tw
    · rw [if_pos g1, ← r1.out] at e0
      obtain ⟨rfl, g⟩ := g1
      replace e0 := hide e0
      go_enter Try.func37, Try.ntmps37
      go_wp2_with fail
      refine (rwidth_b fw true _ b1.out).mono ?_; rintro e w' ⟨rfl, rfl⟩
      go_wp2_with fail
      refine (rwidth_b tw true _ b2.out).mono ?_; rintro e w' ⟨rfl, rfl⟩
      go_wp2_with fail
      refine (rcut_any fw v _ (by omega) hv.out).mono ?_; rintro e w' ⟨rfl, rfl⟩
      go_wp2
      go_ret2
      exact ⟨ret_conv e0.out, Below.refl _ _⟩
    · rw [if_neg g1] at e0
      by_cases g2 : op = 21 ∧ fw < tw
      · rw [if_pos g2] at e0
        obtain ⟨rfl, g⟩ := g2
        replace e0 := hide e0
        clear g1
        go_enter Try.func37, Try.ntmps37
        go_wp2_with fail
        refine (rwidth_b fw true _ b1.out).mono ?_; rintro e w' ⟨rfl, rfl⟩
        go_wp2_with fail
        refine (rwidth_b tw true _ b2.out).mono ?_; rintro e w' ⟨rfl, rfl⟩
        go_wp2_with fail
        refine (rwith_any fw v _ h1 h2 hv.out).mono ?_; rintro e w1 ⟨rfl, hx1⟩
        replace hx1 := hide hx1
        go_wp2_with fail
        refine (rwrapped_any tw (sg (pw fw) v) _ h3 h4).mono ?_; rintro e w2 ⟨rfl, hx2⟩
        replace hx2 := hide hx2
        go_wp2
        go_ret2
        exact ⟨ret_conv e0.out, hx1.out.trans (hx2.out.mono hx1.out.size)⟩
      · rw [if_neg g2] at e0
        by_cases g3 : op = 22 ∧ tw < fw
        · rw [if_pos g3, ← r2.out] at e0
          obtain ⟨rfl, g⟩ := g3
          replace e0 := hide e0
          clear g1 g2
          go_enter Try.func37, Try.ntmps37
          go_wp2_with fail
          refine (rwidth_b fw true _ b1.out).mono ?_; rintro e w' ⟨rfl, rfl⟩
          go_wp2_with fail
          refine (rwidth_b tw true _ b2.out).mono ?_; rintro e w' ⟨rfl, rfl⟩
          go_wp2_with fail
          refine (rcut_any tw v _ (by omega) hv.out).mono ?_; rintro e w' ⟨rfl, rfl⟩
          go_wp2
          go_ret2
          exact ⟨ret_conv e0.out, Below.refl _ _⟩
        · rw [if_neg g3] at e0
          replace e0 := hide e0
          have c1 : ((op == 20) && decide (fw < tw)) = false := by rw [Bool.and_eq_false_iff]; simp; omega
          have c2 : ((op == 21) && decide (fw < tw)) = false := by rw [Bool.and_eq_false_iff]; simp; omega
          have c3 : ((op == 22) && decide (tw < fw)) = false := by rw [Bool.and_eq_false_iff]; simp; omega
          replace g1 := hide g1
          replace g2 := hide g2
          replace g3 := hide g3
          cases d1 : (op == 20)
          all_goals cases d2 : (op == 21)
          all_goals cases d3 : (op == 22)
          all_goals cases d4 : decide (fw < tw)
          all_goals cases d5 : decide (tw < fw)
          all_goals first
            | (exfalso; rw [d1, d4] at c1; cases c1; done)
            | (exfalso; rw [d2, d4] at c2; cases c2; done)
            | (exfalso; rw [d3, d5] at c3; cases c3; done)
            | (clear c1 c2 c3
               go_enter Try.func37, Try.ntmps37
               go_wp2_with fail
               refine (rwidth_b fw true _ b1.out).mono ?_; rintro e w' ⟨rfl, rfl⟩
               go_wp2_with fail
               refine (rwidth_b tw true _ b2.out).mono ?_; rintro e w' ⟨rfl, rfl⟩
               go_wp2
               all_goals go_ret2
               all_goals exact ⟨ret_conv e0.out, Below.refl _ _⟩)

set_option maxRecDepth 100000 in
set_option maxHeartbeats 2000000 in
theorem law_converts (op fw tw v : Int) (W : World) (hv : 0 ≤ v ∧ v ≤ 18446744073709551615) :
    Calls Try.prog 13 #[.int .i64 op, .int .i64 fw, .int .i64 tw, .int .u64 v] W fun e w' => e = .returned (.bool true) ∧ Below W.heap.size W w' := by
  obtain ⟨x, hx⟩ : ∃ x, (convS op fw tw v).1 = x := ⟨_, rfl⟩
  obtain ⟨b, hb⟩ : ∃ x, (convS op fw tw v).2 = x := ⟨_, rfl⟩
  have c1 : Hid (∀ W, Calls Try.prog 36 #[.int .i64 op, .int .i64 fw, .int .i64 tw, .int .u64 v] W fun e w' => e = .returned (.tuple #[.int .u64 x, .bool b]) ∧ Below W.heap.size W w') := hide (fun W => by
    have := conv_t op fw tw v W hv
    rwa [hx, hb] at this)
  have c2 : Hid (∀ W, Calls Try.prog 37 #[.int .i64 op, .int .i64 fw, .int .i64 tw, .int .u64 v] W fun e w' => e = .returned (.tuple #[.int .u64 x, .bool b]) ∧ Below W.heap.size W w') := hide (fun W => by
    have := rconv_any op fw tw v W hv
    rwa [hx, hb] at this)
  clear hx hb
  have t1 : (x == x) = true := beq_self_eq_true x
  have t2 : (b == b) = true := beq_self_eq_true b
  have t3 : (signedS fw v == signedS fw v) = true := beq_self_eq_true _
  have t4 : (maskS tw == maskS tw) = true := beq_self_eq_true _
  replace hv := hide hv
  have hB := Below.refl W.heap.size W
  go_enter Try.func13, Try.ntmps13
  go_wp2_with fail
  refine (lives_any _).mono ?_; rintro e w1 ⟨rfl, hx⟩
  replace hB := below_next hB (Nat.le_refl _) hx
  clear hx
  go_wp2_with fail
  refine (c1.out _).mono ?_; rintro e w1 ⟨rfl, hx⟩
  replace hB := below_next hB (Nat.le_refl _) hx
  clear hx
  go_wp2_with fail
  refine (c2.out _).mono ?_; rintro e w1 ⟨rfl, hx⟩
  replace hB := below_next hB (Nat.le_refl _) hx
  clear hx
  go_wp2_with fail
  refine (signed_any fw v _).mono ?_; rintro e w1 ⟨rfl, rfl⟩
  go_wp2_with fail
  refine (rsigned_any fw v _ hv.out).mono ?_; rintro e w1 ⟨rfl, hx⟩
  replace hB := below_next hB (Nat.le_refl _) hx
  clear hx
  go_wp2_with fail
  refine (mask_any tw _).mono ?_; rintro e w1 ⟨rfl, rfl⟩
  go_wp2_with fail
  refine (rmask_any tw _).mono ?_; rintro e w1 ⟨rfl, rfl⟩
  go_wp2
  go_ret
  exact ⟨rfl, hB⟩
end Go.Proofs.Ytmcleghbpdenlaa
