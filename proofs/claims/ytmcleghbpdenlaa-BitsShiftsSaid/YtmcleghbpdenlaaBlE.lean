/- BitsShifts, walked. No condition. -/
import Derived.Test.YtmcleghbpdenlaaBlB
import Derived.Test.YtmcleghbpdenlaaBwD
namespace Go.Proofs.Ytmcleghbpdenlaa
open Go.RowKit
set_option linter.unusedSimpArgs false
set_option linter.unusedVariables false

theorem lt_pw {n : Int} (h0 : 0 ≤ n) : n < pw n := by
  have e := pw_nat n
  have : n.toNat < 2 ^ n.toNat := Nat.lt_two_pow_self
  omega
theorem pw_lt {k v : Int} (h0 : 0 ≤ k) (h : k < v) : pw k < pw v := by
  have h1 := pw_succ h0
  have h2 := pw_mono (a := k + 1) (b := v) (by omega) (by omega)
  have h3 := pw_pos k
  omega
theorem andnot_zero : badF 13 4 = false := by decide +kernel
theorem nuw4 : nuw 4 = false := by decide +kernel
theorem nsw4 : nsw 4 = false := by decide +kernel
theorem exa4 : exa 4 = true := by decide +kernel
/-- all that BitsShifts asks -/
theorem shifts_law {v a b k : Int} (h1 : 1 ≤ v) (h2 : v ≤ 64) (hk0 : 0 ≤ k) (hk : k < v) :
    ofS 11 v a k = ofS 3 v a (pw k) ∧ ofS 12 v a k = ofS 4 v a (pw k) ∧ (applyS 11 v 0 a v).2 = 1 ∧
    ((applyS 13 v 4 a k).2 = 0 ↔ ofS 11 v (ofS 13 v a k) k = a % pw v) ∧
    (sg (pw v) a ≤ sg (pw v) b → sg (pw v) (ofS 13 v a k) ≤ sg (pw v) (ofS 13 v b k)) := by
  obtain ⟨hM, hH, hw⟩ := wid h1 h2
  have hkM : k % pw v = k := Int.emod_eq_of_lt hk0 (by have := lt_pw (n := v) (by omega); omega)
  have hpk := pw_pos k
  have hpl := pw_lt hk0 hk
  have hpM : pw k % pw v = pw k := Int.emod_eq_of_lt (by omega) hpl
  have hA : ∀ a : Int, 0 ≤ a % pw v ∧ a % pw v < pw v := fun a => ⟨Int.emod_nonneg a (by omega), Int.emod_lt_of_pos a (by omega)⟩
  have e11 : ∀ a : Int, ofS 11 v a k = a % pw v * pw k % pw v := fun a => by
    rw [ofS_eq h1 h2 (by decide) (by decide)]; unfold ofV; rw [hkM]
    have : ¬ v ≤ k := by omega
    simp [opS, shBad, shV, this]
  have e12 : ofS 12 v a k = a % pw v / pw k := by
    have q0 : 0 ≤ a % pw v / pw k := Int.ediv_nonneg (hA a).1 (by omega)
    have q1 : a % pw v / pw k ≤ a % pw v := Int.ediv_le_self _ (hA a).1
    have q2 := (hA a).2
    rw [ofS_eq h1 h2 (by decide) (by decide)]; unfold ofV; rw [hkM]
    have : ¬ v ≤ k := by omega
    simp [opS, shBad, shV, this]
    exact Int.emod_eq_of_lt q0 (by omega)
  have e13 : ∀ a : Int, ofS 13 v a k = sg (pw v) (a % pw v) / pw k % pw v := fun a => by
    rw [ofS_eq h1 h2 (by decide) (by decide)]; unfold ofV; rw [hkM]
    have : ¬ v ≤ k := by omega
    simp [opS, shBad, shV, this]
  have hr : ∀ a : Int, sg (pw v) (ofS 13 v a k) = sg (pw v) a / pw k := fun a => by
    rw [e13, sg_cut, sg_cut]
    have hx := sg_in (v := a) hH
    rw [← hM] at hx
    have g0 := Int.ediv_le_ediv (c := pw k) (by omega) (show sg (pw v) a ≤ pw (v - 1) - 1 by omega)
    have g1 := Int.ediv_le_ediv (c := pw k) (by omega) (show -pw (v - 1) ≤ sg (pw v) a by omega)
    have g2 := Int.ediv_le_self (b := pw k) (a := pw (v - 1) - 1) (by omega)
    have g3 : -pw (v - 1) ≤ -pw (v - 1) / pw k := by
      rw [Int.le_ediv_iff_mul_le (by omega)]
      have : pw (v - 1) * 1 ≤ pw (v - 1) * pw k := Int.mul_le_mul_of_nonneg_left hpk (by omega)
      rw [Int.neg_mul]; omega
    generalize sg (pw v) a / pw k = q at *
    rw [hM]
    exact sg_id (by omega) (by omega)
  refine ⟨?_, ?_, ?_, ?_, ?_⟩
  · rw [e11, ofS_eq h1 h2 (by decide) (by decide), of_mul, Int.mul_emod a, hpM]
  · rw [e12, ofS_eq h1 h2 (by decide) (by decide)]
    unfold ofV
    rw [hpM]
    have q0 : 0 ≤ a % pw v / pw k := Int.ediv_nonneg (hA a).1 (by omega)
    have q1 : a % pw v / pw k ≤ a % pw v := Int.ediv_le_self _ (hA a).1
    have q2 := (hA a).2
    have hb0 : (pw k == 0) = false := beq_eq_false_iff_ne.2 (by omega)
    simp [opS, divOut, hb0, divQ, Int.emod_eq_of_lt q0 (show a % pw v / pw k < pw v by omega)]
  · rw [applyS_zero h1 h2 (by decide) (by decide)]
    have : v % pw v = v := Int.emod_eq_of_lt (by omega) (lt_pw (by omega))
    rw [this]
    simp [opS]
  · have hx : (applyS 13 v 4 a k).2 = 0 ↔ a % pw v % pw k = 0 := by
      rw [applyS_yes h1 h2 (by decide) (by decide) andnot_zero, nuw4, nsw4, exa4, hkM]
      have : ¬ v ≤ k := by omega
      by_cases hz : a % pw v % pw k = 0
      · simp [opS, shBad, this, hz]
      · simp [opS, shBad, this, hz]
    rw [hx, e11, e13]
    have hsp := pw_split hk0 hk
    have hl := sg_low (A := a % pw v) h1 hk0 hk
    have hsm := sg_mod (M := pw v) (v := a % pw v) (by omega)
    have e : sg (pw v) (a % pw v) / pw k % pw v % pw v * pw k % pw v = (a % pw v - a % pw v % pw k) % pw v := by
      rw [Int.emod_emod, Int.mul_emod, Int.emod_emod, ← Int.mul_emod]
      have hg := Int.mul_ediv_add_emod (sg (pw v) (a % pw v)) (pw k)
      rw [Int.mul_comm] at hg
      have : sg (pw v) (a % pw v) / pw k * pw k = sg (pw v) (a % pw v) - a % pw v % pw k := by rw [← hl]; omega
      rw [this, Int.sub_emod, hsm, Int.emod_emod, ← Int.sub_emod, Int.emod_sub_emod]
    have hrr := Int.emod_nonneg (a % pw v) (show pw k ≠ 0 by omega)
    have hlt := Int.emod_lt_of_pos (a % pw v) (show 0 < pw k by omega)
    have hle : a % pw v % pw k ≤ a % pw v := by
      rcases Int.lt_or_le (a % pw v) (pw k) with h | h
      · rw [Int.emod_eq_of_lt (hA a).1 h]; exact Int.le_refl _
      · omega
    have hA' := (hA a).2
    rw [e]
    clear e hl hsm
    generalize a % pw v % pw k = r at *
    generalize a % pw v = A at *
    rw [Int.emod_eq_of_lt (by omega) (by omega)]
    omega
  · intro h
    rw [hr, hr]
    exact Int.ediv_le_ediv (by omega) h

set_option maxRecDepth 100000 in
set_option maxHeartbeats 4000000 in
theorem law_shifts (w a b n : Int) (W : World) (hw : I64b w) (ha : U64 a) (hb : U64 b) (hn : I64b n) :
    Calls Try.prog 11 #[.int .i64 w, .int .u64 a, .int .u64 b, .int .i64 n] W fun e w' => e = .returned (.bool true) ∧ Below W.heap.size W w' := by
  obtain ⟨v, hv⟩ : ∃ v, v = 1 + w % 64 := ⟨_, rfl⟩
  have h1 : 1 ≤ v := by omega
  have h2 : v ≤ 64 := by omega
  have hv' := hide hv
  clear hv
  obtain ⟨k, hk⟩ : ∃ k, k = n % 18446744073709551616 % v := ⟨_, rfl⟩
  have hk0 : 0 ≤ k := by rw [hk]; exact Int.emod_nonneg _ (by omega)
  have hkv : k < v := by rw [hk]; exact Int.emod_lt_of_pos _ (by omega)
  have hkt : (IntKind.u64.wrap n).tmod v = k := by rw [hk, wrap_u, Int.tmod_eq_emod_of_nonneg (Int.emod_nonneg _ (by decide))]
  clear hk
  obtain ⟨L1, L2, L3, L4, L5⟩ := shifts_law (a := a) (b := b) h1 h2 hk0 hkv
  obtain ⟨hM, hH, hw2⟩ := wid h1 h2
  have hpk := pw_pos k
  have hpl := pw_lt hk0 hkv
  have hvl := lt_pw (n := v) (by omega)
  have hp1 : IntKind.u64.wrap (2 ^ k.toNat) = pw k := by
    rw [wrap_u]; show pw k % 18446744073709551616 = pw k
    exact Int.emod_eq_of_lt (by omega) (by omega)
  have am : bits .and .u64 a (pw v - 1) = a % pw v := and_mask ha.1 ha.2 (by omega) h2
  have hpu : Hid (U64 (pw k)) := hide ⟨by omega, by omega⟩
  have hku : Hid (U64 k) := hide ⟨by omega, by omega⟩
  have hvu : Hid (U64 v) := hide ⟨by omega, by omega⟩
  have hU : Hid (∀ op a b : Int, 1 ≤ op → op ≤ 19 → U64 (ofS op v a b)) := hide (fun op a b h3 h4 => ofS_u h1 h2 h3 h4)
  obtain ⟨x11, hx11⟩ : ∃ x, (applyS 11 v 0 a v).1 = x := ⟨_, rfl⟩
  obtain ⟨x13, hx13⟩ : ∃ x, (applyS 13 v 4 a k).1 = x := ⟨_, rfl⟩
  obtain ⟨f, hf⟩ : ∃ f, (applyS 13 v 4 a k).2 = f := ⟨_, rfl⟩
  have c11 : Hid (∀ W, Calls Try.prog 27 #[.int .i64 11, .int .i64 v, .int .i64 0, .int .u64 a, .int .u64 v] W fun e w' => e = .returned (.tuple #[.int .u64 x11, .int .i64 1]) ∧ Below W.heap.size W w') := hide (fun W => by
    have := apply_t 11 v 0 a v W ha hvu.out
    rwa [L3, hx11] at this)
  have c13 : Hid (∀ W, Calls Try.prog 27 #[.int .i64 13, .int .i64 v, .int .i64 4, .int .u64 a, .int .u64 k] W fun e w' => e = .returned (.tuple #[.int .u64 x13, .int .i64 f]) ∧ Below W.heap.size W w') := hide (fun W => by
    have := apply_t 13 v 4 a k W ha hku.out
    rwa [hx13, hf] at this)
  rw [hf] at L4
  have t1 : (ofS 11 v a k != ofS 3 v a (pw k)) = false := bne_eq_false_iff_eq.2 L1
  have t2 : (ofS 12 v a k != ofS 4 v a (pw k)) = false := bne_eq_false_iff_eq.2 L2
  have t3 : (decide (v ≤ pw v - 1)) = true := decide_eq_true (by omega)
  have t4 : (!(f == 0) == (ofS 11 v (ofS 13 v a k) k == a % pw v)) = false := by
    have : (f == 0) = (ofS 11 v (ofS 13 v a k) k == a % pw v) := by rw [Bool.eq_iff_iff, beq_iff_eq, beq_iff_eq]; exact L4
    rw [← this]; cases (f == 0) <;> rfl
  have t5 : decide (sg (pw v) a ≤ sg (pw v) b) = true → decide (sg (pw v) (ofS 13 v a k) ≤ sg (pw v) (ofS 13 v b k)) = true := fun h => decide_eq_true (L5 (of_decide_eq_true h))
  have tp : pw k ≤ pw v - 1 := by omega
  replace t5 := hide t5
  replace ha := hide ha
  replace hb := hide hb
  replace hw := hide hw
  replace hn := hide hn
  clear L1 L2 L3 L4 L5 hM hH hw2 hpk hpl hvl hf hx11 hx13
  have hB := Below.refl W.heap.size W
  go_enter Try.func11, Try.ntmps11
  go_wp2_with fail
  refine (lives_any _).mono ?_; rintro e w1 ⟨rfl, hx⟩
  replace hB := below_next hB (Nat.le_refl _) hx
  clear hx
  go_wp2_with fail
  refine (width_v w v _ hw.out hv'.out).mono ?_; rintro e w1 ⟨rfl, rfl⟩
  cases t6 : decide (sg (pw v) b < sg (pw v) a)
  all_goals
    have t7 : decide (sg (pw v) b < sg (pw v) a) = false → decide (sg (pw v) (ofS 13 v a k) ≤ sg (pw v) (ofS 13 v b k)) = true := fun h => t5.out (decide_eq_true (by have := of_decide_eq_false h; omega))
    first
      | (have t8 := t7 t6; replace t7 := hide t7)
      | replace t7 := hide t7
    go_wp2_with (first | (go_at_call 32; refine (mask_ok v _ h1 h2).mono ?_; rintro e w1 ⟨rfl, rfl⟩) | (go_at_call 34; refine (signed_ok v _ _ h1 h2).mono ?_; rintro e w1 ⟨rfl, rfl⟩) | (go_at_call 33; refine (of_any _ v _ _ _ (by first | exact ha.out | exact hb.out | exact hU.out _ _ _ (by decide) (by decide)) (by first | exact hku.out | exact hpu.out)).mono ?_; rintro e w1 ⟨rfl, hx⟩; replace hB := below_next hB (Nat.le_refl _) hx; clear hx))
    all_goals (refine (c11.out _).mono ?_; rintro e w1 ⟨rfl, hx⟩; replace hB := below_next hB (Nat.le_refl _) hx; clear hx)
    all_goals go_wp2_with fail
    all_goals (refine (c13.out _).mono ?_; rintro e w1 ⟨rfl, hx⟩; replace hB := below_next hB (Nat.le_refl _) hx; clear hx)
    all_goals go_wp2_with (first | (go_at_call 32; refine (mask_ok v _ h1 h2).mono ?_; rintro e w1 ⟨rfl, rfl⟩) | (go_at_call 34; refine (signed_ok v _ _ h1 h2).mono ?_; rintro e w1 ⟨rfl, rfl⟩) | (go_at_call 33; refine (of_any _ v _ _ _ (by first | exact ha.out | exact hb.out | exact hU.out _ _ _ (by decide) (by decide)) (by first | exact hku.out | exact hpu.out)).mono ?_; rintro e w1 ⟨rfl, hx⟩; replace hB := below_next hB (Nat.le_refl _) hx; clear hx))
    all_goals go_ret
    all_goals exact ⟨rfl, hB⟩
end Go.Proofs.Ytmcleghbpdenlaa
