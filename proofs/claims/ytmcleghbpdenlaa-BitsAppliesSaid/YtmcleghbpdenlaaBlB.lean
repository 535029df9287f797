/- lathelaw01: what 'of' ends with; BitsRing, walked. No condition. -/
import Derived.Test.YtmcleghbpdenlaaBlA
namespace Go.Proofs.Ytmcleghbpdenlaa
open Go.RowKit
set_option linter.unusedSimpArgs false
set_option linter.unusedVariables false

theorem badF_zero (op : Int) : badF op 0 = false := by
  unfold badF flagsOf
  split
  · decide +kernel
  · split <;> decide +kernel
theorem nuw_zero : nuw 0 = false := by decide +kernel
theorem nsw_zero : nsw 0 = false := by decide +kernel
theorem exa_zero : exa 0 = false := by decide +kernel
theorem applyS_zero {op v a b : Int} (h1 : 1 ≤ v) (h2 : v ≤ 64) (h3 : 1 ≤ op) (h4 : op ≤ 19) : applyS op v 0 a b = opS op v (pw v) (a % pw v) (b % pw v) false false false := by
  rw [applyS_yes h1 h2 h3 h4 (badF_zero op), nuw_zero, nsw_zero, exa_zero]
theorem ofS_eq {op v a b : Int} (h1 : 1 ≤ v) (h2 : v ≤ 64) (h3 : 1 ≤ op) (h4 : op ≤ 19) : ofS op v a b = ofV op v a b := by
  unfold ofS ofV; rw [applyS_zero h1 h2 h3 h4]
/-- what any operation ends with lies within the width -/
theorem opS_in {op v M A B : Int} {n1 n2 n3 : Bool} (hM : M = pw v) (h2 : 1 ≤ v) (hA : 0 ≤ A ∧ A < M) (hB : 0 ≤ B ∧ B < M) (hop : 1 ≤ op) : 0 ≤ (opS op v M A B n1 n2 n3).1 ∧ (opS op v M A B n1 n2 n3).1 < M := by
  have hp := wid (w := 1) (by decide) (by decide)
  have h1 : 2 ≤ M := by rw [hM, pw_half h2]; have := pw_pos (v - 1); omega
  have em : ∀ n : Int, 0 ≤ n % M ∧ n % M < M := fun n => ⟨Int.emod_nonneg n (by omega), Int.emod_lt_of_pos n (by omega)⟩
  have z : (0 : Int) ≤ 0 ∧ 0 < M := by omega
  unfold opS
  split
  · split
    · exact z
    · exact em _
  · split
    · split
      · exact z
      · split
        · exact em _
        · split
          · exact z
          · exact em _
    · split
      · subst hM; exact log_lt hA hB
      · split
        · split
          · exact z
          · split
            · exact z
            · exact em _
        · simp only
          split <;> omega
theorem ofS_in {op v a b : Int} (h1 : 1 ≤ v) (h2 : v ≤ 64) (h3 : 1 ≤ op) (h4 : op ≤ 19) : 0 ≤ ofS op v a b ∧ ofS op v a b < pw v := by
  have hp := pw_pos v
  unfold ofS
  rw [applyS_zero h1 h2 h3 h4]
  exact opS_in rfl h1 ⟨Int.emod_nonneg a (by omega), Int.emod_lt_of_pos a (by omega)⟩ ⟨Int.emod_nonneg b (by omega), Int.emod_lt_of_pos b (by omega)⟩ h3
theorem ofS_u {op v a b : Int} (h1 : 1 ≤ v) (h2 : v ≤ 64) (h3 : 1 ≤ op) (h4 : op ≤ 19) : U64 (ofS op v a b) := by
  have := ofS_in (a := a) (b := b) h1 h2 h3 h4
  have := pw_le (w := v) (by omega) h2
  exact ⟨by omega, by omega⟩
theorem width_v (w v : Int) (W : World) (hw : -9223372036854775808 ≤ w ∧ w ≤ 9223372036854775807) (hv : v = 1 + w % 64) : Calls Try.prog 31 #[.int .i64 w] W fun e w' => e = .returned (.int .i64 v) ∧ W = w' := by
  rw [hv]; exact width_any w W hw

abbrev I64b (n : Int) : Prop := -9223372036854775808 ≤ n ∧ n ≤ 9223372036854775807
set_option maxRecDepth 100000 in
set_option maxHeartbeats 2000000 in
theorem law_ring (w a b c : Int) (W : World) (hw : I64b w) (ha : U64 a) (hb : U64 b) (hc : U64 c) :
    Calls Try.prog 7 #[.int .i64 w, .int .u64 a, .int .u64 b, .int .u64 c] W fun e w' => e = .returned (.bool true) ∧ Below W.heap.size W w' := by
  obtain ⟨v, hv⟩ : ∃ v, v = 1 + w % 64 := ⟨_, rfl⟩
  have h1 : 1 ≤ v := by omega
  have h2 : v ≤ 64 := by omega
  have hv' := hide hv
  clear hv
  obtain ⟨l1, l2, l3, l4, l5, l6⟩ := ring_law v a b c
  simp only [← ofS_eq h1 h2 (show (1 : Int) ≤ 1 by decide) (show (1 : Int) ≤ 19 by decide), ← ofS_eq h1 h2 (show (1 : Int) ≤ 2 by decide) (show (2 : Int) ≤ 19 by decide), ← ofS_eq h1 h2 (show (1 : Int) ≤ 3 by decide) (show (3 : Int) ≤ 19 by decide)] at l1 l2 l3 l4 l5 l6
  have am : bits .and .u64 a (pw v - 1) = a % pw v := and_mask ha.1 ha.2 (by omega) h2
  have r1 : (ofS 1 v a b != ofS 1 v b a) = false := bne_eq_false_iff_eq.2 l1
  have r2 : (ofS 3 v a b != ofS 3 v b a) = false := bne_eq_false_iff_eq.2 l2
  have r3 : (ofS 2 v (ofS 1 v a b) b != a % pw v) = false := bne_eq_false_iff_eq.2 l3
  have r4 : (ofS 3 v a (ofS 1 v b c) == ofS 1 v (ofS 3 v a b) (ofS 3 v a c)) = true := beq_iff_eq.2 l4
  have r5 : (ofS 1 v (ofS 1 v a b) c == ofS 1 v a (ofS 1 v b c)) = true := beq_iff_eq.2 l5
  have r6 : (ofS 2 v a b == ofS 1 v a (ofS 2 v 0 b)) = true := beq_iff_eq.2 l6
  have hU : Hid (∀ op a b : Int, 1 ≤ op → op ≤ 19 → U64 (ofS op v a b)) := hide (fun op a b h3 h4 => ofS_u h1 h2 h3 h4)
  clear l1 l2 l3 l4 l5 l6
  have h0 : Hid (U64 0) := hide (by decide)
  replace ha := hide ha
  replace hb := hide hb
  replace hc := hide hc
  replace hw := hide hw
  have hB := Below.refl W.heap.size W
  go_enter Try.func7, Try.ntmps7
  go_wp2_with fail
  refine (lives_any _).mono ?_; rintro e w1 ⟨rfl, hx⟩
  replace hB := below_next hB (Nat.le_refl _) hx
  clear hx
  go_wp2_with fail
  refine (width_v w v _ hw.out hv'.out).mono ?_; rintro e w1 ⟨rfl, rfl⟩
  go_wp2_with (first | (go_at_call 32; refine (mask_ok v _ h1 h2).mono ?_; rintro e w1 ⟨rfl, rfl⟩) | (go_at_call 33; refine (of_any _ v _ _ _ (by first | exact ha.out | exact hb.out | exact hc.out | exact h0.out | exact hU.out _ _ _ (by decide) (by decide)) (by first | exact ha.out | exact hb.out | exact hc.out | exact hU.out _ _ _ (by decide) (by decide))).mono ?_; rintro e w1 ⟨rfl, hx⟩; replace hB := below_next hB (Nat.le_refl _) hx; clear hx))
  trace_state
  go_ret
  exact ⟨rfl, hB⟩
end Go.Proofs.Ytmcleghbpdenlaa
