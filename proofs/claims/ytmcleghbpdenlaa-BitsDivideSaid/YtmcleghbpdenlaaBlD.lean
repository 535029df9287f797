/- BitsDivide, walked. No condition. -/
import Derived.Test.YtmcleghbpdenlaaBlB
import Derived.Test.YtmcleghbpdenlaaBwD
namespace Go.Proofs.Ytmcleghbpdenlaa
open Go.RowKit
set_option linter.unusedSimpArgs false
set_option linter.unusedVariables false

/-- all that BitsDivide asks -/
theorem divide_law {v a b : Int} (h1 : 1 ≤ v) (h2 : v ≤ 64) :
    (b % pw v = 0 → applyS 4 v 0 a b = (0, 2) ∧ applyS 6 v 0 a b = (0, 2)) ∧
    (b % pw v ≠ 0 → (applyS 4 v 0 a b).2 = 0 ∧ (applyS 6 v 0 a b).2 = 0 ∧ ofS 1 v (ofS 3 v (applyS 4 v 0 a b).1 b) (applyS 6 v 0 a b).1 = a % pw v ∧ (applyS 6 v 0 a b).1 < b % pw v ∧
      (applyS 5 v 0 a b).2 = (applyS 7 v 0 a b).2 ∧
      ((applyS 5 v 0 a b).2 = 2 ∧ b % pw v = pw v - 1 ∧ a % pw v = (pw v - 1) / 2 + 1 ∨
       (applyS 5 v 0 a b).2 = 0 ∧ ofS 1 v (ofS 3 v (applyS 5 v 0 a b).1 b) (applyS 7 v 0 a b).1 = a % pw v ∧ (sg (pw v) (applyS 7 v 0 a b).1 = 0 ∨ decide (sg (pw v) (applyS 7 v 0 a b).1 < 0) = decide (sg (pw v) a < 0)))) := by
  obtain ⟨hM, hH, hw⟩ := wid h1 h2
  have hA : 0 ≤ a % pw v ∧ a % pw v < pw v := ⟨Int.emod_nonneg a (by omega), Int.emod_lt_of_pos a (by omega)⟩
  have hB : 0 ≤ b % pw v ∧ b % pw v < pw v := ⟨Int.emod_nonneg b (by omega), Int.emod_lt_of_pos b (by omega)⟩
  have z4 := applyS_zero (op := 4) (a := a) (b := b) h1 h2 (by decide) (by decide)
  have z5 := applyS_zero (op := 5) (a := a) (b := b) h1 h2 (by decide) (by decide)
  have z6 := applyS_zero (op := 6) (a := a) (b := b) h1 h2 (by decide) (by decide)
  have z7 := applyS_zero (op := 7) (a := a) (b := b) h1 h2 (by decide) (by decide)
  constructor
  · intro h0
    rw [z4, z6, h0]
    constructor <;> simp [opS, divOut]
  · intro h0
    have hb0 : (b % pw v == 0) = false := beq_eq_false_iff_ne.2 h0
    have q0 : 0 ≤ a % pw v / (b % pw v) := Int.ediv_nonneg hA.1 hB.1
    have q1 : a % pw v / (b % pw v) ≤ a % pw v := Int.ediv_le_self _ hA.1
    have r0 : 0 ≤ a % pw v % (b % pw v) := Int.emod_nonneg _ h0
    have r1 : a % pw v % (b % pw v) < b % pw v := Int.emod_lt_of_pos _ (by omega)
    have e4 : applyS 4 v 0 a b = (a % pw v / (b % pw v), 0) := by
      rw [z4]; simp [opS, divOut, hb0, divQ, Int.emod_eq_of_lt q0 (show a % pw v / (b % pw v) < pw v by omega)]
    have e6 : applyS 6 v 0 a b = (a % pw v % (b % pw v), 0) := by
      rw [z6]; simp [opS, divOut, hb0, divR, Int.emod_eq_of_lt r0 (show a % pw v % (b % pw v) < pw v by omega)]
    have o1 : ∀ x y : Int, ofS 1 v x y = (x + y) % pw v := fun x y => by rw [ofS_eq h1 h2 (by decide) (by decide), of_add]
    have o3 : ∀ x y : Int, ofS 3 v x y = (x * y) % pw v := fun x y => by rw [ofS_eq h1 h2 (by decide) (by decide), of_mul]
    rw [e4, e6]
    refine ⟨rfl, rfl, ?_, r1, ?_⟩
    · rw [o1, o3]
      show (a % pw v / (b % pw v) * b % pw v + a % pw v % (b % pw v)) % pw v = a % pw v
      rw [Int.mul_emod (a % pw v / (b % pw v)) b, ← Int.emod_emod_of_dvd b (Int.dvd_refl (pw v)), ← Int.mul_emod, Int.emod_add_emod]
      simp only [Int.emod_emod]
      have := Int.mul_ediv_add_emod (a % pw v) (b % pw v)
      rw [Int.mul_comm] at this
      rw [this, Int.emod_emod]
    · have hx := sg_in (v := a % pw v) hH
      have hy := sg_in (v := b % pw v) hH
      rw [← hM] at hx hy
      have hy0 : sg (pw v) (b % pw v) ≠ 0 := fun h => h0 ((sg_zero h1 h2 hB).1 h)
      have hout := (div_out (B := b % pw v) h1 h2 hA).resolve_right hy0
      cases ho : inR (pw v) ((sg (pw v) (a % pw v)).tdiv (sg (pw v) (b % pw v)))
      · have d5 : applyS 5 v 0 a b = (0, 2) := by rw [z5]; simp [opS, divOut, ho]
        have d7 : applyS 7 v 0 a b = (0, 2) := by rw [z7]; simp [opS, divOut, ho]
        rw [d5, d7]
        rw [ho] at hout
        simp only [Bool.not_false, Bool.and_eq_true, decide_eq_true_eq] at hout
        refine ⟨rfl, .inl ⟨rfl, ?_, ?_⟩⟩
        · have := sg_A (H := pw (v - 1)) hB.1 (by omega)
          rw [← hM, hout.1] at this
          split at this <;> omega
        · omega
      · have d5 : applyS 5 v 0 a b = ((sg (pw v) (a % pw v)).tdiv (sg (pw v) (b % pw v)) % pw v, 0) := by rw [z5]; simp [opS, divOut, ho, hb0, divQ]
        have d7 : applyS 7 v 0 a b = ((sg (pw v) (a % pw v)).tmod (sg (pw v) (b % pw v)) % pw v, 0) := by rw [z7]; simp [opS, divOut, ho, hb0, divR]
        rw [d5, d7]
        refine ⟨rfl, .inr ⟨rfl, ?_, ?_⟩⟩
        · rw [o1, o3]
          show ((sg (pw v) (a % pw v)).tdiv (sg (pw v) (b % pw v)) % pw v * b % pw v + (sg (pw v) (a % pw v)).tmod (sg (pw v) (b % pw v)) % pw v) % pw v = a % pw v
          have eb : b % pw v = sg (pw v) (b % pw v) % pw v := by rw [sg_mod (by omega), Int.emod_emod]
          have ea : a % pw v = sg (pw v) (a % pw v) % pw v := by rw [sg_mod (by omega), Int.emod_emod]
          have hd := Int.tmod_add_mul_tdiv (sg (pw v) (a % pw v)) (sg (pw v) (b % pw v))
          rw [Int.mul_emod _ b, Int.emod_emod, Int.emod_add_emod, Int.add_emod_emod]
          generalize hX : sg (pw v) (a % pw v) = X at *
          generalize hY : sg (pw v) (b % pw v) = Y at *
          rw [eb, ← Int.add_emod_emod, ← Int.emod_add_emod, ← Int.mul_emod, Int.emod_add_emod, Int.add_emod_emod, Int.mul_comm, Int.add_comm, hd, ← ea]
        · have hr : sg (pw v) ((sg (pw v) (a % pw v)).tmod (sg (pw v) (b % pw v)) % pw v) = (sg (pw v) (a % pw v)).tmod (sg (pw v) (b % pw v)) := by
            rw [sg_cut, hM]
            have a3 : ((sg (pw v) (a % pw v)).tmod (sg (pw v) (b % pw v))).natAbs = (sg (pw v) (a % pw v)).natAbs % (sg (pw v) (b % pw v)).natAbs := Int.natAbs_tmod _ _
            have a4 := Nat.mod_lt (sg (pw v) (a % pw v)).natAbs (y := (sg (pw v) (b % pw v)).natAbs) (by omega)
            rw [← a3] at a4
            rw [← hM]
            generalize (sg (pw v) (a % pw v)).tmod (sg (pw v) (b % pw v)) = q at *
            rw [hM]
            exact sg_id (by omega) (by omega)
          have hsa : sg (pw v) a = sg (pw v) (a % pw v) := sg_cut.symm
          show sg (pw v) ((sg (pw v) (a % pw v)).tmod (sg (pw v) (b % pw v)) % pw v) = 0 ∨ _
          rw [hr, hsa]
          have s1 := Int.tmod_nonneg (sg (pw v) (b % pw v)) (a := sg (pw v) (a % pw v))
          have s2 := Int.tmod_nonneg (sg (pw v) (b % pw v)) (a := -sg (pw v) (a % pw v))
          rw [Int.neg_tmod] at s2
          by_cases hz : (sg (pw v) (a % pw v)).tmod (sg (pw v) (b % pw v)) = 0
          · exact .inl hz
          · right
            rw [decide_eq_decide]
            rcases Int.lt_or_le (sg (pw v) (a % pw v)) 0 with h | h
            · have := s2 (by omega); omega
            · have := s1 h; omega

set_option maxRecDepth 100000 in
set_option maxHeartbeats 4000000 in
theorem law_divide (w a b : Int) (W : World) (hw : I64b w) (ha : U64 a) (hb : U64 b) :
    Calls Try.prog 8 #[.int .i64 w, .int .u64 a, .int .u64 b] W fun e w' => e = .returned (.bool true) ∧ Below W.heap.size W w' := by
  obtain ⟨v, hv⟩ : ∃ v, v = 1 + w % 64 := ⟨_, rfl⟩
  have h1 : 1 ≤ v := by omega
  have h2 : v ≤ 64 := by omega
  have hv' := hide hv
  clear hv
  obtain ⟨L0, L1⟩ := divide_law (a := a) (b := b) h1 h2
  have am : bits .and .u64 a (pw v - 1) = a % pw v := and_mask ha.1 ha.2 (by omega) h2
  have bm : bits .and .u64 b (pw v - 1) = b % pw v := and_mask hb.1 hb.2 (by omega) h2
  have hle := pw_le (w := v) (by omega) h2
  have hin : ∀ op a b : Int, 1 ≤ op → op ≤ 19 → U64 (applyS op v 0 a b).1 := fun op a b h3 h4 => ofS_u h1 h2 h3 h4
  have hU : Hid (∀ op a b : Int, 1 ≤ op → op ≤ 19 → U64 (ofS op v a b)) := hide (fun op a b h3 h4 => ofS_u h1 h2 h3 h4)
  have hB := Below.refl W.heap.size W
  by_cases h0 : b % pw v = 0
  · obtain ⟨e4, e6⟩ := L0 h0
    have c4 : Hid (∀ W, Calls Try.prog 27 #[.int .i64 4, .int .i64 v, .int .i64 0, .int .u64 a, .int .u64 b] W fun e w' => e = .returned (.tuple #[.int .u64 0, .int .i64 2]) ∧ Below W.heap.size W w') := hide (fun W => by
      have := apply_t 4 v 0 a b W ha hb
      rwa [e4] at this)
    have c6 : Hid (∀ W, Calls Try.prog 27 #[.int .i64 6, .int .i64 v, .int .i64 0, .int .u64 a, .int .u64 b] W fun e w' => e = .returned (.tuple #[.int .u64 0, .int .i64 2]) ∧ Below W.heap.size W w') := hide (fun W => by
      have := apply_t 6 v 0 a b W ha hb
      rwa [e6] at this)
    have t0 : (b % pw v == 0) = true := beq_iff_eq.2 h0
    replace ha := hide ha
    replace hb := hide hb
    replace hw := hide hw
    clear L0 L1 e4 e6 h0 hle hin am
    go_enter Try.func8, Try.ntmps8
    go_wp2_with fail
    refine (lives_any _).mono ?_; rintro e w1 ⟨rfl, hx⟩
    replace hB := below_next hB (Nat.le_refl _) hx
    clear hx
    go_wp2_with fail
    refine (width_v w v _ hw.out hv'.out).mono ?_; rintro e w1 ⟨rfl, rfl⟩
    go_wp2_with fail
    refine (mask_ok v _ h1 h2).mono ?_; rintro e w1 ⟨rfl, rfl⟩
    go_wp2_with fail
    refine (c4.out _).mono ?_; rintro e w1 ⟨rfl, hx⟩
    replace hB := below_next hB (Nat.le_refl _) hx
    clear hx
    go_wp2_with fail
    refine (c6.out _).mono ?_; rintro e w1 ⟨rfl, hx⟩
    replace hB := below_next hB (Nat.le_refl _) hx
    clear hx
    go_wp2
    go_ret
    exact ⟨rfl, hB⟩
  · obtain ⟨e4, e6, L2, L3, e57, L4⟩ := L1 h0
    obtain ⟨q, hq⟩ : ∃ q, (applyS 4 v 0 a b).1 = q := ⟨_, rfl⟩
    obtain ⟨r, hr⟩ : ∃ r, (applyS 6 v 0 a b).1 = r := ⟨_, rfl⟩
    obtain ⟨s, hs⟩ : ∃ s, (applyS 5 v 0 a b).1 = s := ⟨_, rfl⟩
    obtain ⟨t, ht⟩ : ∃ t, (applyS 7 v 0 a b).1 = t := ⟨_, rfl⟩
    obtain ⟨k, hk⟩ : ∃ k, (applyS 5 v 0 a b).2 = k := ⟨_, rfl⟩
    have q6 := hin 4 a b (by decide) (by decide)
    have r6 := hin 6 a b (by decide) (by decide)
    have s6 := hin 5 a b (by decide) (by decide)
    have t6 := hin 7 a b (by decide) (by decide)
    have c4 : Hid (∀ W, Calls Try.prog 27 #[.int .i64 4, .int .i64 v, .int .i64 0, .int .u64 a, .int .u64 b] W fun e w' => e = .returned (.tuple #[.int .u64 q, .int .i64 0]) ∧ Below W.heap.size W w') := hide (fun W => by
      have := apply_t 4 v 0 a b W ha hb
      rwa [e4, hq] at this)
    have c6 : Hid (∀ W, Calls Try.prog 27 #[.int .i64 6, .int .i64 v, .int .i64 0, .int .u64 a, .int .u64 b] W fun e w' => e = .returned (.tuple #[.int .u64 r, .int .i64 0]) ∧ Below W.heap.size W w') := hide (fun W => by
      have := apply_t 6 v 0 a b W ha hb
      rwa [e6, hr] at this)
    have c5 : Hid (∀ W, Calls Try.prog 27 #[.int .i64 5, .int .i64 v, .int .i64 0, .int .u64 a, .int .u64 b] W fun e w' => e = .returned (.tuple #[.int .u64 s, .int .i64 k]) ∧ Below W.heap.size W w') := hide (fun W => by
      have := apply_t 5 v 0 a b W ha hb
      rwa [hk, hs] at this)
    have c7 : Hid (∀ W, Calls Try.prog 27 #[.int .i64 7, .int .i64 v, .int .i64 0, .int .u64 a, .int .u64 b] W fun e w' => e = .returned (.tuple #[.int .u64 t, .int .i64 k]) ∧ Below W.heap.size W w') := hide (fun W => by
      have := apply_t 7 v 0 a b W ha hb
      rwa [← e57, hk, ht] at this)
    rw [hq] at L2 q6
    rw [hr] at L2 L3 r6
    rw [hs] at L4 s6
    rw [ht] at L4 t6
    rw [hk] at L4
    have t0 : (b % pw v == 0) = false := beq_eq_false_iff_ne.2 h0
    have t1 : (ofS 1 v (ofS 3 v q b) r != a % pw v) = false := bne_eq_false_iff_eq.2 L2
    have t2 : r < b % pw v := L3
    clear L0 L1 L2 e4 e6 e57 hq hr hs ht hk hin h0 hle
    replace q6 := hide q6
    replace r6 := hide r6
    replace s6 := hide s6
    replace t6 := hide t6
    replace ha := hide ha
    replace hb := hide hb
    replace hw := hide hw
    rcases L4 with ⟨rfl, g1, g2⟩ | ⟨rfl, g1, g2⟩
    · have t3 : (b % pw v == pw v - 1) = true := beq_iff_eq.2 g1
      have t4 : (a % pw v == (pw v - 1) / 2 + 1) = true := beq_iff_eq.2 g2
      have hp := wid h1 h2
      have hq0 : 0 ≤ (pw v - 1) / 2 := by omega
      have hq1 : (pw v - 1) / 2 ≤ 9223372036854775807 := by omega
      have hm0 : 0 ≤ pw v - 1 := by omega
      clear g1 g2 hp
      go_enter Try.func8, Try.ntmps8
      go_wp2_with fail
      refine (lives_any _).mono ?_; rintro e w1 ⟨rfl, hx⟩
      replace hB := below_next hB (Nat.le_refl _) hx
      clear hx
      go_wp2_with fail
      refine (width_v w v _ hw.out hv'.out).mono ?_; rintro e w1 ⟨rfl, rfl⟩
      go_wp2_with fail
      refine (mask_ok v _ h1 h2).mono ?_; rintro e w1 ⟨rfl, rfl⟩
      go_wp2_with fail
      refine (c4.out _).mono ?_; rintro e w1 ⟨rfl, hx⟩
      replace hB := below_next hB (Nat.le_refl _) hx
      clear hx
      go_wp2_with fail
      refine (c6.out _).mono ?_; rintro e w1 ⟨rfl, hx⟩
      replace hB := below_next hB (Nat.le_refl _) hx
      clear hx
      go_wp2_with (go_at_call 33; refine (of_any _ v _ _ _ (by first | exact q6.out | exact hU.out _ _ _ (by decide) (by decide)) (by first | exact hb.out | exact r6.out)).mono ?_; rintro e w1 ⟨rfl, hx⟩; replace hB := below_next hB (Nat.le_refl _) hx; clear hx)
      refine (c5.out _).mono ?_; rintro e w1 ⟨rfl, hx⟩
      replace hB := below_next hB (Nat.le_refl _) hx
      clear hx
      go_wp2_with fail
      refine (c7.out _).mono ?_; rintro e w1 ⟨rfl, hx⟩
      replace hB := below_next hB (Nat.le_refl _) hx
      clear hx
      go_wp2
      go_ret
      exact ⟨rfl, hB⟩
    · have t3 : (ofS 1 v (ofS 3 v s b) t == a % pw v) = true := beq_iff_eq.2 g1
      clear g1
      have g3 : (sg (pw v) t == 0) = true ∨ (sg (pw v) t == 0) = false ∧ (decide (sg (pw v) t < 0) == decide (sg (pw v) a < 0)) = true := by
        by_cases hz : sg (pw v) t = 0
        · exact .inl (beq_iff_eq.2 hz)
        · exact .inr ⟨beq_eq_false_iff_ne.2 hz, beq_iff_eq.2 (g2.resolve_left hz)⟩
      clear g2
      rcases g3 with g3 | ⟨g3, g4⟩
      all_goals
        go_enter Try.func8, Try.ntmps8
        go_wp2_with fail
        refine (lives_any _).mono ?_; rintro e w1 ⟨rfl, hx⟩
        replace hB := below_next hB (Nat.le_refl _) hx
        clear hx
        go_wp2_with fail
        refine (width_v w v _ hw.out hv'.out).mono ?_; rintro e w1 ⟨rfl, rfl⟩
        go_wp2_with fail
        refine (mask_ok v _ h1 h2).mono ?_; rintro e w1 ⟨rfl, rfl⟩
        go_wp2_with fail
        refine (c4.out _).mono ?_; rintro e w1 ⟨rfl, hx⟩
        replace hB := below_next hB (Nat.le_refl _) hx
        clear hx
        go_wp2_with fail
        refine (c6.out _).mono ?_; rintro e w1 ⟨rfl, hx⟩
        replace hB := below_next hB (Nat.le_refl _) hx
        clear hx
        go_wp2_with (go_at_call 33; refine (of_any _ v _ _ _ (by first | exact q6.out | exact hU.out _ _ _ (by decide) (by decide)) (by first | exact hb.out | exact r6.out)).mono ?_; rintro e w1 ⟨rfl, hx⟩; replace hB := below_next hB (Nat.le_refl _) hx; clear hx)
        refine (c5.out _).mono ?_; rintro e w1 ⟨rfl, hx⟩
        replace hB := below_next hB (Nat.le_refl _) hx
        clear hx
        go_wp2_with fail
        refine (c7.out _).mono ?_; rintro e w1 ⟨rfl, hx⟩
        replace hB := below_next hB (Nat.le_refl _) hx
        clear hx
        go_wp2_with (first | (go_at_call 33; refine (of_any _ v _ _ _ (by first | exact s6.out | exact hU.out _ _ _ (by decide) (by decide)) (by first | exact hb.out | exact t6.out)).mono ?_; rintro e w1 ⟨rfl, hx⟩; replace hB := below_next hB (Nat.le_refl _) hx; clear hx) | (go_at_call 34; refine (signed_ok v _ _ h1 h2).mono ?_; rintro e w1 ⟨rfl, rfl⟩))
        go_ret
        exact ⟨rfl, hB⟩
end Go.Proofs.Ytmcleghbpdenlaa
