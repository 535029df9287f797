/- bits.ring, walked: products. No condition. -/
import Derived.Test.YtmcleghbpdenlaaBwB
namespace Go.Proofs.Ytmcleghbpdenlaa
open Go.RowKit
set_option linter.unusedSimpArgs false
set_option linter.unusedVariables false

set_option maxRecDepth 100000 in
set_option maxHeartbeats 2000000 in
theorem ring_mul (w f A B : Int) (W : World) (h1 : 1 ≤ w) (h2 : w ≤ 64) (hA : 0 ≤ A ∧ A < pw w) (hB : 0 ≤ B ∧ B < pw w) :
    Calls Try.prog 47 #[.int .i64 3, .int .i64 w, .int .i64 f, .int .u64 A, .int .u64 B] W fun e w' => e = .returned (pairV (ringR 3 (pw w) A B f)) ∧ W = w' := by
  obtain ⟨a, rfl⟩ := Int.eq_ofNat_of_zero_le hA.1
  obtain ⟨b, rfl⟩ := Int.eq_ofNat_of_zero_le hB.1
  have hab : 0 ≤ (a : Int) * b := Int.mul_nonneg hA.1 hB.1
  have hle := pw_le (w := w) (by omega) h2
  have ha6 : Hid (a < 18446744073709551616) := hide (by omega)
  have hb6 : Hid (b < 18446744073709551616) := hide (by omega)
  clear hle
  obtain ⟨hM, hH, hw⟩ := wid h1 h2
  have hx := sg_in (v := (a : Int)) hH
  have hy := sg_in (v := (b : Int)) hH
  rw [← hM] at hx hy
  have g1 : True := trivial
  replace hM := hide hM
  replace hw := hide hw
  replace hx := hide hx
  replace hy := hide hy
  go_enter Try.func47, Try.ntmps47
  go_wp2_with fail
  refine (signed_ok w (a : Int) _ h1 h2).mono ?_; rintro e w' ⟨rfl, rfl⟩
  go_wp2_with fail
  refine (signed_ok w (b : Int) _ h1 h2).mono ?_; rintro e w' ⟨rfl, rfl⟩
  go_upto_block 0 with (fail)
  go_cut [14, 15, 16, 17] (fun s14 s15 s16 s17 wx => s14 = .int .u64 (((a : Int) * b) % 18446744073709551616) ∧ s15 = .bool (outU (pw w) ((a : Int) * b)) ∧ s16 = .bool (false) ∧ s17 = .bool (!inR (pw w) (sg (pw w) (a : Int) * sg (pw w) (b : Int))) ∧ wx = W)
  case first =>
    go_wp2_with (first | (go_at_call 63; refine (mul64_any a b _ ha6.out hb6.out).mono ?_; rintro e w' ⟨rfl, rfl⟩) | (go_at_call 64; refine (product_any w _ _ _ h1 h2 hx.out hy.out).mono ?_; rintro e w' ⟨rfl, rfl⟩) | (go_at_call 32; refine (mask_ok w _ h1 h2).mono ?_; rintro e w' ⟨rfl, rfl⟩) | (go_at_call 34; refine (signed_ok w _ _ h1 h2).mono ?_; rintro e w' ⟨rfl, rfl⟩))
    all_goals go_meet
    all_goals
      have hM' := hM.out
      have hw' := hw.out
      refine ⟨rfl, congrArg Value.bool ?_, rfl, rfl, rfl⟩
      any_goals
        rw [Bool.eq_iff_iff]
        simp only [outU, Bool.or_eq_true, decide_eq_true_eq, beq_iff_eq, bne_iff_ne, ne_eq, true_iff, iff_true, Bool.false_eq_true, false_iff]
        omega
      try any_goals
        rw [← g1.out, Bool.eq_iff_iff]
        simp only [w64_is, sg_u h1 h2, Bool.or_eq_true, Bool.and_eq_true, decide_eq_true_eq, bne_iff_ne, ne_eq, true_iff, iff_true]
        omega
  case rest =>
    obtain ⟨rfl, rfl, rfl, rfl, rfl⟩ := hcut
    have hr : Hid (ringBad 3 (pw w) a b (nuw f) (nsw f) = (nuw f && outU (pw w) ((a : Int) * b) || nsw f && !inR (pw w) (sg (pw w) (a : Int) * sg (pw w) (b : Int)))) := hide rfl
    cases e1 : outU (pw w) ((a : Int) * b)
    all_goals cases e2 : inR (pw w) (sg (pw w) (a : Int) * sg (pw w) (b : Int))
    all_goals go_wp2
    all_goals go_ret2
    all_goals
      refine ⟨?_, rfl⟩
      first
        | exact ringR_bad (by rw [hr.out]; simp [nuw, nsw, *])
        | exact ringR_ok (by rw [hr.out]; simp [nuw, nsw, *]) rfl

end Go.Proofs.Ytmcleghbpdenlaa
