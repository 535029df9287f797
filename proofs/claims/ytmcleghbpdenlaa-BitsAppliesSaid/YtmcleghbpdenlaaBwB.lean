/- bits.ring, walked. No condition. -/
import Derived.Test.YtmcleghbpdenlaaBwA
import Derived.Deep.DeepCutAuto
import Derived.Deep.CutBlock
namespace Go.Proofs.Ytmcleghbpdenlaa
open Go.RowKit
set_option linter.unusedSimpArgs false
set_option linter.unusedVariables false

theorem w64_is (n : Int) : w64 n = wrap64 n := by unfold w64 wrap64; rfl
theorem sg_u {w t : Int} (h1 : 1 ≤ w) (h2 : w ≤ 64) : sg (pw w) (IntKind.u64.wrap t) = sg (pw w) t := by
  rw [wrap_u]
  exact sg_of_mod (Int.emod_emod_of_dvd _ ⟨_, (pw_rest (by omega) h2).symm⟩)

def nuw (f : Int) : Bool := bits .and .i64 f 2 != 0
def nsw (f : Int) : Bool := bits .and .i64 f 1 != 0
def exa (f : Int) : Bool := bits .and .i64 f 4 != 0
def pairV (p : Int × Int) : Value := .tuple #[.int .u64 p.1, .int .i64 p.2]
def ringR (op M A B f : Int) : Int × Int := if ringBad op M A B (nuw f) (nsw f) then (0, 1) else (ringU op A B % 18446744073709551616, 0)
theorem ringR_bad {op M A B f : Int} (h : ringBad op M A B (nuw f) (nsw f) = true) : Ending.returned (.tuple #[.int .u64 0, .int .i64 1]) = .returned (pairV (ringR op M A B f)) := by rw [ringR, if_pos h]; rfl
theorem ringR_ok {op M A B f v : Int} (h : ringBad op M A B (nuw f) (nsw f) = false) (hv : v = ringU op A B % 18446744073709551616) : Ending.returned (.tuple #[.int .u64 v, .int .i64 0]) = .returned (pairV (ringR op M A B f)) := by
  rw [ringR, if_neg (by rw [h]; decide), hv]; rfl

set_option maxRecDepth 100000 in
set_option maxHeartbeats 2000000 in
theorem ring_add (w f A B : Int) (W : World) (h1 : 1 ≤ w) (h2 : w ≤ 64) (hA : 0 ≤ A ∧ A < pw w) (hB : 0 ≤ B ∧ B < pw w) :
    Calls Try.prog 47 #[.int .i64 1, .int .i64 w, .int .i64 f, .int .u64 A, .int .u64 B] W fun e w' => e = .returned (pairV (ringR 1 (pw w) A B f)) ∧ W = w' := by
  obtain ⟨hM, hH, hw⟩ := wid h1 h2
  have hx := sg_in (v := A) hH
  have hy := sg_in (v := B) hH
  rw [← hM] at hx hy
  have g1 := hide (wraps_add h1 h2 hx hy)
  replace hM := hide hM
  replace hw := hide hw
  replace hx := hide hx
  replace hy := hide hy
  go_enter Try.func47, Try.ntmps47
  go_wp2_with fail
  refine (signed_ok w A _ h1 h2).mono ?_; rintro e w' ⟨rfl, rfl⟩
  go_wp2_with fail
  refine (signed_ok w B _ h1 h2).mono ?_; rintro e w' ⟨rfl, rfl⟩
  go_upto_block 0 with (fail)
  go_cut [14, 15, 16, 17] (fun s14 s15 s16 s17 wx => s14 = .int .u64 ((A + B) % 18446744073709551616) ∧ s15 = .bool (outU (pw w) (A + B)) ∧ s16 = .bool (false) ∧ s17 = .bool (!inR (pw w) (sg (pw w) A + sg (pw w) B)) ∧ wx = W)
  case first =>
    go_wp2_with (first | (simp only [run_add A B hA.1 hB.1]) | (go_at_call 32; refine (mask_ok w _ h1 h2).mono ?_; rintro e w' ⟨rfl, rfl⟩) | (go_at_call 34; refine (signed_ok w _ _ h1 h2).mono ?_; rintro e w' ⟨rfl, rfl⟩))
    all_goals go_meet
    all_goals
      have hM' := hM.out
      have hw' := hw.out
      refine ⟨rfl, congrArg Value.bool ?_, rfl, congrArg Value.bool ?_, rfl⟩
      any_goals
        rw [Bool.eq_iff_iff]
        simp only [outU, Bool.or_eq_true, decide_eq_true_eq, beq_iff_eq, bne_iff_ne, ne_eq, true_iff, iff_true, Bool.false_eq_true, false_iff]
        omega
      any_goals
        rw [← g1.out, Bool.eq_iff_iff]
        simp only [w64_is, sg_u h1 h2, Bool.or_eq_true, Bool.and_eq_true, decide_eq_true_eq, bne_iff_ne, ne_eq, true_iff, iff_true]
        omega
  case rest =>
    obtain ⟨rfl, rfl, rfl, rfl, rfl⟩ := hcut
    have hr : Hid (ringBad 1 (pw w) A B (nuw f) (nsw f) = (nuw f && outU (pw w) (A + B) || nsw f && !inR (pw w) (sg (pw w) A + sg (pw w) B))) := hide rfl
    cases e1 : outU (pw w) (A + B)
    all_goals cases e2 : inR (pw w) (sg (pw w) A + sg (pw w) B)
    all_goals go_wp2
    all_goals go_ret2
    all_goals
      refine ⟨?_, rfl⟩
      first
        | exact ringR_bad (by rw [hr.out]; simp [nuw, nsw, *])
        | exact ringR_ok (by rw [hr.out]; simp [nuw, nsw, *]) rfl

end Go.Proofs.Ytmcleghbpdenlaa
