/- bits.shift, walked. No condition. -/
import Derived.Test.YtmcleghbpdenlaaBwD
namespace Go.Proofs.Ytmcleghbpdenlaa
open Go.RowKit
set_option linter.unusedSimpArgs false
set_option linter.unusedVariables false

theorem and_mask {a w : Int} (h0 : 0 ≤ a) (h1 : a ≤ 18446744073709551615) (hw0 : 0 ≤ w) (hw : w ≤ 64) : bits .and .u64 a (pw w - 1) = a % pw w := by
  obtain ⟨n, rfl⟩ := Int.eq_ofNat_of_zero_le h0
  have hp := pw_nat w
  have hle := pw_le hw0 hw
  have h1p : 1 ≤ 2 ^ w.toNat := Nat.one_le_two_pow
  have e : pw w - 1 = ((2 ^ w.toNat - 1 : Nat) : Int) := by rw [hp]; omega
  rw [e, bits_and_u64_nat n (2 ^ w.toNat - 1) (by omega) (by omega), Nat.and_two_pow_sub_one_eq_mod, hp]
  simp
/-- bits.shift's answer -/
def shRes (op w M A B f : Int) : Int × Int :=
  if w ≤ B then (0, 1) else if shBad op M A B (nuw f) (nsw f) (exa f) then (0, 1) else (shV op M A B % 18446744073709551616, 0)
theorem shRes_big {op w M A B f : Int} (h : w ≤ B) : shRes op w M A B f = (0, 1) := if_pos h
theorem shRes_bad {op w M A B f : Int} (h : B < w) (hb : shBad op M A B (nuw f) (nsw f) (exa f) = true) : shRes op w M A B f = (0, 1) := by
  unfold shRes; rw [if_neg (by omega), if_pos hb]
theorem shRes_ok {op w M A B f v : Int} (h : B < w) (hb : shBad op M A B (nuw f) (nsw f) (exa f) = false) (hv : v = shV op M A B % 18446744073709551616) : shRes op w M A B f = (v, 0) := by
  unfold shRes; rw [if_neg (by omega), if_neg (by rw [hb]; decide), hv]

set_option maxRecDepth 100000 in
set_option maxHeartbeats 2000000 in
theorem shift_big (op w f A B : Int) (W : World) (h1 : 1 ≤ w) (h2 : w ≤ 64) (h : w ≤ B) (hB : B ≤ 18446744073709551615) :
    Calls Try.prog 49 #[.int .i64 op, .int .i64 w, .int .i64 f, .int .u64 A, .int .u64 B] W fun e w' => e = .returned (pairV (shRes op w (pw w) A B f)) ∧ Below W.heap.size W w' := by
  have e : Hid (shRes op w (pw w) A B f = (0, 1)) := hide (shRes_big h)
  go_enter Try.func49, Try.ntmps49
  go_wp2
  go_ret2
  exact ⟨ret_pair e.out, Below.refl _ _⟩

set_option maxRecDepth 100000 in
set_option maxHeartbeats 2000000 in
theorem shift_lshr (w f A B : Int) (W : World) (h1 : 1 ≤ w) (h2 : w ≤ 64) (hA : 0 ≤ A ∧ A < pw w) (hB : 0 ≤ B ∧ B < w) :
    Calls Try.prog 49 #[.int .i64 12, .int .i64 w, .int .i64 f, .int .u64 A, .int .u64 B] W fun e w' => e = .returned (pairV (shRes 12 w (pw w) A B f)) ∧ Below W.heap.size W w' := by
  have hx : (IntKind.u64.wrap (A / 2 ^ B.toNat * 2 ^ B.toNat) != A) = (A % pw B != 0) := by rw [wrap_u]; exact lshr_ex hB.1 hB.2 h2 hA
  have hle := pw_le (w := w) (by omega) h2
  have hpB := pw_pos B
  have q0 : 0 ≤ A / pw B := Int.ediv_nonneg hA.1 (by omega)
  have q1 : A / pw B ≤ A := Int.ediv_le_self _ hA.1
  have hv : Hid (A / pw B = shV 12 (pw w) A B % 18446744073709551616) := hide (by show A / pw B = A / pw B % 18446744073709551616; omega)
  have hb : Hid (shBad 12 (pw w) A B (nuw f) (nsw f) (exa f) = (exa f && A % pw B != 0)) := hide rfl
  have hlt := hide hB.2
  replace hA := hide hA
  replace hle := hide hle
  clear hpB q0 q1
  cases he : (bits .and .i64 f 4 != 0)
  all_goals cases hr : (IntKind.u64.wrap (A / 2 ^ B.toNat * 2 ^ B.toNat) != A)
  all_goals
    have hr' := hide (hx.symm.trans hr)
    clear hx
    go_enter Try.func49, Try.ntmps49
    go_wp2
    go_ret2
    first
      | exact ⟨ret_pair (shRes_ok hlt.out (by rw [hb.out, hr'.out]; simp [exa, he]) hv.out), Below.refl _ _⟩
      | exact ⟨ret_pair (shRes_bad hlt.out (by rw [hb.out, hr'.out]; simp [exa, he])), Below.refl _ _⟩

set_option maxRecDepth 100000 in
set_option maxHeartbeats 2000000 in
theorem shift_shl (w f A B : Int) (W : World) (h1 : 1 ≤ w) (h2 : w ≤ 64) (hA : 0 ≤ A ∧ A < pw w) (hB : 0 ≤ B ∧ B < w) :
    Calls Try.prog 49 #[.int .i64 11, .int .i64 w, .int .i64 f, .int .u64 A, .int .u64 B] W fun e w' => e = .returned (pairV (shRes 11 w (pw w) A B f)) ∧ Below W.heap.size W w' := by
  have hle := pw_le (w := w) (by omega) h2
  have hmod : bits .and .u64 (IntKind.u64.wrap (A * 2 ^ B.toNat)) (pw w - 1) = A * pw B % pw w := by
    rw [wrap_u, and_mask (Int.emod_nonneg _ (by decide)) (by have := Int.emod_lt_of_pos (A * 2 ^ B.toNat) (show (0 : Int) < 18446744073709551616 by decide); omega) (by omega) h2, Int.emod_emod_of_dvd _ ⟨_, (pw_rest (by omega) h2).symm⟩]
    rfl
  have x1 := shl_nuw hB.1 hB.2 hA
  have x2 := shl_nsw (A := A) h1 h2 hB.1 hB.2
  have hp := pw_pos w
  have v0 := Int.emod_nonneg (A * pw B) (show pw w ≠ 0 by omega)
  have v1 := Int.emod_lt_of_pos (A * pw B) (show 0 < pw w by omega)
  have hv : Hid (A * pw B % pw w = shV 11 (pw w) A B % 18446744073709551616) := hide (by show A * pw B % pw w = A * pw B % pw w % 18446744073709551616; omega)
  have hb : Hid (shBad 11 (pw w) A B (nuw f) (nsw f) (exa f) = (nuw f && outU (pw w) (A * pw B) || nsw f && !inR (pw w) (sg (pw w) A * pw B))) := hide rfl
  have hlt := hide hB.2
  have v2 : A * pw B % pw w ≤ 18446744073709551615 := by omega
  generalize A * pw B % pw w = v at *
  replace hA := hide hA
  replace hle := hide hle
  replace hp := hide hp
  clear v1
  cases hn : (bits .and .i64 f 2 != 0)
  all_goals cases hs : (bits .and .i64 f 1 != 0)
  all_goals cases r1 : (v / 2 ^ B.toNat != A)
  all_goals cases r2 : (sg (pw w) v / 2 ^ B.toNat != sg (pw w) A)
  all_goals
    have r1' := hide (x1.symm.trans r1)
    have r2' := hide (x2.symm.trans r2)
    clear x1 x2
    go_enter Try.func49, Try.ntmps49
    go_wp2_with (first | (go_at_call 32; refine (mask_ok w _ h1 h2).mono ?_; rintro e w' ⟨rfl, rfl⟩) | (go_at_call 34; refine (signed_ok w _ _ h1 h2).mono ?_; rintro e w' ⟨rfl, rfl⟩))
    go_ret2
    first
      | exact ⟨ret_pair (shRes_ok hlt.out (by rw [hb.out, r1'.out, r2'.out]; simp [nuw, nsw, hn, hs]) hv.out), Below.refl _ _⟩
      | exact ⟨ret_pair (shRes_bad hlt.out (by rw [hb.out, r1'.out, r2'.out]; simp [nuw, nsw, hn, hs])), Below.refl _ _⟩

set_option maxRecDepth 100000 in
set_option maxHeartbeats 2000000 in
theorem shift_ashr (w f A B : Int) (W : World) (h1 : 1 ≤ w) (h2 : w ≤ 64) (hA : 0 ≤ A ∧ A < pw w) (hB : 0 ≤ B ∧ B < w) :
    Calls Try.prog 49 #[.int .i64 13, .int .i64 w, .int .i64 f, .int .u64 A, .int .u64 B] W fun e w' => e = .returned (pairV (shRes 13 w (pw w) A B f)) ∧ Below W.heap.size W w' := by
  have hx : (bits .and .u64 (IntKind.u64.wrap (IntKind.u64.wrap (sg (pw w) A / 2 ^ B.toNat) * 2 ^ B.toNat)) (pw w - 1) != A) = (A % pw B != 0) := by
    rw [wrap_u, wrap_u, and_mask (Int.emod_nonneg _ (by decide)) (by have := Int.emod_lt_of_pos (sg (pw w) A / 2 ^ B.toNat % 18446744073709551616 * 2 ^ B.toNat) (show (0 : Int) < 18446744073709551616 by decide); omega) (by omega) h2]
    exact ashr_ex h1 h2 hB.1 hB.2 hA
  have hv : Hid (IntKind.u64.wrap (sg (pw w) A / 2 ^ B.toNat) = shV 13 (pw w) A B % 18446744073709551616) := hide (by rw [wrap_u]; rfl)
  have hb : Hid (shBad 13 (pw w) A B (nuw f) (nsw f) (exa f) = (exa f && A % pw B != 0)) := hide rfl
  have hlt := hide hB.2
  replace hA := hide hA
  cases he : (bits .and .i64 f 4 != 0)
  all_goals cases hr : (bits .and .u64 (IntKind.u64.wrap (IntKind.u64.wrap (sg (pw w) A / 2 ^ B.toNat) * 2 ^ B.toNat)) (pw w - 1) != A)
  all_goals
    have hr' := hide (hx.symm.trans hr)
    clear hx
    go_enter Try.func49, Try.ntmps49
    go_wp2_with (first | (go_at_call 32; refine (mask_ok w _ h1 h2).mono ?_; rintro e w' ⟨rfl, rfl⟩) | (go_at_call 34; refine (signed_ok w _ _ h1 h2).mono ?_; rintro e w' ⟨rfl, rfl⟩))
    go_ret2
    first
      | exact ⟨ret_pair (shRes_ok hlt.out (by rw [hb.out, hr'.out]; simp [exa, he]) hv.out), Below.refl _ _⟩
      | exact ⟨ret_pair (shRes_bad hlt.out (by rw [hb.out, hr'.out]; simp [exa, he])), Below.refl _ _⟩
end Go.Proofs.Ytmcleghbpdenlaa
