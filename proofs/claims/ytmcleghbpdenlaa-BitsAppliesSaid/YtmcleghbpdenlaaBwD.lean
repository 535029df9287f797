/- bits.divide, walked. No condition. -/
import Derived.Test.YtmcleghbpdenlaaBwB
namespace Go.Proofs.Ytmcleghbpdenlaa
open Go.RowKit
set_option linter.unusedSimpArgs false
set_option linter.unusedVariables false

def divRes (op M A B f : Int) : Int × Int :=
  if divOut op M A B then (0, 2) else if op = 6 ∨ op = 7 then (divR op M A B % 18446744073709551616, 0) else if exa f && divR op M A B != 0 then (0, 1) else (divQ op M A B % 18446744073709551616, 0)
theorem ret_pair {a b : Int} {p : Int × Int} (h : p = (a, b)) : Ending.returned (.tuple #[.int .u64 a, .int .i64 b]) = .returned (pairV p) := by rw [h]; rfl
theorem sg_zero {w B : Int} (h1 : 1 ≤ w) (h2 : w ≤ 64) (hB : 0 ≤ B ∧ B < pw w) : sg (pw w) B = 0 ↔ B = 0 := by
  obtain ⟨hM, hH, hw⟩ := wid h1 h2
  have hs := sg_A (H := pw (w - 1)) hB.1 (by omega)
  rw [← hM] at hs
  rw [hs]; split <;> omega
theorem u_of_w64 (n : Int) : IntKind.u64.wrap (wrap64 n) = n % 18446744073709551616 := by rw [wrap_u]; unfold wrap64; omega

set_option maxRecDepth 100000 in
set_option maxHeartbeats 2000000 in
theorem div_zero (op w f A : Int) (W : World) : Calls Try.prog 48 #[.int .i64 op, .int .i64 w, .int .i64 f, .int .u64 A, .int .u64 0] W fun e w' => e = .returned (pairV (0, 2)) ∧ W = w' := by
  go_enter Try.func48, Try.ntmps48
  go_wp2
  go_ret2
  exact ⟨rfl, rfl⟩
set_option maxRecDepth 100000 in
set_option maxHeartbeats 2000000 in
theorem div_plain (op w f A B : Int) (W : World) (h1 : 1 ≤ w) (h2 : w ≤ 64) (ho : op = 4 ∨ op = 6) (hA : 0 ≤ A ∧ A ≤ 18446744073709551615) (hB : 0 ≤ B ∧ B ≤ 18446744073709551615) (h0 : B ≠ 0) :
    Calls Try.prog 48 #[.int .i64 op, .int .i64 w, .int .i64 f, .int .u64 A, .int .u64 B] W fun e w' => e = .returned (pairV (divRes op (pw w) A B f)) ∧ Below W.heap.size W w' := by
  have hB1 : 1 ≤ B := by omega
  have hb : (B == 0) = false := beq_eq_false_iff_ne.2 h0
  have q0 : 0 ≤ A / B := Int.ediv_nonneg hA.1 hB.1
  have q1 : A / B ≤ A := Int.ediv_le_self B hA.1
  have r0 := Int.emod_nonneg A h0
  have r1 := Int.emod_lt_of_pos A (show 0 < B by omega)
  cases he : (bits .and .i64 f 4 != 0)
  all_goals cases hr : (A % B != 0)
  all_goals rcases ho with rfl | rfl
  all_goals
    go_enter Try.func48, Try.ntmps48
    go_wp2
    go_quiet (fail)
    go_wp2
    all_goals go_ret2
    all_goals
      refine ⟨ret_pair ?_, below_drewN (Below.refl _ _) _⟩
      have e1 : A / B % 18446744073709551616 = A / B := by omega
      have e2 : A % B % 18446744073709551616 = A % B := by omega
      simp [divRes, divOut, divQ, divR, exa, *]
theorem divRes_out {op M A B f : Int} (h : divOut op M A B = true) : divRes op M A B f = (0, 2) := if_pos h
theorem divRes_rest {M A B f v : Int} (h : divOut 7 M A B = false) (hv : v = divR 7 M A B % 18446744073709551616) : divRes 7 M A B f = (v, 0) := by
  unfold divRes; rw [h, hv]; rfl
theorem divRes_bad {M A B f : Int} (h : divOut 5 M A B = false) (he : exa f = true) (hr : divR 5 M A B ≠ 0) : divRes 5 M A B f = (0, 1) := by
  unfold divRes; rw [h, he]; simp [hr]
theorem divRes_ok {M A B f v : Int} (h : divOut 5 M A B = false) (he : exa f = false ∨ divR 5 M A B = 0) (hv : v = divQ 5 M A B % 18446744073709551616) : divRes 5 M A B f = (v, 0) := by
  unfold divRes; rw [h, hv]; rcases he with he | he <;> simp [he]
theorem rem_u {x : Int} (h : -9223372036854775808 ≤ x ∧ x ≤ 9223372036854775807) : x % 18446744073709551616 = 0 ↔ x = 0 := by omega
set_option maxRecDepth 100000 in
set_option maxHeartbeats 2000000 in
theorem div_sign (op w f A B : Int) (W : World) (h1 : 1 ≤ w) (h2 : w ≤ 64) (ho : op = 5 ∨ op = 7) (hA : 0 ≤ A ∧ A < pw w) (hB : 0 ≤ B ∧ B < pw w) (h0 : B ≠ 0) :
    Calls Try.prog 48 #[.int .i64 op, .int .i64 w, .int .i64 f, .int .u64 A, .int .u64 B] W fun e w' => e = .returned (pairV (divRes op (pw w) A B f)) ∧ Below W.heap.size W w' := by
  have hb : (B == 0) = false := beq_eq_false_iff_ne.2 h0
  have hy0 : sg (pw w) B ≠ 0 := fun h => h0 ((sg_zero h1 h2 hB).1 h)
  have hout := hide ((div_out (B := B) h1 h2 hA).resolve_right hy0)
  obtain ⟨hM, hH, hw⟩ := wid h1 h2
  have hx := sg_in (v := A) hH
  have hy := sg_in (v := B) hH
  rw [← hM] at hx hy
  have hdo : ∀ o : Int, o = 5 ∨ o = 7 → divOut o (pw w) A B = !inR (pw w) ((sg (pw w) A).tdiv (sg (pw w) B)) := fun o ho => by
    unfold divOut; rcases ho with rfl | rfl <;> simp [hb]
  replace hdo := hide hdo
  replace hM := hide hM
  replace hw := hide hw
  replace hA := hide hA
  replace hB := hide hB
  replace hx := hide hx
  replace hy := hide hy
  cases ho1 : (decide (sg (pw w) B = -1) && decide (A = pw (w - 1))) with
  | true =>
    have hz := hide (hout.out.symm.trans ho1)
    rw [Bool.and_eq_true, decide_eq_true_eq, decide_eq_true_eq] at ho1
    obtain ⟨e1, e2⟩ := ho1
    have e3 : (A == IntKind.u64.wrap (2 ^ (w.toNat - 1))) = true := by
      have := hw.out
      rw [pw1 h1, wrap_u, beq_iff_eq, e2]; omega
    clear e2
    rcases ho with rfl | rfl
    all_goals
      go_enter Try.func48, Try.ntmps48
      go_wp2_with fail
      refine (signed_ok w A _ h1 h2).mono ?_; rintro e w' ⟨rfl, rfl⟩
      go_wp2_with fail
      refine (signed_ok w B _ h1 h2).mono ?_; rintro e w' ⟨rfl, rfl⟩
      go_wp2
      go_ret2
      exact ⟨ret_pair (divRes_out (by rw [hdo.out _ (by omega)]; exact hz.out)), Below.refl _ _⟩
  | false =>
    have hz := hide (hout.out.symm.trans ho1)
    have e3 : ((sg (pw w) B == -1) && (A == IntKind.u64.wrap (2 ^ (w.toNat - 1)))) = false := by
      have := hw.out
      rw [pw1 h1, wrap_u, show pw (w - 1) % 18446744073709551616 = pw (w - 1) by omega]
      exact ho1
    clear ho1
    have hq : -9223372036854775808 ≤ (sg (pw w) A).tmod (sg (pw w) B) ∧ (sg (pw w) A).tmod (sg (pw w) B) ≤ 9223372036854775807 := by
      have a1 := hx.out
      have a2 := hw.out
      have a3 : ((sg (pw w) A).tmod (sg (pw w) B)).natAbs = (sg (pw w) A).natAbs % (sg (pw w) B).natAbs := Int.natAbs_tmod _ _
      have a4 := Nat.mod_lt (sg (pw w) A).natAbs (y := (sg (pw w) B).natAbs) (by omega)
      have a5 := hy.out
      rw [← a3] at a4
      clear a3
      clear hout hdo hz e3
      generalize (sg (pw w) A).tmod (sg (pw w) B) = q at *
      generalize sg (pw w) B = y at *
      omega
    have hr : ∀ o : Int, o = 5 ∨ o = 7 → ((IntKind.u64.wrap ((sg (pw w) A).tmod (sg (pw w) B)) != 0) = false → divR o (pw w) A B = 0) ∧ ((IntKind.u64.wrap ((sg (pw w) A).tmod (sg (pw w) B)) != 0) = true → divR o (pw w) A B ≠ 0) := fun o ho => by
      have e : divR o (pw w) A B = (sg (pw w) A).tmod (sg (pw w) B) := by unfold divR; rcases ho with rfl | rfl <;> rfl
      rw [e, wrap_u, bne_eq_false_iff_eq, bne_iff_ne, ne_eq, rem_u hq]
      exact ⟨id, id⟩
    have hz5 : Hid (divOut 5 (pw w) A B = false) := hide (by rw [hdo.out 5 (.inl rfl)]; exact hz.out)
    have hz7 : Hid (divOut 7 (pw w) A B = false) := hide (by rw [hdo.out 7 (.inr rfl)]; exact hz.out)
    have hr5 := hide (hr 5 (.inl rfl))
    clear hr hdo hz hout hq
    cases he : (bits .and .i64 f 4 != 0)
    all_goals cases hr0 : (IntKind.u64.wrap ((sg (pw w) A).tmod (sg (pw w) B)) != 0)
    all_goals cases f1 : (sg (pw w) B == -1)
    all_goals rw [f1] at e3
    all_goals simp only [Bool.true_and, Bool.false_and] at e3
    all_goals rcases ho with rfl | rfl
    all_goals
      go_enter Try.func48, Try.ntmps48
      go_wp2_with fail
      refine (signed_ok w A _ h1 h2).mono ?_; rintro e w' ⟨rfl, rfl⟩
      go_wp2_with fail
      refine (signed_ok w B _ h1 h2).mono ?_; rintro e w' ⟨rfl, rfl⟩
      go_wp2
      go_quiet (fail)
      go_wp2
      all_goals go_ret2
      all_goals
        refine ⟨ret_pair ?_, below_drewN (Below.refl _ _) _⟩
        first
          | exact divRes_rest hz7.out (wrap_u _)
          | exact divRes_bad hz5.out he (hr5.out.2 hr0)
          | exact divRes_ok hz5.out (.inl he) (u_of_w64 _)
          | exact divRes_ok hz5.out (.inr (hr5.out.1 hr0)) (u_of_w64 _)
end Go.Proofs.Ytmcleghbpdenlaa
