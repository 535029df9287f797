/- lathelaw01: width, of, lives, walked. No condition. -/
import Derived.Test.YtmcleghbpdenlaaBwJ
namespace Go.Proofs.Ytmcleghbpdenlaa
open Go.RowKit
set_option linter.unusedSimpArgs false
set_option linter.unusedVariables false

theorem apply_t (op w f a b : Int) (W : World) (ha : U64 a) (hb : U64 b) :
    Calls Try.prog 27 #[.int .i64 op, .int .i64 w, .int .i64 f, .int .u64 a, .int .u64 b] W fun e w' => e = .returned (.tuple #[.int .u64 (applyS op w f a b).1, .int .i64 (applyS op w f a b).2]) ∧ Below W.heap.size W w' := apply_any op w f a b W ha hb
theorem conv_t (op fw tw v : Int) (W : World) (hv : U64 v) :
    Calls Try.prog 36 #[.int .i64 op, .int .i64 fw, .int .i64 tw, .int .u64 v] W fun e w' => e = .returned (.tuple #[.int .u64 (convS op fw tw v).1, .bool (convS op fw tw v).2]) ∧ Below W.heap.size W w' := conv_any op fw tw v W hv
theorem width_any (w : Int) (W : World) (hw : -9223372036854775808 ≤ w ∧ w ≤ 9223372036854775807) : Calls Try.prog 31 #[.int .i64 w] W fun e w' => e = .returned (.int .i64 (1 + w % 64)) ∧ W = w' := by
  have e0 : (IntKind.u64.wrap w).tmod 64 = w % 64 := by rw [wrap_u, Int.tmod_eq_emod_of_nonneg (Int.emod_nonneg _ (by decide))]; omega
  have e1 : 0 ≤ w % 64 := by omega
  have e2 : w % 64 ≤ 63 := by omega
  go_enter Try.func31, Try.ntmps31
  go_wp2
  go_ret
  exact ⟨rfl, rfl⟩
/-- what 'of' ends with -/
def ofS (op w a b : Int) : Int := (applyS op w 0 a b).1
theorem of_any (op w a b : Int) (W : World) (ha : U64 a) (hb : U64 b) : Calls Try.prog 33 #[.int .i64 op, .int .i64 w, .int .u64 a, .int .u64 b] W fun e w' => e = .returned (.int .u64 (ofS op w a b)) ∧ Below W.heap.size W w' := by
  go_enter Try.func33, Try.ntmps33
  go_wp2_with fail
  refine (apply_t op w 0 a b _ ha hb).mono ?_; rintro e w' ⟨rfl, hb1⟩
  go_wp2
  go_ret
  exact ⟨rfl, hb1⟩
set_option maxRecDepth 100000 in
theorem lives_any (W : World) : Calls Try.prog 26 #[] W fun e w' => e = .returned (.bool true) ∧ Below W.heap.size W w' := by
  have l1 : applyS 1 8 0 200 100 = (44, 0) := by decide +kernel
  have l2 : applyS 1 8 2 200 100 = (0, 1) := by decide +kernel
  have l3 : (pw 64 - 1 == 18446744073709551615) = true := by decide +kernel
  have l4 : (sg (pw 1) 1 == -1) = true := by decide +kernel
  have c1 : ∀ W, Calls Try.prog 27 #[.int .i64 1, .int .i64 8, .int .i64 0, .int .u64 200, .int .u64 100] W fun e w' => e = .returned (.tuple #[.int .u64 44, .int .i64 0]) ∧ Below W.heap.size W w' := fun W => by
    have := apply_t 1 8 0 200 100 W (by omega) (by omega)
    rwa [l1] at this
  have c2 : ∀ W, Calls Try.prog 27 #[.int .i64 1, .int .i64 8, .int .i64 2, .int .u64 200, .int .u64 100] W fun e w' => e = .returned (.tuple #[.int .u64 0, .int .i64 1]) ∧ Below W.heap.size W w' := fun W => by
    have := apply_t 1 8 2 200 100 W (by omega) (by omega)
    rwa [l2] at this
  replace c1 := hide c1
  replace c2 := hide c2
  clear l1 l2
  go_enter Try.func26, Try.ntmps26
  go_wp2_with fail
  refine (c1.out _).mono ?_; rintro e w1 ⟨rfl, hb1⟩
  go_wp2_with fail
  refine (c2.out _).mono ?_; rintro e w2 ⟨rfl, hb2⟩
  have hb := hide (hb1.trans (hb2.mono hb1.size))
  clear hb1 hb2
  go_wp2_with fail
  refine (mask_ok 64 _ (by decide) (by decide)).mono ?_; rintro e w3 ⟨rfl, rfl⟩
  go_wp2_with fail
  refine (signed_ok 1 1 _ (by decide) (by decide)).mono ?_; rintro e w3 ⟨rfl, rfl⟩
  go_wp2
  go_ret
  exact ⟨rfl, hb.out⟩
end Go.Proofs.Ytmcleghbpdenlaa
