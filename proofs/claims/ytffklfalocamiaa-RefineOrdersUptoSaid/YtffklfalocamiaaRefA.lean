/- Walks of refine.Value and refine.Byte: what they answer. No condition. -/
import Derived.Test.YtffklfalocamiaaRows
import Derived.Test.YtffklfalocamiaaData
import Derived.Test.YtffklfalocamiaaRep
import Derived.WalkKit
import Derived.WalkSpells
import Derived.WalkLawsBesides
namespace Go.Proofs.Ytffklfalocamiaa
open Go.RowKit

abbrev Val.v (x : Val) : Value := .agg #[.int .i64 x.kind, .int .u64 x.bits, .int .i64 x.block, .int .i64 x.off]
abbrev Byt.v (x : Byt) : Value := .agg #[.int .i64 x.kind, .int .u8 x.bits, .int .i64 x.block, .int .i64 x.off, .int .i64 x.i]

set_option maxHeartbeats 400000 in
theorem value_any (x y : Val) (w : World) :
    Calls Try.prog 17 #[x.v, y.v] w fun e w' => e = .returned (.bool (rvalue x y)) ∧ Below w.heap.size w w' := by
  obtain ⟨xk, xb, xl, xo⟩ := x
  obtain ⟨yk, yb, yl, yo⟩ := y
  go_enter Try.func17, Try.ntmps17
  go_wp2
  all_goals go_ret
  all_goals exact ⟨ret_bool (by rw [Bool.eq_iff_iff]; simp_all [rvalue, Val.eqb]), ((Below.refl _ _).alloc (by simp) _).alloc (by simp) _⟩

set_option maxHeartbeats 400000 in
theorem byte_any (x y : Byt) (w : World) :
    Calls Try.prog 19 #[x.v, y.v] w fun e w' => e = .returned (.bool (rbyte x y)) ∧ Below w.heap.size w w' := by
  obtain ⟨xk, xb, xl, xo, xi⟩ := x
  obtain ⟨yk, yb, yl, yo, yi⟩ := y
  go_enter Try.func19, Try.ntmps19
  go_wp2
  all_goals go_ret
  all_goals exact ⟨ret_bool (by rw [Bool.eq_iff_iff]; simp_all [rbyte, Byt.eqb]), ((Below.refl _ _).alloc (by simp) _).alloc (by simp) _⟩

set_option maxHeartbeats 400000 in
theorem rvalue_any (x y : Val) (w : World) :
    Calls Try.prog 18 #[x.v, y.v] w fun e w' => e = .returned (.bool (rvalue x y)) ∧ Below w.heap.size w w' := by
  obtain ⟨xk, xb, xl, xo⟩ := x
  obtain ⟨yk, yb, yl, yo⟩ := y
  go_enter Try.func18, Try.ntmps18
  go_wp2
  all_goals go_ret
  all_goals exact ⟨ret_bool (by rw [Bool.eq_iff_iff]; simp_all [rvalue, Val.eqb]), ((Below.refl _ _).alloc (by simp) _).alloc (by simp) _⟩

set_option maxHeartbeats 400000 in
theorem rbyte_any (x y : Byt) (w : World) :
    Calls Try.prog 20 #[x.v, y.v] w fun e w' => e = .returned (.bool (rbyte x y)) ∧ Below w.heap.size w w' := by
  obtain ⟨xk, xb, xl, xo, xi⟩ := x
  obtain ⟨yk, yb, yl, yo, yi⟩ := y
  go_enter Try.func20, Try.ntmps20
  go_wp2
  all_goals go_ret
  all_goals exact ⟨ret_bool (by rw [Bool.eq_iff_iff]; simp_all [rbyte, Byt.eqb]), ((Below.refl _ _).alloc (by simp) _).alloc (by simp) _⟩
end Go.Proofs.Ytffklfalocamiaa
