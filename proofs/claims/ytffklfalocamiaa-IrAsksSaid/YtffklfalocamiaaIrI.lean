/- The law IrAsks, walked. No condition. -/
import Derived.Test.YtffklfalocamiaaIrH
namespace Go.Proofs.Ytffklfalocamiaa
open Go.RowKit

set_option maxHeartbeats 1600000 in
theorem law_asks (x : Ins) (ca da : Value) (w : World) (h : RIns.rep w w.heap.size [.int .i64 x.op, .int .i64 x.reg, .int .i64 x.ty, .int .i64 x.num, .int .i64 x.flags, ca, da] x) :
    Calls Try.prog 8 #[x.v ca da] w fun e w' => e = .returned (.bool true) ∧ Below w.heap.size w w' := by
  obtain ⟨c, d, e, ha, hto, -⟩ := h
  cases e
  obtain ⟨A1, k1, h1, -, -⟩ := Rp.slice_at ha
  obtain ⟨A2, k2, h2, -, -⟩ := Rp.slice1_at hto
  cases h1; cases h2
  clear ha hto
  obtain ⟨W, hW, hwW, hWs, hx⟩ := boxes1 w #[.int .i64 x.op, .int .i64 x.reg, .int .i64 x.ty, .int .i64 x.num, .int .i64 x.flags, .slice A1 x.args.length k1, .slice A2 x.to.length k2] 70
  have x0 := hx 0 _ rfl
  have x1 := hx 1 _ rfl
  have x2 := hx 2 _ rfl
  have x3 := hx 3 _ rfl
  have x4 := hx 4 _ rfl
  have x5 := hx 5 _ rfl
  have x6 := hx 6 _ rfl
  clear hx
  have hsz : w.heap.size ≤ W.heap.size := by omega
  replace hWs := hide hWs
  go_enter Try.func8, Try.ntmps8
  go_wp2_with fail
  clear hW
  refine (lives02 W).mono ?_
  rintro e w1 ⟨rfl, b1⟩
  have hww := Nat.le_refl W.heap.size
  go_wp2_with fail
  go_region_held3 (fun w' => Below W.heap.size W w') (first | exact b1.drew | assumption | exact below_next (by assumption) hww (by assumption))
    (first
      | (go_at_call 40; refine (result_any x _ _ _).mono ?_; rintro e w4 ⟨rfl, hcall⟩)
      | (go_at_call 41; refine (rresult_any x _ _ _).mono ?_; rintro e w4 ⟨rfl, hcall⟩)
      | (go_at_call 42; refine (ends_any _ _).mono ?_; rintro e w4 ⟨rfl, rfl⟩)
      | (go_at_call 43; refine (rends_any _ _).mono ?_; rintro e w4 ⟨rfl, rfl⟩)
      | (go_at_call 44; refine (idle_any _ _).mono ?_; rintro e w4 ⟨rfl, rfl⟩)
      | (go_at_call 45; refine (ridle_any _ _).mono ?_; rintro e w4 ⟨rfl, rfl⟩)
      | (go_at_call 46; refine (calm_any _ _).mono ?_; rintro e w4 ⟨rfl, rfl⟩)
      | (go_at_call 47; refine (rcalm_any _ _).mono ?_; rintro e w4 ⟨rfl, hcall⟩))
  go_wp2
  go_ret
  exact ⟨ret_bool (by simp), hwW.trans (Below.mono (by assumption) hsz)⟩
end Go.Proofs.Ytffklfalocamiaa
