/- lathelaw09.MemApart's inner function, walked. No condition but numbers within their kinds. -/
import Derived.Test.YtgkgmeofilkopaaMmV
import Derived.Test.YtgkgmeofilkopaaMwR
import Derived.Test.YtgkgmeofilkopaaMwQ
import Derived.Test.YtgkgmeofilkopaaMwI
namespace Go.Proofs.Ytgkgmeofilkopaa
open Go.RowKit
set_option linter.unusedSimpArgs false
set_option linter.unusedVariables false

/-- a step's answer -/
def ansS (bs : MemS) (s : Stp) : Int := if s.kind = 1 then bs.length else -1
def DoPost (g : Nat) (F : Nat → Prop) (bs : MemS) (s : Stp) (w : World) (e : Ending) (w' : World) : Prop :=
  e = .returned (.int .i64 (ansS bs s)) ∧ ∃ F' : Nat → Prop, MemIs w' g F' (stepK bs s) ∧ (∀ k, F' k → F k ∨ w.heap.size ≤ k) ∧ Upd F w w'
theorem Upd.pre {F : Nat → Prop} {a b c : World} (h : Below a.heap.size a b) (k : Upd F b c) : Upd F a c := (Upd.of_below h).trans k (fun _ h _ => h)
set_option maxRecDepth 100000 in
set_option maxHeartbeats 6400000 in
theorem do_any (g : Nat) (F : Nat → Prop) (bs : MemS) (s : Stp) (w : World) (h : MemIs w g F bs) (hok : SOk s) (hl : bs.length ≤ 100000) :
    Calls Try.prog 61 #[.pointer (some ⟨g, 0, none⟩), .agg #[.int .i64 s.kind, .int .i64 s.a, .int .i64 s.b, .int .i64 s.t, .int .i64 s.v.kind, .int .u64 s.v.bits, .int .i64 s.v.block, .int .i64 s.v.off, .int .i64 s.at_.kind, .int .u64 s.at_.bits, .int .i64 s.at_.block, .int .i64 s.at_.off, .int .u8 s.byte]] w (DoPost g F bs s w) := by
  obtain ⟨X, hX, hwX, hXs, qq⟩ := boxes1 w #[.int .i64 s.kind, .int .i64 s.a, .int .i64 s.b, .int .i64 s.t, .int .i64 s.v.kind, .int .u64 s.v.bits, .int .i64 s.v.block, .int .i64 s.v.off, .int .i64 s.at_.kind, .int .u64 s.at_.bits, .int .i64 s.at_.block, .int .i64 s.at_.off, .int .u8 s.byte] 78
  have hself := Below.refl X.heap.size X
  have x0 := qq 0 _ rfl
  have x1 := qq 1 _ rfl
  have x2 := qq 2 _ rfl
  have x3 := qq 3 _ rfl
  have x4 := qq 4 _ rfl
  have x5 := qq 5 _ rfl
  have x6 := qq 6 _ rfl
  have x7 := qq 7 _ rfl
  have x8 := qq 8 _ rfl
  have x9 := qq 9 _ rfl
  have x10 := qq 10 _ rfl
  have x11 := qq 11 _ rfl
  have x12 := qq 12 _ rfl
  clear qq
  have hM1 := hide (h.later hwX)
  have hxs : w.heap.size ≤ X.heap.size := by omega
  replace hXs := hide hXs
  replace hwX := hide hwX
  replace hX := hide hX
  obtain ⟨L, hL⟩ : ∃ L, Hid (L = bs.length) := ⟨_, hide rfl⟩
  rw [← hL.out] at hl
  clear h
  by_cases k1 : s.kind = 1
  · have g1 : (s.kind == 1) = true := beq_iff_eq.2 k1
    have hst : Hid (stepK bs s = allocS bs s.a) := hide (by unfold stepK; rw [if_pos k1])
    have han : Hid (ansS bs s = bs.length) := hide (by unfold ansS; rw [if_pos k1])
    replace k1 := hide k1
    go_enter Try.func61, Try.ntmps61
    go_upto_region 1 with (fail)
    rw [hX.out]
    clear hX
    go_wp2_with (go_at_call 48; refine (alloc_any g F bs s.a X hM1.out (by rw [← hL.out]; omega)).mono ?_; rintro e w5 ⟨rfl, hM5, hU5⟩; replace hM5 := hide hM5; replace hU5 := hide hU5)
    go_ret
    refine ⟨ret_int han.out.symm, _, by rw [hst.out]; exact hM5.out, ?_, Upd.pre hwX.out hU5.out⟩
    intro i hi
    rcases hi with hi | hi
    · exact .inl hi
    · exact .inr (by omega)
  · by_cases k2 : s.kind = 2
    · have g1 : (s.kind == 1) = false := beq_eq_false_iff_ne.2 k1
      have g2 : (s.kind == 2) = true := beq_iff_eq.2 k2
      have hst : Hid (stepK bs s = freeS bs s.a) := hide (by unfold stepK; rw [if_neg k1, if_pos k2])
      have han : Hid (ansS bs s = -1) := hide (by unfold ansS; rw [if_neg k1])
      replace k1 := hide k1
      replace k2 := hide k2
      go_enter Try.func61, Try.ntmps61
      go_upto_region 1 with (fail)
      rw [hX.out]
      clear hX
      go_wp2_with (go_at_call 52; refine (free_any g F bs s.a X hM1.out).mono ?_; rintro e w5 ⟨rfl, hM5, hU5⟩; replace hM5 := hide hM5; replace hU5 := hide hU5)
      go_ret
      exact ⟨ret_int han.out.symm, F, by rw [hst.out]; exact hM5.out, fun k hk => .inl hk, Upd.pre hwX.out hU5.out⟩
    · by_cases k4 : s.kind = 4
      · have g1 : (s.kind == 1) = false := beq_eq_false_iff_ne.2 k1
        have g2 : (s.kind == 2) = false := beq_eq_false_iff_ne.2 k2
        have g4 : (s.kind == 4) = true := beq_iff_eq.2 k4
        have hst : Hid (stepK bs s = (storeS bs s.t s.v s.at_).1) := hide (by unfold stepK; rw [if_neg k1, if_neg k2, if_pos k4])
        have han : Hid (ansS bs s = -1) := hide (by unfold ansS; rw [if_neg k1])
        replace k1 := hide k1
        replace k2 := hide k2
        replace k4 := hide k4
        go_enter Try.func61, Try.ntmps61
        go_upto_region 1 with (fail)
        rw [hX.out]
        clear hX
        go_wp2_with (go_at_call 49; refine (store_any g F bs s.t s.v s.at_ X hM1.out hok.v).mono ?_; rintro e w5 ⟨rfl, hM5, hU5⟩; replace hM5 := hide hM5; replace hU5 := hide hU5)
        go_ret
        exact ⟨ret_int han.out.symm, F, by rw [hst.out]; exact hM5.out, fun k hk => .inl hk, Upd.pre hwX.out hU5.out⟩
      · by_cases k5 : s.kind = 5
        · have g1 : (s.kind == 1) = false := beq_eq_false_iff_ne.2 k1
          have g2 : (s.kind == 2) = false := beq_eq_false_iff_ne.2 k2
          have g4 : (s.kind == 4) = false := beq_eq_false_iff_ne.2 k4
          have g5 : (s.kind == 5) = true := beq_iff_eq.2 k5
          have hst : Hid (stepK bs s = (setS bs s.a s.b s.byte).1) := hide (by unfold stepK; rw [if_neg k1, if_neg k2, if_neg k4, if_pos k5])
          have han : Hid (ansS bs s = -1) := hide (by unfold ansS; rw [if_neg k1])
          replace k1 := hide k1
          replace k2 := hide k2
          replace k4 := hide k4
          replace k5 := hide k5
          go_enter Try.func61, Try.ntmps61
          go_upto_region 1 with (fail)
          rw [hX.out]
          clear hX
          go_wp2_with (go_at_call 54; refine (set_any g F bs s.a s.b s.byte X hM1.out hok.byte).mono ?_; rintro e w5 ⟨rfl, hM5, hU5⟩; replace hM5 := hide hM5; replace hU5 := hide hU5)
          go_ret
          exact ⟨ret_int han.out.symm, F, by rw [hst.out]; exact hM5.out, fun k hk => .inl hk, Upd.pre hwX.out hU5.out⟩
        · have g1 : (s.kind == 1) = false := beq_eq_false_iff_ne.2 k1
          have g2 : (s.kind == 2) = false := beq_eq_false_iff_ne.2 k2
          have g4 : (s.kind == 4) = false := beq_eq_false_iff_ne.2 k4
          have g5 : (s.kind == 5) = false := beq_eq_false_iff_ne.2 k5
          have hst : Hid (stepK bs s = bs) := hide (by unfold stepK; rw [if_neg k1, if_neg k2, if_neg k4, if_neg k5])
          have han : Hid (ansS bs s = -1) := hide (by unfold ansS; rw [if_neg k1])
          replace k1 := hide k1
          replace k2 := hide k2
          replace k4 := hide k4
          replace k5 := hide k5
          go_enter Try.func61, Try.ntmps61
          go_upto_region 1 with (fail)
          rw [hX.out]
          clear hX
          go_wp2
          go_ret
          exact ⟨ret_int han.out.symm, F, by rw [hst.out]; exact hM1.out, fun k hk => .inl hk, Upd.of_below hwX.out⟩
end Go.Proofs.Ytgkgmeofilkopaa
