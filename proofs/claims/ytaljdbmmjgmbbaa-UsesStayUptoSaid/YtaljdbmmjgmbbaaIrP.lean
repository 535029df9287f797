/- latheref02.names, Uses. No condition. -/
import Derived.Test.YtaljdbmmjgmbbaaIrN
namespace Go.Proofs.Ytaljdbmmjgmbbaa
open Go.RowKit

/-- an instruction's cells in a world, with its operands' slice opened -/
theorem ins_open {w : World} {B : Nat} {x : Ins} {c d : Value} (h : RIns.rep w B [.int .i64 x.op, .int .i64 x.reg, .int .i64 x.ty, .int .i64 x.num, .int .i64 x.flags, c, d] x) : ROpds.rep w B [c] x.args ∧ RInts.rep w B [d] x.to := by
  obtain ⟨c', d', e, ha, hto, _⟩ := h
  cases e
  exact ⟨ha, hto⟩

set_option maxHeartbeats 800000 in
theorem names_any (x : Ins) (r : Int) (c d : Value) (w : World) (B : Nat) (hB : B ≤ w.heap.size) (h : RIns.rep w B [.int .i64 x.op, .int .i64 x.reg, .int .i64 x.ty, .int .i64 x.num, .int .i64 x.flags, c, d] x) :
    Calls Try.prog 58 #[x.v c d, .int .i64 r] w fun e w' => e = .returned (.bool (names x r)) ∧ Below w.heap.size w w' := by
  obtain ⟨ha, hto⟩ := ins_open h
  obtain ⟨A1, k1, h1, hm1, ga⟩ := Rp.slice_open (ROpds.later ha (Below.refl _ _) hB)
  obtain ⟨A2, k2, h2, hm2, -⟩ := Rp.slice1_open hto
  cases h1; cases h2
  replace ga := hide ga
  clear h ha hto
  obtain ⟨W, hW, hwW, hWs, hx⟩ := boxes1 w #[.int .i64 x.op, .int .i64 x.reg, .int .i64 x.ty, .int .i64 x.num, .int .i64 x.flags, .slice A1 x.args.length k1, .slice A2 x.to.length k2] 44
  have x1 := hx 1 _ rfl
  have x5 := hx 5 _ rfl
  clear hx
  have hws : w.heap.size ≤ W.heap.size := by omega
  replace hWs := hide hWs
  have hself := Below.refl W.heap.size W
  cases hr : (x.reg == r) with
  | true =>
    go_enter Try.func58, Try.ntmps58
    go_wp2
    go_ret
    exact ⟨ret_bool (by simp [names, hr]), hwW⟩
  | false =>
  have hr' := hide hr
  go_enter Try.func58, Try.ntmps58
  go_wp2
  clear hW hr
  go_loop [5] (fun i => ∃ k : Nat, k ≤ x.args.length ∧ i = .int .i64 k ∧ Hid ((x.args.take k).any (fun v => usesReg v r) = false)) (fun i => x.args.length - (intOf i).toNat)
  case atStart => exact ⟨0, Nat.zero_le _, rfl, hide rfl⟩
  case round =>
    obtain ⟨k, hk, rfl, hall⟩ := hrel
    by_cases hlt : k < x.args.length
    · obtain ⟨b1, o1, rfl, he1⟩ := ga.out (by omega)
      obtain ⟨v, hv⟩ := get_ex hlt
      obtain ⟨_, _, ⟨rfl, _⟩, hc⟩ := he1 k v hv.out
      obtain ⟨p0, p1, p2⟩ := (hc.later hwW hws).three
      clear he1 hc
      cases hk1 : (v.kind == 1) with
      | false =>
        have hu : Hid (usesReg v r = false) := hide (by simp [usesReg, hk1])
        go_wp2
        go_round
        case rel => exact ⟨k + 1, hlt, by go_num, hide (by rw [any_take hv.out, hall.out, hu.out]; rfl)⟩
        case measure => simp [intOf]; omega
      | true =>
        cases hk2 : (v.num == r) with
        | false =>
          have hu : Hid (usesReg v r = false) := hide (by simp [usesReg, hk2])
          go_wp2
          go_round
          case rel => exact ⟨k + 1, hlt, by go_num, hide (by rw [any_take hv.out, hall.out, hu.out]; rfl)⟩
          case measure => simp [intOf]; omega
        | true =>
          have hn : Hid (names x r = true) := hide (by
            have hu : usesReg v r = true := by simp [usesReg, hk1, hk2]
            simp only [names, Bool.or_eq_true, List.any_eq_true]
            exact .inr ⟨v, List.mem_of_getElem? hv.out, hu⟩)
          go_wp2
          go_ret
          exact ⟨ret_bool (by rw [hn.out]), hwW⟩
    · have hn : Hid (names x r = false) := hide (by
        have := hall.out
        rw [List.take_of_length_le (by omega)] at this
        simp only [names, hr'.out, this, Bool.or_false])
      go_wp2
      go_ret
      exact ⟨ret_bool (by rw [hn.out]), hwW⟩

end Go.Proofs.Ytaljdbmmjgmbbaa
