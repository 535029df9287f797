/- Walks of refine.event, lathelaw12.much. No condition. -/
import Derived.Test.YtffklfalocamiaaRefB
namespace Go.Proofs.Ytffklfalocamiaa
open Go.RowKit

set_option maxHeartbeats 400000 in
theorem event_any (x y : Evt) (ca da cb db : Value) (w : World) (B : Nat) (hB : B ≤ w.heap.size) (ha : REvt.rep w B [.int .i64 x.ext, ca, da] x) (hb : REvt.rep w B [.int .i64 y.ext, cb, db] y) :
    Calls Try.prog 70 #[.agg #[.int .i64 x.ext, ca, da], .agg #[.int .i64 y.ext, cb, db]] w fun e w' => e = .returned (.bool (revent x y)) ∧ Below w.heap.size w w' := by
  obtain ⟨c1, c2, h1, ha1, ha2⟩ := ha
  obtain ⟨c3, c4, h2, hb1, hb2⟩ := hb
  cases h1; cases h2
  replace ha2 := RVars.later ha2 (Below.refl _ _) hB
  replace hb2 := RVars.later hb2 (Below.refl _ _) hB
  obtain ⟨A3, k3, h3, hm3, ga⟩ := Rp.slice_open (RVals.later ha1 (Below.refl _ _) hB)
  obtain ⟨A4, k4, h4, hm4, gb⟩ := Rp.slice_open (RVals.later hb1 (Below.refl _ _) hB)
  cases h3; cases h4
  obtain ⟨A5, k5, h5, hm5, ga5⟩ := Rp.slice1_open ha2
  obtain ⟨A6, k6, h6, hm6, gb6⟩ := Rp.slice1_open hb2
  clear ga5 gb6 ha1 hb1
  cases h5; cases h6
  replace ga := hide ga
  replace gb := hide gb
  replace ha2 := hide ha2
  replace hb2 := hide hb2
  cases he : (x.ext != y.ext) with
  | true =>
    go_enter Try.func70, Try.ntmps70
    go_wp2
    go_ret
    exact ⟨ret_bool (by have : (x.ext == y.ext) = false := by simpa [bne] using he
                        simp [revent, this]), ((Below.refl _ _).alloc (by simp) _).alloc (by simp) _⟩
  | false =>
  have he2 : Hid (x.ext = y.ext) := hide (by simpa [bne] using he)
  by_cases hlen : x.args.length = y.args.length
  · have hl : ((x.args.length : Int) != (y.args.length : Int)) = false := by simp [hlen]
    replace hlen := hide hlen
    go_enter Try.func70, Try.ntmps70
    go_wp2
    obtain ⟨W, hW, hwW, hWs, hx, hy⟩ := boxes2 w #[.int .i64 x.ext, .slice A3 x.args.length k3, .slice A5 x.vars.length k5] #[.int .i64 y.ext, .slice A4 y.args.length k4, .slice A6 y.vars.length k6] 97 97
    rw [hW]
    clear hW
    have hx1 := hx 1 _ rfl
    have hy1 := hy 1 _ rfl
    have hx2 := hx 2 _ rfl
    have hy2 := hy 2 _ rfl
    clear hx hy
    have hsz : w.heap.size ≤ W.heap.size := by omega
    replace hWs := hide hWs
    go_loopw [23] (fun i wr => ∃ k : Nat, k ≤ x.args.length ∧ i = .int .i64 k ∧ Hid (∀ j, j < k → rvalue (x.args.getD j default) (y.args.getD j default) = true) ∧ Below W.heap.size W wr) (fun i _ => x.args.length - (intOf i).toNat)
    case atStart => exact ⟨0, Nat.zero_le _, rfl, hide (fun j hj => by omega), Below.refl _ _⟩
    case round =>
      obtain ⟨k, hk, rfl, hall, hbel⟩ := hrel
      by_cases hlt : k < x.args.length
      · have hlt2 : k < y.args.length := by have := hlen.out; omega
        obtain ⟨b1, o1, rfl, he1⟩ := ga.out (by omega)
        obtain ⟨b2, o2, rfl, he2⟩ := gb.out (by omega)
        obtain ⟨p, hp⟩ := get_ex hlt
        obtain ⟨q, hq⟩ := get_ex hlt2
        obtain ⟨_, _, ⟨rfl, _⟩, hc3⟩ := he1 k p hp.out
        obtain ⟨_, _, ⟨rfl, _⟩, hc4⟩ := he2 k q hq.out
        obtain ⟨p0, p1, p2, p3⟩ := (hc3.later hwW hsz).four
        obtain ⟨q0, q1, q2, q3⟩ := (hc4.later hwW hsz).four
        clear he1 he2 hc3 hc4
        have hww := Nat.le_refl W.heap.size
        go_wp2
        go_region_held3 (fun w' => Below W.heap.size W w') (first | exact hbel.drew | exact below_next (by assumption) hww (by assumption))
          (first | (go_at_call 17; refine (value_any p q _).mono ?_; rintro e w1 ⟨rfl, hcall⟩))
        cases hpq : rvalue p q with
        | false =>
          replace hpq := hide hpq
          go_wp2
          go_ret
          exact ⟨ret_bool (by simp [revent, rvals_at hlt hp.out hq.out hpq.out]), hwW.trans (Below.mono (by assumption) hsz)⟩
        | true =>
          replace hpq := hide hpq
          go_wp2
          go_roundw
          case rel => exact ⟨k + 1, hlt, by go_num, hide (upto_succ hall.out (by rw [getD_of hp.out, getD_of hq.out]; exact hpq.out)), by assumption⟩
          case measure => simp [intOf]; omega
      · go_wp2_with (go_at_call 71; refine (vars_any _ _ x.vars y.vars _ W.heap.size hbel.size (RVars.later ha2.out (hwW.trans (hbel.mono hsz)) hsz) (RVars.later hb2.out (hwW.trans (hbel.mono hsz)) hsz)).mono ?_; rintro e w1 ⟨rfl, hcall⟩)
        go_ret
        exact ⟨ret_bool (by simp [revent, he2.out, rvals_all hlen.out fun j hj => hall.out j (by omega)]), below_next (hwW.trans (hbel.mono hsz)) (Nat.le_refl _) hcall⟩
  · have hl : ((x.args.length : Int) != (y.args.length : Int)) = true := by simp; omega
    go_enter Try.func70, Try.ntmps70
    go_wp2
    go_ret
    exact ⟨ret_bool (by simp [revent, rvals, hlen]), ((Below.refl _ _).alloc (by simp) _).alloc (by simp) _⟩
end Go.Proofs.Ytffklfalocamiaa
