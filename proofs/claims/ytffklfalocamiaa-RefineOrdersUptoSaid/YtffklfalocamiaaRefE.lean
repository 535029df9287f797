/- The walk of refine.Refines. No condition. -/
import Derived.Test.YtffklfalocamiaaRefD
import Derived.Deep.DeepCutAuto
import Derived.Deep.CutBlock
namespace Go.Proofs.Ytffklfalocamiaa
open Go.RowKit

set_option maxHeartbeats 800000 in
theorem refines_any (x y : Outc) (ca da cb db : Value) (w : World) (B : Nat) (hB : B ≤ w.heap.size) (ha : REvts.rep w B [ca] x.events) (ha' : RVars.rep w B [da] x.vars)
    (hb : REvts.rep w B [cb] y.events) (hb' : RVars.rep w B [db] y.vars) :
    Calls Try.prog 21 #[x.v ca da, y.v cb db] w fun e w' => e = .returned (.bool (rrefines x y)) ∧ Below w.heap.size w w' := by
  obtain ⟨A1, k1, h1, hm1, ga⟩ := Rp.slice_open (REvts.later ha (Below.refl _ _) hB)
  obtain ⟨A2, k2, h2, hm2, gb⟩ := Rp.slice_open (REvts.later hb (Below.refl _ _) hB)
  replace ha' := RVars.later ha' (Below.refl _ _) hB
  replace hb' := RVars.later hb' (Below.refl _ _) hB
  obtain ⟨A3, k3, h3, _, _⟩ := Rp.slice1_open ha'
  obtain ⟨A4, k4, h4, _, _⟩ := Rp.slice1_open hb'
  cases h1; cases h2; cases h3; cases h4
  replace ga := hide ga
  replace gb := hide gb
  replace ha' := hide ha'
  replace hb' := hide hb'
  clear ha hb
  cases h4 : (x.status == 4) with
  | true =>
    go_enter Try.func21, Try.ntmps21
    go_wp2
    go_ret
    exact ⟨ret_bool (by simp [rrefines, h4]), ((Below.refl _ _).alloc (by simp) _).alloc (by simp) _⟩
  | false =>
  go_enter Try.func21, Try.ntmps21
  go_wp2
  obtain ⟨W, hW, hwW, hWs, hx, hy⟩ := boxes2 w #[.int .i64 x.status, .int .i64 x.ret.kind, .int .u64 x.ret.bits, .int .i64 x.ret.block, .int .i64 x.ret.off, .slice A1 x.events.length k1, .slice A3 x.vars.length k3, .int .i64 x.steps]
    #[.int .i64 y.status, .int .i64 y.ret.kind, .int .u64 y.ret.bits, .int .i64 y.ret.block, .int .i64 y.ret.off, .slice A2 y.events.length k2, .slice A4 y.vars.length k4, .int .i64 y.steps] 30 30
  rw [hW]
  clear hW
  have hsz : w.heap.size ≤ W.heap.size := by omega
  replace hWs := hide hWs
  have x0 := hx 0 _ rfl
  have x1 := hx 1 _ rfl
  have x2 := hx 2 _ rfl
  have x3 := hx 3 _ rfl
  have x4 := hx 4 _ rfl
  have x5 := hx 5 _ rfl
  have x6 := hx 6 _ rfl
  have y0 := hy 0 _ rfl
  have y1 := hy 1 _ rfl
  have y2 := hy 2 _ rfl
  have y3 := hy 3 _ rfl
  have y4 := hy 4 _ rfl
  have y5 := hy 5 _ rfl
  have y6 := hy 6 _ rfl
  clear hx hy
  have hself := Below.refl W.heap.size W
  have hself1 := hself.drew
  go_quiet (fail)
  go_upto_block 0 with (fail)
  clear hself hself1
  go_cut [7] (fun s wx => Hid (reventsTo (min x.events.length y.events.length) x.events y.events = true) ∧ Below W.heap.size W wx)
  case rest =>
    obtain ⟨HE, hbel⟩ := hcut
    go_wp2_with (first
      | (go_at_call 17; refine (value_any x.ret y.ret _).mono ?_; rintro e w1 ⟨rfl, hcall⟩; have hb1 := below_next hbel (Nat.le_refl _) hcall)
      | (go_at_call 71; refine (vars_any _ _ x.vars y.vars _ W.heap.size hb1.size (RVars.later ha'.out (hwW.trans (hb1.mono hsz)) hsz) (RVars.later hb'.out (hwW.trans (hb1.mono hsz)) hsz)).mono ?_; rintro e w2 ⟨rfl, hcall2⟩))
    all_goals go_ret
    all_goals
      refine ⟨ret_bool ?_, ?_⟩
      · have HE' := HE.out
        clear x0 x1 x2 x3 x4 x5 x6 y0 y1 y2 y3 y4 y5 y6 HE ga gb ha' hb'
        rw [Bool.eq_iff_iff]
        first
          | (simp [rrefines, rearly, *]; done)
          | (simp [rrefines, rearly, *]; intros; omega)
          | (simp [rrefines, rearly, *]; intro h; rename_i h1 h2; simp [*] at h1)
      · first
          | exact hwW.trans (hbel.mono hsz)
          | exact hwW.trans (hb1.mono hsz)
          | exact hwW.trans (Below.mono (below_next hb1 (Nat.le_refl _) hcall2) hsz)
  case first =>
  go_wp2
  go_loopw [7] (fun i wr => ∃ k : Nat, k ≤ x.events.length ∧ k ≤ y.events.length ∧ i = .int .i64 k ∧ Hid (∀ j, j < k → revent (x.events.getD j default) (y.events.getD j default) = true) ∧ Below W.heap.size W wr) (fun i _ => x.events.length - (intOf i).toNat)
  case atStart => exact ⟨0, Nat.zero_le _, Nat.zero_le _, rfl, hide (fun j hj => by omega), below_drewN (Below.refl _ _) _⟩
  case round =>
    obtain ⟨k, hk, hk', rfl, hall, hbel⟩ := hrel
    by_cases hlt : k < x.events.length ∧ k < y.events.length
    · obtain ⟨hlt, hlt2⟩ := hlt
      obtain ⟨b1, o1, rfl, he1⟩ := ga.out (by omega)
      obtain ⟨b2, o2, rfl, he2⟩ := gb.out (by omega)
      obtain ⟨p, hp⟩ := get_ex hlt
      obtain ⟨q, hq⟩ := get_ex hlt2
      obtain ⟨_, _, ⟨c1, d1, rfl, hr1, hr2⟩, hc3⟩ := he1 k p hp.out
      obtain ⟨_, _, ⟨c2, d2, rfl, hr3, hr4⟩, hc4⟩ := he2 k q hq.out
      obtain ⟨p0, p1, p2⟩ := (hc3.later hwW hsz).three
      obtain ⟨q0, q1, q2⟩ := (hc4.later hwW hsz).three
      have RP : Hid (REvt.rep w w.heap.size [.int .i64 p.ext, c1, d1] p) := hide ⟨c1, d1, rfl, hr1, hr2⟩
      have RQ : Hid (REvt.rep w w.heap.size [.int .i64 q.ext, c2, d2] q) := hide ⟨c2, d2, rfl, hr3, hr4⟩
      obtain ⟨_, _, e1, _, _⟩ := hr1
      obtain ⟨_, _, e2, _, _⟩ := hr2
      obtain ⟨_, _, e3, _, _⟩ := hr3
      obtain ⟨_, _, e4, _, _⟩ := hr4
      cases e1; cases e2; cases e3; cases e4
      clear he1 he2 hc3 hc4
      have hww := Nat.le_refl W.heap.size
      go_wp2
      go_region_held3 (fun w' => Below W.heap.size W w') (first | exact hbel.drew | exact below_next (by assumption) hww (by assumption))
        (first | (go_at_call 70; refine (event_any p q _ _ _ _ _ W.heap.size (Below.size (by assumption)) (REvt.later RP.out (hwW.trans (Below.mono (by assumption) hsz)) hsz) (REvt.later RQ.out (hwW.trans (Below.mono (by assumption) hsz)) hsz)).mono ?_; rintro e w1 ⟨rfl, hcall⟩))
      cases hpq : revent p q with
      | false =>
        replace hpq := hide hpq
        go_wp2
        go_ret
        exact ⟨ret_bool (by simp [rrefines, h4, revents_at (k := min x.events.length y.events.length) (by omega) hp.out hq.out hpq.out]), hwW.trans (Below.mono (by assumption) hsz)⟩
      | true =>
        replace hpq := hide hpq
        go_wp2
        go_roundw
        case rel => exact ⟨k + 1, hlt, hlt2, by go_num, hide (upto_succ hall.out (by rw [getD_of hp.out, getD_of hq.out]; exact hpq.out)), by assumption⟩
        case measure => simp [intOf]; omega
    · by_cases hk1 : k < x.events.length
      all_goals go_wp2
      all_goals (go_meet; exact ⟨hide (allLt_true fun j hj => hall.out j (by omega)), hbel⟩)
end Go.Proofs.Ytffklfalocamiaa
