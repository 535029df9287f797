/- Walks of latheref12.Event and latheref12.Together. No condition. -/
import Derived.Test.YtffklfalocamiaaRefF
import Derived.Test.YtffklfalocamiaaRefD
namespace Go.Proofs.Ytffklfalocamiaa
open Go.RowKit

set_option maxHeartbeats 800000 in
theorem evt_any (x y : Evt) (ca da cb db : Value) (w : World) (B : Nat) (hB : B ≤ w.heap.size) (ha : REvt.rep w B [.int .i64 x.ext, ca, da] x) (hb : REvt.rep w B [.int .i64 y.ext, cb, db] y) :
    Calls Try.prog 90 #[.agg #[.int .i64 x.ext, ca, da], .agg #[.int .i64 y.ext, cb, db]] w fun e w' => e = .returned (.bool (revent x y)) ∧ Below w.heap.size w w' := by
  obtain ⟨c1, c2, h1, ha1, ha2⟩ := ha
  obtain ⟨c3, c4, h2, hb1, hb2⟩ := hb
  cases h1; cases h2
  replace ha2 := RVars.later ha2 (Below.refl _ _) hB
  replace hb2 := RVars.later hb2 (Below.refl _ _) hB
  obtain ⟨A3, k3, h3, hm3, ga⟩ := Rp.slice_open (RVals.later ha1 (Below.refl _ _) hB)
  obtain ⟨A4, k4, h4, hm4, gb⟩ := Rp.slice_open (RVals.later hb1 (Below.refl _ _) hB)
  cases h3; cases h4
  obtain ⟨A5, k5, h5, hm5, ga5⟩ := Rp.slice1_open ha2
  obtain ⟨A6, k6, h6, hm6, gb6⟩ := Rp.slice1_open hb2
  clear ga5 gb6 ha1 hb1
  cases h5; cases h6
  replace ga := hide ga
  replace gb := hide gb
  replace ha2 := hide ha2
  replace hb2 := hide hb2
  cases he : (x.ext == y.ext) with
  | false =>
    go_enter Try.func90, Try.ntmps90
    go_wp2
    go_loop [5, 6] (fun ok i => ok = .bool false ∧ i = .int .i64 0) (fun _ _ => 0)
    case atStart => exact ⟨rfl, rfl⟩
    case round =>
      obtain ⟨rfl, rfl⟩ := hrel
      go_wp2
      go_ret
      exact ⟨ret_bool (by simp [revent, he]), ((Below.refl _ _).alloc (by simp) _).alloc (by simp) _⟩
  | true =>
  have he2 : Hid ((x.ext == y.ext) = true) := hide he
  obtain ⟨c, hc⟩ : ∃ c : Bool, c = ((x.args.length : Int) == (y.args.length : Int)) := ⟨_, rfl⟩
  have hc0 : Hid (c = rvalsTo 0 x.args y.args) := hide (by rw [hc, rvalsTo, allLt_zero, Bool.and_true, Bool.eq_iff_iff]; simp; omega)
  have hc' := hc.symm
  clear hc
  go_enter Try.func90, Try.ntmps90
  go_wp2
  clear hc'
  obtain ⟨W, hW, hwW, hWs, hx, hy⟩ := boxes2 w #[.int .i64 x.ext, .slice A3 x.args.length k3, .slice A5 x.vars.length k5] #[.int .i64 y.ext, .slice A4 y.args.length k4, .slice A6 y.vars.length k6] 97 97
  rw [hW]
  clear hW
  have hx1 := hx 1 _ rfl
  have hy1 := hy 1 _ rfl
  have hx2 := hx 2 _ rfl
  have hy2 := hy 2 _ rfl
  clear hx hy
  have hsz : w.heap.size ≤ W.heap.size := by omega
  have hww := Nat.le_refl W.heap.size
  replace hWs := hide hWs
  go_loopw [5, 6] (fun ok i wr => ∃ k : Nat, k ≤ x.args.length ∧ i = .int .i64 k ∧ (∃ d : Bool, Hid (d = rvalsTo k x.args y.args) ∧ ok = .bool d) ∧ Below W.heap.size W wr) (fun ok i _ => x.args.length - (intOf i).toNat + (match ok with | .bool true => 1 | _ => 0))
  case atStart => exact ⟨0, Nat.zero_le _, rfl, ⟨c, hc0, rfl⟩, Below.refl _ _⟩
  case round =>
    obtain ⟨k, hk, rfl, ⟨d, hd, rfl⟩, hbel⟩ := hrel
    cases d with
    | false =>
      go_wp2
      go_ret
      exact ⟨ret_bool (by rw [revent, ← rvalsTo_full hk (.inl hd.out.symm), ← hd.out]; simp), hwW.trans (hbel.mono hsz)⟩
    | true =>
    by_cases hlt : k < x.args.length
    · have hlt2 : k < y.args.length := by have := rvalsTo_len hd.out.symm; omega
      obtain ⟨b1, o1, rfl, he1⟩ := ga.out (by omega)
      obtain ⟨b2, o2, rfl, he2⟩ := gb.out (by omega)
      obtain ⟨p, hp⟩ := get_ex hlt
      obtain ⟨q, hq⟩ := get_ex hlt2
      obtain ⟨_, _, ⟨rfl, _⟩, hc3⟩ := he1 k p hp.out
      obtain ⟨_, _, ⟨rfl, _⟩, hc4⟩ := he2 k q hq.out
      obtain ⟨p0, p1, p2, p3⟩ := (hc3.later hwW hsz).four
      obtain ⟨q0, q1, q2, q3⟩ := (hc4.later hwW hsz).four
      clear he1 he2 hc3 hc4
      go_wp2
      go_region_held3 (fun w' => Below W.heap.size W w') (first | exact hbel.drew | exact below_next (by assumption) hww (by assumption))
        (first | (go_at_call 18; refine (rvalue_any p q _).mono ?_; rintro e w1 ⟨rfl, hcall⟩))
      go_wp2
      go_roundw
      case rel => exact ⟨k + 1, hlt, by go_num, ⟨_, hide (rvalsTo_succ hd.out.symm hp.out hq.out).symm, rfl⟩, by assumption⟩
      case measure => cases rvalue p q <;> simp [intOf] <;> omega
    · go_wp2_with (go_at_call 73; refine (bytes_any _ _ x.vars y.vars _ W.heap.size hbel.size (RVars.later ha2.out (hwW.trans (hbel.mono hsz)) hsz) (RVars.later hb2.out (hwW.trans (hbel.mono hsz)) hsz)).mono ?_; rintro e w1 ⟨rfl, hcall⟩)
      go_ret
      exact ⟨ret_bool (by rw [revent, ← rvalsTo_full hk (.inr (by omega)), ← hd.out, he2.out]; simp), below_next (hwW.trans (hbel.mono hsz)) (Nat.le_refl _) hcall⟩

set_option maxHeartbeats 800000 in
theorem together_any (x y : Outc) (ca da cb db : Value) (w : World) (B : Nat) (hB : B ≤ w.heap.size) (ha : REvts.rep w B [ca] x.events) (hb : REvts.rep w B [cb] y.events) (hda : ∃ A n c, da = .slice A n c) (hdb : ∃ A n c, db = .slice A n c) :
    Calls Try.prog 72 #[x.v ca da, y.v cb db] w fun e w' => e = .returned (.bool (reventsTo (min x.events.length y.events.length) x.events y.events)) ∧ Below w.heap.size w w' := by
  obtain ⟨A1, k1, h1, hm1, ga⟩ := Rp.slice_open (REvts.later ha (Below.refl _ _) hB)
  obtain ⟨A2, k2, h2, hm2, gb⟩ := Rp.slice_open (REvts.later hb (Below.refl _ _) hB)
  obtain ⟨A3, n3, k3, rfl⟩ := hda
  obtain ⟨A4, n4, k4, rfl⟩ := hdb
  cases h1; cases h2
  replace ga := hide ga
  replace gb := hide gb
  clear ha hb
  go_enter Try.func72, Try.ntmps72
  go_wp2
  obtain ⟨W, hW, hwW, hWs, hx, hy⟩ := boxes2 w #[.int .i64 x.status, .int .i64 x.ret.kind, .int .u64 x.ret.bits, .int .i64 x.ret.block, .int .i64 x.ret.off, .slice A1 x.events.length k1, .slice A3 n3 k3, .int .i64 x.steps]
    #[.int .i64 y.status, .int .i64 y.ret.kind, .int .u64 y.ret.bits, .int .i64 y.ret.block, .int .i64 y.ret.off, .slice A2 y.events.length k2, .slice A4 n4 k4, .int .i64 y.steps] 30 30
  rw [hW]
  clear hW
  have hsz : w.heap.size ≤ W.heap.size := by omega
  have hww := Nat.le_refl W.heap.size
  replace hWs := hide hWs
  have x5 := hx 5 _ rfl
  have y5 := hy 5 _ rfl
  clear hx hy
  go_loopw [5] (fun i wr => ∃ k : Nat, k ≤ x.events.length ∧ k ≤ y.events.length ∧ i = .int .i64 k ∧ Hid (∀ j, j < k → revent (x.events.getD j default) (y.events.getD j default) = true) ∧ Below W.heap.size W wr) (fun i _ => x.events.length - (intOf i).toNat)
  case atStart => exact ⟨0, Nat.zero_le _, Nat.zero_le _, rfl, hide (fun j hj => by omega), Below.refl _ _⟩
  case round =>
    obtain ⟨k, hk, hk', rfl, hall, hbel⟩ := hrel
    by_cases hlt : k < x.events.length
    · by_cases hlt2 : k < y.events.length
      · obtain ⟨b1, o1, rfl, he1⟩ := ga.out (by omega)
        obtain ⟨b2, o2, rfl, he2⟩ := gb.out (by omega)
        obtain ⟨p, hp⟩ := get_ex hlt
        obtain ⟨q, hq⟩ := get_ex hlt2
        obtain ⟨_, _, ⟨c1, d1, rfl, hr1, hr2⟩, hc3⟩ := he1 k p hp.out
        obtain ⟨_, _, ⟨c2, d2, rfl, hr3, hr4⟩, hc4⟩ := he2 k q hq.out
        obtain ⟨p0, p1, p2⟩ := (hc3.later hwW hsz).three
        obtain ⟨q0, q1, q2⟩ := (hc4.later hwW hsz).three
        have RP : Hid (REvt.rep w w.heap.size [.int .i64 p.ext, c1, d1] p) := hide ⟨c1, d1, rfl, hr1, hr2⟩
        have RQ : Hid (REvt.rep w w.heap.size [.int .i64 q.ext, c2, d2] q) := hide ⟨c2, d2, rfl, hr3, hr4⟩
        obtain ⟨_, _, e1, _, _⟩ := hr1
        obtain ⟨_, _, e2, _, _⟩ := hr2
        obtain ⟨_, _, e3, _, _⟩ := hr3
        obtain ⟨_, _, e4, _, _⟩ := hr4
        cases e1; cases e2; cases e3; cases e4
        clear he1 he2 hc3 hc4
        go_wp2
        go_region_held3 (fun w' => Below W.heap.size W w') (first | exact hbel.drew | exact below_next (by assumption) hww (by assumption))
          (first | (go_at_call 90; refine (evt_any p q _ _ _ _ _ W.heap.size (Below.size (by assumption)) (REvt.later RP.out (hwW.trans (Below.mono (by assumption) hsz)) hsz) (REvt.later RQ.out (hwW.trans (Below.mono (by assumption) hsz)) hsz)).mono ?_; rintro e w1 ⟨rfl, hcall⟩))
        cases hpq : revent p q with
        | false =>
          replace hpq := hide hpq
          go_wp2
          go_ret
          exact ⟨ret_bool (revents_at (k := min x.events.length y.events.length) (by omega) hp.out hq.out hpq.out).symm, hwW.trans (Below.mono (by assumption) hsz)⟩
        | true =>
          replace hpq := hide hpq
          go_wp2
          go_roundw
          case rel => exact ⟨k + 1, hlt, hlt2, by go_num, hide (upto_succ hall.out (by rw [getD_of hp.out, getD_of hq.out]; exact hpq.out)), by assumption⟩
          case measure => simp [intOf]; omega
      · go_wp2
        go_ret
        exact ⟨ret_bool (allLt_true fun j hj => hall.out j (by omega)).symm, hwW.trans (hbel.mono hsz)⟩
    · go_wp2
      go_ret
      exact ⟨ret_bool (allLt_true fun j hj => hall.out j (by omega)).symm, hwW.trans (hbel.mono hsz)⟩
end Go.Proofs.Ytffklfalocamiaa
