/- refine.Value, Byte, vars, event, Refines and lathelaw12.lives alone, walked (for seats without the reference of layer 12). No condition. -/
import Derived.Test.YtgkgmeofilkopaaRows
import Derived.Test.YtgkgmeofilkopaaData
import Derived.Test.YtgkgmeofilkopaaRep
import Derived.BigQuiet
import Derived.Deep.CutBlock
import Derived.Deep.DeepCutAuto
import Derived.Deep.LoopGhost
import Derived.Deep.QuietTactic
import Derived.Deep.RegionHeld3
import Derived.WalkKit
import Derived.WalkLawsBesides
import Derived.WalkSpells
namespace Go.Proofs.Ytgkgmeofilkopaa
open Go.RowKit

abbrev Val.v (x : Val) : Value := .agg #[.int .i64 x.kind, .int .u64 x.bits, .int .i64 x.block, .int .i64 x.off]
abbrev Byt.v (x : Byt) : Value := .agg #[.int .i64 x.kind, .int .u8 x.bits, .int .i64 x.block, .int .i64 x.off, .int .i64 x.i]

set_option maxHeartbeats 400000 in
theorem value_any (x y : Val) (w : World) :
    Calls Try.prog 42 #[x.v, y.v] w fun e w' => e = .returned (.bool (rvalue x y)) ∧ Below w.heap.size w w' := by
  obtain ⟨xk, xb, xl, xo⟩ := x
  obtain ⟨yk, yb, yl, yo⟩ := y
  go_enter Try.func42, Try.ntmps42
  go_wp2
  all_goals go_ret
  all_goals exact ⟨ret_bool (by rw [Bool.eq_iff_iff]; simp_all [rvalue, Val.eqb]), ((Below.refl _ _).alloc (by simp) _).alloc (by simp) _⟩

set_option maxHeartbeats 400000 in
theorem byte_any (x y : Byt) (w : World) :
    Calls Try.prog 43 #[x.v, y.v] w fun e w' => e = .returned (.bool (rbyte x y)) ∧ Below w.heap.size w w' := by
  obtain ⟨xk, xb, xl, xo, xi⟩ := x
  obtain ⟨yk, yb, yl, yo, yi⟩ := y
  go_enter Try.func43, Try.ntmps43
  go_wp2
  all_goals go_ret
  all_goals exact ⟨ret_bool (by rw [Bool.eq_iff_iff]; simp_all [rbyte, Byt.eqb]), ((Below.refl _ _).alloc (by simp) _).alloc (by simp) _⟩


def RVal : Rp Val := .plain (fun x => [.int .i64 x.kind, .int .u64 x.bits, .int .i64 x.block, .int .i64 x.off]) fun _ => True
def RByt : Rp Byt := .plain (fun x => [.int .i64 x.kind, .int .u8 x.bits, .int .i64 x.block, .int .i64 x.off, .int .i64 x.i]) fun _ => True
def RByts : Rp (List Byt) := .slice 5 RByt
def RVars : Rp (List (List Byt)) := .slice 1 RByts
def RVals : Rp (List Val) := .slice 4 RVal
def REvt : Rp Evt where
  rep w B cs x := ∃ c1 c2, cs = [.int .i64 x.ext, c1, c2] ∧ RVals.rep w B [c1] x.args ∧ RVars.rep w B [c2] x.vars
  keep := by
    rintro w w' B B' cs x ⟨c1, c2, h, h1, h2⟩ hk hB
    exact ⟨c1, c2, h, RVals.keep h1 hk hB, RVars.keep h2 hk hB⟩
def REvts : Rp (List Evt) := .slice 3 REvt
def ROut : Rp Outc where
  rep w B cs x := ∃ c1 c2, cs = [.int .i64 x.status, .int .i64 x.ret.kind, .int .u64 x.ret.bits, .int .i64 x.ret.block, .int .i64 x.ret.off, c1, c2, .int .i64 x.steps] ∧ REvts.rep w B [c1] x.events ∧ RVars.rep w B [c2] x.vars
  keep := by
    rintro w w' B B' cs x ⟨c1, c2, h, h1, h2⟩ hk hB
    exact ⟨c1, c2, h, REvts.keep h1 hk hB, RVars.keep h2 hk hB⟩

set_option maxHeartbeats 400000 in
theorem vars_any (u v : Value) (a b : List (List Byt)) (w : World) (B : Nat) (hB : B ≤ w.heap.size) (ha : RVars.rep w B [u] a) (hb : RVars.rep w B [v] b) :
    Calls Try.prog 106 #[u, v] w fun e w' => e = .returned (.bool (rvars a b)) ∧ Below w.heap.size w w' := by
  obtain ⟨A1, c1, h1, hm1, ga⟩ := Rp.slice1_open (RVars.later ha (Below.refl _ _) hB)
  obtain ⟨A2, c2, h2, hm2, gb⟩ := Rp.slice1_open (RVars.later hb (Below.refl _ _) hB)
  clear ha hb
  cases h1; cases h2
  by_cases hlen : a.length = b.length
  · have hl : ((a.length : Int) != (b.length : Int)) = false := by simp [hlen]
    replace ga := hide ga
    replace gb := hide gb
    replace hlen := hide hlen
    go_enter Try.func106, Try.ntmps106
    go_wp2
    go_loopw [14] (fun i wr => ∃ k : Nat, k ≤ a.length ∧ i = .int .i64 k ∧ Hid (∀ j, j < k → rbytes (a.getD j default) (b.getD j default) = true) ∧ Below w.heap.size w wr) (fun i _ => a.length - (intOf i).toNat)
    case atStart => exact ⟨0, Nat.zero_le _, rfl, hide (fun j hj => by omega), Below.refl _ _⟩
    case round =>
      obtain ⟨k, hk, rfl, hall, hbel⟩ := hrel
      by_cases hlt : k < a.length
      · have hlt2 : k < b.length := by have := hlen.out; omega
        obtain ⟨b1, o1, rfl, he1⟩ := ga.out (by omega)
        obtain ⟨b2, o2, rfl, he2⟩ := gb.out (by omega)
        obtain ⟨x, hx⟩ := get_ex hlt
        obtain ⟨y, hy⟩ := get_ex hlt2
        obtain ⟨d1, hr1, hd1⟩ := he1 k x hx.out
        obtain ⟨d2, hr2, hd2⟩ := he2 k y hy.out
        obtain ⟨A3, c3, h3, hm3, ga3⟩ := Rp.slice_open hr1
        obtain ⟨A4, c4, h4, hm4, gb4⟩ := Rp.slice_open hr2
        clear he1 he2 hr1 hr2
        cases h3; cases h4
        have hs := hbel.size
        have gb3 := hide gb4
        replace ga3 := hide ga3
        clear gb4
        by_cases hlen2 : x.length = y.length
        · have hl2 : ((x.length : Int) != (y.length : Int)) = false := by simp [hlen2]
          replace hlen2 := hide hlen2
          go_wp2
          go_quiet (fail)
          go_wp2
          go_loopw [33] (fun i wr1 => ∃ m : Nat, m ≤ x.length ∧ i = .int .i64 m ∧ Hid (∀ j, j < m → rbyte (x.getD j default) (y.getD j default) = true) ∧ Below w.heap.size w wr1) (fun i _ => x.length - (intOf i).toNat)
          case atStart => exact ⟨0, Nat.zero_le _, rfl, hide (fun j hj => by omega), hbel.trans (below_drewN (Below.refl _ _) _)⟩
          case round =>
            obtain ⟨m, hm, rfl, hall1, hbel1⟩ := hrel
            by_cases hlt3 : m < x.length
            · have hlt4 : m < y.length := by have := hlen2.out; omega
              obtain ⟨b3, o3, rfl, he3⟩ := ga3.out (by omega)
              obtain ⟨b4, o4, rfl, he4⟩ := gb3.out (by omega)
              obtain ⟨p, hp⟩ := get_ex hlt3
              obtain ⟨q, hq⟩ := get_ex hlt4
              obtain ⟨_, _, ⟨rfl, _⟩, hc3⟩ := he3 m p hp.out
              obtain ⟨_, _, ⟨rfl, _⟩, hc4⟩ := he4 m q hq.out
              obtain ⟨p0, p1, p2, p3, p4⟩ := hc3.five
              obtain ⟨q0, q1, q2, q3, q4⟩ := hc4.five
              clear he3 he4 hc3 hc4
              have hww := Nat.le_refl w.heap.size
              go_wp2
              go_region_held3 (fun w' => Below w.heap.size w w') (first | exact hbel1.drew | exact below_next (by assumption) hww (by assumption))
                (first | (go_at_call 43; refine (byte_any p q _).mono ?_; rintro e w1 ⟨rfl, hcall⟩))
              cases hpq : rbyte p q with
              | false =>
                replace hpq := hide hpq
                go_wp2
                go_ret
                exact ⟨ret_bool (rvars_at hlt hx.out hy.out (rbytes_at hlt3 hp.out hq.out hpq.out)).symm, by assumption⟩
              | true =>
                replace hpq := hide hpq
                go_wp2
                go_roundw
                case rel => exact ⟨m + 1, hlt3, by go_num, hide (upto_succ hall1.out (by rw [getD_of hp.out, getD_of hq.out]; exact hpq.out)), by assumption⟩
                case measure => simp [intOf]; omega
            · go_wp2
              go_roundw
              case rel => exact ⟨k + 1, hlt, by go_num, hide (upto_succ hall.out (by rw [getD_of hx.out, getD_of hy.out]; exact rbytes_all hlen2.out fun j hj => hall1.out j (by omega))), by assumption⟩
              case measure => simp [intOf]; omega
        · have hl2 : ((x.length : Int) != (y.length : Int)) = true := by simp; omega
          go_wp2
          go_quiet (fail)
          go_wp2
          go_ret
          exact ⟨ret_bool (rvars_at hlt hx.out hy.out (by simp [rbytes, hlen2])).symm, hbel.trans (below_drewN (Below.refl _ _) _)⟩
      · go_wp2
        go_ret
        exact ⟨ret_bool (rvars_all hlen.out fun j hj => hall.out j (by omega)).symm, hbel⟩
  · have hl : ((a.length : Int) != (b.length : Int)) = true := by simp; omega
    go_enter Try.func106, Try.ntmps106
    go_wp2
    go_ret
    exact ⟨ret_bool (by simp [rvars, hlen]), Below.refl _ _⟩

set_option maxHeartbeats 400000 in
theorem event_any (x y : Evt) (ca da cb db : Value) (w : World) (B : Nat) (hB : B ≤ w.heap.size) (ha : REvt.rep w B [.int .i64 x.ext, ca, da] x) (hb : REvt.rep w B [.int .i64 y.ext, cb, db] y) :
    Calls Try.prog 105 #[.agg #[.int .i64 x.ext, ca, da], .agg #[.int .i64 y.ext, cb, db]] w fun e w' => e = .returned (.bool (revent x y)) ∧ Below w.heap.size w w' := by
  obtain ⟨c1, c2, h1, ha1, ha2⟩ := ha
  obtain ⟨c3, c4, h2, hb1, hb2⟩ := hb
  cases h1; cases h2
  replace ha2 := RVars.later ha2 (Below.refl _ _) hB
  replace hb2 := RVars.later hb2 (Below.refl _ _) hB
  obtain ⟨A3, k3, h3, hm3, ga⟩ := Rp.slice_open (RVals.later ha1 (Below.refl _ _) hB)
  obtain ⟨A4, k4, h4, hm4, gb⟩ := Rp.slice_open (RVals.later hb1 (Below.refl _ _) hB)
  cases h3; cases h4
  obtain ⟨A5, k5, h5, hm5, ga5⟩ := Rp.slice1_open ha2
  obtain ⟨A6, k6, h6, hm6, gb6⟩ := Rp.slice1_open hb2
  clear ga5 gb6 ha1 hb1
  cases h5; cases h6
  replace ga := hide ga
  replace gb := hide gb
  replace ha2 := hide ha2
  replace hb2 := hide hb2
  cases he : (x.ext != y.ext) with
  | true =>
    go_enter Try.func105, Try.ntmps105
    go_wp2
    go_ret
    exact ⟨ret_bool (by have : (x.ext == y.ext) = false := by simpa [bne] using he
                        simp [revent, this]), ((Below.refl _ _).alloc (by simp) _).alloc (by simp) _⟩
  | false =>
  have he2 : Hid (x.ext = y.ext) := hide (by simpa [bne] using he)
  by_cases hlen : x.args.length = y.args.length
  · have hl : ((x.args.length : Int) != (y.args.length : Int)) = false := by simp [hlen]
    replace hlen := hide hlen
    go_enter Try.func105, Try.ntmps105
    go_wp2
    obtain ⟨W, hW, hwW, hWs, hx, hy⟩ := boxes2 w #[.int .i64 x.ext, .slice A3 x.args.length k3, .slice A5 x.vars.length k5] #[.int .i64 y.ext, .slice A4 y.args.length k4, .slice A6 y.vars.length k6] 151 151
    rw [hW]
    clear hW
    have hx1 := hx 1 _ rfl
    have hy1 := hy 1 _ rfl
    have hx2 := hx 2 _ rfl
    have hy2 := hy 2 _ rfl
    clear hx hy
    have hsz : w.heap.size ≤ W.heap.size := by omega
    replace hWs := hide hWs
    go_loopw [23] (fun i wr => ∃ k : Nat, k ≤ x.args.length ∧ i = .int .i64 k ∧ Hid (∀ j, j < k → rvalue (x.args.getD j default) (y.args.getD j default) = true) ∧ Below W.heap.size W wr) (fun i _ => x.args.length - (intOf i).toNat)
    case atStart => exact ⟨0, Nat.zero_le _, rfl, hide (fun j hj => by omega), Below.refl _ _⟩
    case round =>
      obtain ⟨k, hk, rfl, hall, hbel⟩ := hrel
      by_cases hlt : k < x.args.length
      · have hlt2 : k < y.args.length := by have := hlen.out; omega
        obtain ⟨b1, o1, rfl, he1⟩ := ga.out (by omega)
        obtain ⟨b2, o2, rfl, he2⟩ := gb.out (by omega)
        obtain ⟨p, hp⟩ := get_ex hlt
        obtain ⟨q, hq⟩ := get_ex hlt2
        obtain ⟨_, _, ⟨rfl, _⟩, hc3⟩ := he1 k p hp.out
        obtain ⟨_, _, ⟨rfl, _⟩, hc4⟩ := he2 k q hq.out
        obtain ⟨p0, p1, p2, p3⟩ := (hc3.later hwW hsz).four
        obtain ⟨q0, q1, q2, q3⟩ := (hc4.later hwW hsz).four
        clear he1 he2 hc3 hc4
        have hww := Nat.le_refl W.heap.size
        go_wp2
        go_region_held3 (fun w' => Below W.heap.size W w') (first | exact hbel.drew | exact below_next (by assumption) hww (by assumption))
          (first | (go_at_call 42; refine (value_any p q _).mono ?_; rintro e w1 ⟨rfl, hcall⟩))
        cases hpq : rvalue p q with
        | false =>
          replace hpq := hide hpq
          go_wp2
          go_ret
          exact ⟨ret_bool (by simp [revent, rvals_at hlt hp.out hq.out hpq.out]), hwW.trans (Below.mono (by assumption) hsz)⟩
        | true =>
          replace hpq := hide hpq
          go_wp2
          go_roundw
          case rel => exact ⟨k + 1, hlt, by go_num, hide (upto_succ hall.out (by rw [getD_of hp.out, getD_of hq.out]; exact hpq.out)), by assumption⟩
          case measure => simp [intOf]; omega
      · go_wp2_with (go_at_call 106; refine (vars_any _ _ x.vars y.vars _ W.heap.size hbel.size (RVars.later ha2.out (hwW.trans (hbel.mono hsz)) hsz) (RVars.later hb2.out (hwW.trans (hbel.mono hsz)) hsz)).mono ?_; rintro e w1 ⟨rfl, hcall⟩)
        go_ret
        exact ⟨ret_bool (by simp [revent, he2.out, rvals_all hlen.out fun j hj => hall.out j (by omega)]), below_next (hwW.trans (hbel.mono hsz)) (Nat.le_refl _) hcall⟩
  · have hl : ((x.args.length : Int) != (y.args.length : Int)) = true := by simp; omega
    go_enter Try.func105, Try.ntmps105
    go_wp2
    go_ret
    exact ⟨ret_bool (by simp [revent, rvals, hlen]), ((Below.refl _ _).alloc (by simp) _).alloc (by simp) _⟩

theorem revents_at {x y : List Evt} {m k : Nat} {p q : Evt} (hm : m < k) (hp : x[m]? = some p) (hq : y[m]? = some q) (h : revent p q = false) : reventsTo k x y = false :=
  allLt_false hm (by simpa [List.getD, hp, hq] using h)

/-- it answers some bool, and makes memory alone -/
def SomeBool (w : World) (e : Ending) (w' : World) : Prop := ∃ b : Bool, e = .returned (.bool b) ∧ Below w.heap.size w w'
abbrev Outc.v (x : Outc) (c d : Value) : Value := .agg #[.int .i64 x.status, .int .i64 x.ret.kind, .int .u64 x.ret.bits, .int .i64 x.ret.block, .int .i64 x.ret.off, c, d, .int .i64 x.steps]


set_option maxHeartbeats 800000 in
theorem refines_any (x y : Outc) (ca da cb db : Value) (w : World) (B : Nat) (hB : B ≤ w.heap.size) (ha : REvts.rep w B [ca] x.events) (ha' : RVars.rep w B [da] x.vars)
    (hb : REvts.rep w B [cb] y.events) (hb' : RVars.rep w B [db] y.vars) :
    Calls Try.prog 77 #[x.v ca da, y.v cb db] w fun e w' => e = .returned (.bool (rrefines x y)) ∧ Below w.heap.size w w' := by
  obtain ⟨A1, k1, h1, hm1, ga⟩ := Rp.slice_open (REvts.later ha (Below.refl _ _) hB)
  obtain ⟨A2, k2, h2, hm2, gb⟩ := Rp.slice_open (REvts.later hb (Below.refl _ _) hB)
  replace ha' := RVars.later ha' (Below.refl _ _) hB
  replace hb' := RVars.later hb' (Below.refl _ _) hB
  obtain ⟨A3, k3, h3, _, _⟩ := Rp.slice1_open ha'
  obtain ⟨A4, k4, h4, _, _⟩ := Rp.slice1_open hb'
  cases h1; cases h2; cases h3; cases h4
  replace ga := hide ga
  replace gb := hide gb
  replace ha' := hide ha'
  replace hb' := hide hb'
  clear ha hb
  cases h4 : (x.status == 4) with
  | true =>
    go_enter Try.func77, Try.ntmps77
    go_wp2
    go_ret
    exact ⟨ret_bool (by simp [rrefines, h4]), ((Below.refl _ _).alloc (by simp) _).alloc (by simp) _⟩
  | false =>
  go_enter Try.func77, Try.ntmps77
  go_wp2
  obtain ⟨W, hW, hwW, hWs, hx, hy⟩ := boxes2 w #[.int .i64 x.status, .int .i64 x.ret.kind, .int .u64 x.ret.bits, .int .i64 x.ret.block, .int .i64 x.ret.off, .slice A1 x.events.length k1, .slice A3 x.vars.length k3, .int .i64 x.steps]
    #[.int .i64 y.status, .int .i64 y.ret.kind, .int .u64 y.ret.bits, .int .i64 y.ret.block, .int .i64 y.ret.off, .slice A2 y.events.length k2, .slice A4 y.vars.length k4, .int .i64 y.steps] 122 122
  rw [hW]
  clear hW
  have hsz : w.heap.size ≤ W.heap.size := by omega
  replace hWs := hide hWs
  have x0 := hx 0 _ rfl
  have x1 := hx 1 _ rfl
  have x2 := hx 2 _ rfl
  have x3 := hx 3 _ rfl
  have x4 := hx 4 _ rfl
  have x5 := hx 5 _ rfl
  have x6 := hx 6 _ rfl
  have y0 := hy 0 _ rfl
  have y1 := hy 1 _ rfl
  have y2 := hy 2 _ rfl
  have y3 := hy 3 _ rfl
  have y4 := hy 4 _ rfl
  have y5 := hy 5 _ rfl
  have y6 := hy 6 _ rfl
  clear hx hy
  have hself := Below.refl W.heap.size W
  have hself1 := hself.drew
  go_quiet (fail)
  go_upto_block 0 with (fail)
  clear hself hself1
  go_cut [7] (fun s wx => Hid (reventsTo (min x.events.length y.events.length) x.events y.events = true) ∧ Below W.heap.size W wx)
  case rest =>
    obtain ⟨HE, hbel⟩ := hcut
    go_wp2_with (first
      | (go_at_call 42; refine (value_any x.ret y.ret _).mono ?_; rintro e w1 ⟨rfl, hcall⟩; have hb1 := below_next hbel (Nat.le_refl _) hcall)
      | (go_at_call 106; refine (vars_any _ _ x.vars y.vars _ W.heap.size hb1.size (RVars.later ha'.out (hwW.trans (hb1.mono hsz)) hsz) (RVars.later hb'.out (hwW.trans (hb1.mono hsz)) hsz)).mono ?_; rintro e w2 ⟨rfl, hcall2⟩))
    all_goals go_ret
    all_goals
      refine ⟨ret_bool ?_, ?_⟩
      · have HE' := HE.out
        clear x0 x1 x2 x3 x4 x5 x6 y0 y1 y2 y3 y4 y5 y6 HE ga gb ha' hb'
        rw [Bool.eq_iff_iff]
        first
          | (simp [rrefines, rearly, *]; done)
          | (simp [rrefines, rearly, *]; intros; omega)
          | (simp [rrefines, rearly, *]; intro h; rename_i h1 h2; simp [*] at h1)
      · first
          | exact hwW.trans (hbel.mono hsz)
          | exact hwW.trans (hb1.mono hsz)
          | exact hwW.trans (Below.mono (below_next hb1 (Nat.le_refl _) hcall2) hsz)
  case first =>
  go_wp2
  go_loopw [7] (fun i wr => ∃ k : Nat, k ≤ x.events.length ∧ k ≤ y.events.length ∧ i = .int .i64 k ∧ Hid (∀ j, j < k → revent (x.events.getD j default) (y.events.getD j default) = true) ∧ Below W.heap.size W wr) (fun i _ => x.events.length - (intOf i).toNat)
  case atStart => exact ⟨0, Nat.zero_le _, Nat.zero_le _, rfl, hide (fun j hj => by omega), below_drewN (Below.refl _ _) _⟩
  case round =>
    obtain ⟨k, hk, hk', rfl, hall, hbel⟩ := hrel
    by_cases hlt : k < x.events.length ∧ k < y.events.length
    · obtain ⟨hlt, hlt2⟩ := hlt
      obtain ⟨b1, o1, rfl, he1⟩ := ga.out (by omega)
      obtain ⟨b2, o2, rfl, he2⟩ := gb.out (by omega)
      obtain ⟨p, hp⟩ := get_ex hlt
      obtain ⟨q, hq⟩ := get_ex hlt2
      obtain ⟨_, _, ⟨c1, d1, rfl, hr1, hr2⟩, hc3⟩ := he1 k p hp.out
      obtain ⟨_, _, ⟨c2, d2, rfl, hr3, hr4⟩, hc4⟩ := he2 k q hq.out
      obtain ⟨p0, p1, p2⟩ := (hc3.later hwW hsz).three
      obtain ⟨q0, q1, q2⟩ := (hc4.later hwW hsz).three
      have RP : Hid (REvt.rep w w.heap.size [.int .i64 p.ext, c1, d1] p) := hide ⟨c1, d1, rfl, hr1, hr2⟩
      have RQ : Hid (REvt.rep w w.heap.size [.int .i64 q.ext, c2, d2] q) := hide ⟨c2, d2, rfl, hr3, hr4⟩
      obtain ⟨_, _, e1, _, _⟩ := hr1
      obtain ⟨_, _, e2, _, _⟩ := hr2
      obtain ⟨_, _, e3, _, _⟩ := hr3
      obtain ⟨_, _, e4, _, _⟩ := hr4
      cases e1; cases e2; cases e3; cases e4
      clear he1 he2 hc3 hc4
      have hww := Nat.le_refl W.heap.size
      go_wp2
      go_region_held3 (fun w' => Below W.heap.size W w') (first | exact hbel.drew | exact below_next (by assumption) hww (by assumption))
        (first | (go_at_call 105; refine (event_any p q _ _ _ _ _ W.heap.size (Below.size (by assumption)) (REvt.later RP.out (hwW.trans (Below.mono (by assumption) hsz)) hsz) (REvt.later RQ.out (hwW.trans (Below.mono (by assumption) hsz)) hsz)).mono ?_; rintro e w1 ⟨rfl, hcall⟩))
      cases hpq : revent p q with
      | false =>
        replace hpq := hide hpq
        go_wp2
        go_ret
        exact ⟨ret_bool (by simp [rrefines, h4, revents_at (k := min x.events.length y.events.length) (by omega) hp.out hq.out hpq.out]), hwW.trans (Below.mono (by assumption) hsz)⟩
      | true =>
        replace hpq := hide hpq
        go_wp2
        go_roundw
        case rel => exact ⟨k + 1, hlt, hlt2, by go_num, hide (upto_succ hall.out (by rw [getD_of hp.out, getD_of hq.out]; exact hpq.out)), by assumption⟩
        case measure => simp [intOf]; omega
    · by_cases hk1 : k < x.events.length
      all_goals go_wp2
      all_goals (go_meet; exact ⟨hide (allLt_true fun j hj => hall.out j (by omega)), hbel⟩)

set_option maxHeartbeats 800000 in
theorem lives12 (w : World) : Calls Try.prog 41 #[] w fun e w' => e = .returned (.bool true) ∧ Below w.heap.size w w' := by
  have V1 : ∀ w, Calls Try.prog 42 #[.agg #[.int .i64 0, .int .u64 0, .int .i64 0, .int .i64 0], .agg #[.int .i64 1, .int .u64 5, .int .i64 0, .int .i64 0]] w fun e w' => e = .returned (.bool true) ∧ Below w.heap.size w w' := fun w => value_any ⟨0, 0, 0, 0⟩ ⟨1, 5, 0, 0⟩ w
  have V2 : ∀ w, Calls Try.prog 42 #[.agg #[.int .i64 3, .int .u64 0, .int .i64 0, .int .i64 0], .agg #[.int .i64 1, .int .u64 5, .int .i64 0, .int .i64 0]] w fun e w' => e = .returned (.bool true) ∧ Below w.heap.size w w' := fun w => value_any ⟨3, 0, 0, 0⟩ ⟨1, 5, 0, 0⟩ w
  have V3 : ∀ w, Calls Try.prog 42 #[.agg #[.int .i64 1, .int .u64 5, .int .i64 0, .int .i64 0], .agg #[.int .i64 3, .int .u64 0, .int .i64 0, .int .i64 0]] w fun e w' => e = .returned (.bool false) ∧ Below w.heap.size w w' := fun w => value_any ⟨1, 5, 0, 0⟩ ⟨3, 0, 0, 0⟩ w
  have R1 : ∀ w, Calls Try.prog 77 #[.agg #[.int .i64 1, .int .i64 0, .int .u64 0, .int .i64 0, .int .i64 0, .slice none 0 0, .slice none 0 0, .int .i64 0], .agg #[.int .i64 0, .int .i64 0, .int .u64 0, .int .i64 0, .int .i64 0, .slice none 0 0, .slice none 0 0, .int .i64 0]] w fun e w' => e = .returned (.bool true) ∧ Below w.heap.size w w' :=
    fun w => refines_any ⟨1, ⟨0, 0, 0, 0⟩, [], [], 0⟩ ⟨0, ⟨0, 0, 0, 0⟩, [], [], 0⟩ _ _ _ _ w 0 (Nat.zero_le _) Rp.nil_rep Rp.nil_rep Rp.nil_rep Rp.nil_rep
  have R2 : ∀ w, Calls Try.prog 77 #[.agg #[.int .i64 0, .int .i64 1, .int .u64 5, .int .i64 0, .int .i64 0, .slice none 0 0, .slice none 0 0, .int .i64 0], .agg #[.int .i64 0, .int .i64 0, .int .u64 0, .int .i64 0, .int .i64 0, .slice none 0 0, .slice none 0 0, .int .i64 0]] w fun e w' => e = .returned (.bool false) ∧ Below w.heap.size w w' :=
    fun w => refines_any ⟨0, ⟨1, 5, 0, 0⟩, [], [], 0⟩ ⟨0, ⟨0, 0, 0, 0⟩, [], [], 0⟩ _ _ _ _ w 0 (Nat.zero_le _) Rp.nil_rep Rp.nil_rep Rp.nil_rep Rp.nil_rep
  replace V1 := hide V1
  replace V2 := hide V2
  replace V3 := hide V3
  replace R1 := hide R1
  replace R2 := hide R2
  go_enter Try.func41, Try.ntmps41
  go_wp2_with fail
  obtain ⟨W, hW, hwW, hWs, hx⟩ := boxes1 w #[.int .i64 1, .int .u64 5, .int .i64 0, .int .i64 0] 47
  rw [hW]
  clear hW
  have hsz : w.heap.size ≤ W.heap.size := by omega
  replace hWs := hide hWs
  have x0 := hx 0 _ rfl
  have x1 := hx 1 _ rfl
  have x2 := hx 2 _ rfl
  have x3 := hx 3 _ rfl
  clear hx
  refine (V1.out _).mono ?_
  rintro e w1 ⟨rfl, b1⟩
  go_wp2_with fail
  refine (V2.out _).mono ?_
  rintro e w2 ⟨rfl, c2⟩
  have b2 := below_next b1 (Nat.le_refl _) c2
  go_wp2_with fail
  refine (V3.out _).mono ?_
  rintro e w3 ⟨rfl, c3⟩
  have b3 := below_next b2 (Nat.le_refl _) c3
  go_wp2_with fail
  refine (R1.out _).mono ?_
  rintro e w4 ⟨rfl, c4⟩
  have b4 := below_next b3 (Nat.le_refl _) c4
  go_wp2_with fail
  refine (R2.out _).mono ?_
  rintro e w5 ⟨rfl, c5⟩
  have b5 := below_next b4 (Nat.le_refl _) c5
  go_wp2
  go_ret
  exact ⟨rfl, hwW.trans (b5.mono hsz)⟩

end Go.Proofs.Ytgkgmeofilkopaa
