/- The walk of refine.vars. No condition. -/
import Derived.Test.YtffklfalocamiaaRefA
import Derived.Deep.RegionHeld3
import Derived.Deep.LoopGhost
import Derived.Deep.QuietTactic
import Derived.BigQuiet
namespace Go.Proofs.Ytffklfalocamiaa
open Go.RowKit

def RVal : Rp Val := .plain (fun x => [.int .i64 x.kind, .int .u64 x.bits, .int .i64 x.block, .int .i64 x.off]) fun _ => True
def RByt : Rp Byt := .plain (fun x => [.int .i64 x.kind, .int .u8 x.bits, .int .i64 x.block, .int .i64 x.off, .int .i64 x.i]) fun _ => True
def RByts : Rp (List Byt) := .slice 5 RByt
def RVars : Rp (List (List Byt)) := .slice 1 RByts
def RVals : Rp (List Val) := .slice 4 RVal
def REvt : Rp Evt where
  rep w B cs x := ∃ c1 c2, cs = [.int .i64 x.ext, c1, c2] ∧ RVals.rep w B [c1] x.args ∧ RVars.rep w B [c2] x.vars
  keep := by
    rintro w w' B B' cs x ⟨c1, c2, h, h1, h2⟩ hk hB
    exact ⟨c1, c2, h, RVals.keep h1 hk hB, RVars.keep h2 hk hB⟩
def REvts : Rp (List Evt) := .slice 3 REvt
def ROut : Rp Outc where
  rep w B cs x := ∃ c1 c2, cs = [.int .i64 x.status, .int .i64 x.ret.kind, .int .u64 x.ret.bits, .int .i64 x.ret.block, .int .i64 x.ret.off, c1, c2, .int .i64 x.steps] ∧ REvts.rep w B [c1] x.events ∧ RVars.rep w B [c2] x.vars
  keep := by
    rintro w w' B B' cs x ⟨c1, c2, h, h1, h2⟩ hk hB
    exact ⟨c1, c2, h, REvts.keep h1 hk hB, RVars.keep h2 hk hB⟩

set_option maxHeartbeats 400000 in
theorem vars_any (u v : Value) (a b : List (List Byt)) (w : World) (B : Nat) (hB : B ≤ w.heap.size) (ha : RVars.rep w B [u] a) (hb : RVars.rep w B [v] b) :
    Calls Try.prog 71 #[u, v] w fun e w' => e = .returned (.bool (rvars a b)) ∧ Below w.heap.size w w' := by
  obtain ⟨A1, c1, h1, hm1, ga⟩ := Rp.slice1_open (RVars.later ha (Below.refl _ _) hB)
  obtain ⟨A2, c2, h2, hm2, gb⟩ := Rp.slice1_open (RVars.later hb (Below.refl _ _) hB)
  clear ha hb
  cases h1; cases h2
  by_cases hlen : a.length = b.length
  · have hl : ((a.length : Int) != (b.length : Int)) = false := by simp [hlen]
    replace ga := hide ga
    replace gb := hide gb
    replace hlen := hide hlen
    go_enter Try.func71, Try.ntmps71
    go_wp2
    go_loopw [14] (fun i wr => ∃ k : Nat, k ≤ a.length ∧ i = .int .i64 k ∧ Hid (∀ j, j < k → rbytes (a.getD j default) (b.getD j default) = true) ∧ Below w.heap.size w wr) (fun i _ => a.length - (intOf i).toNat)
    case atStart => exact ⟨0, Nat.zero_le _, rfl, hide (fun j hj => by omega), Below.refl _ _⟩
    case round =>
      obtain ⟨k, hk, rfl, hall, hbel⟩ := hrel
      by_cases hlt : k < a.length
      · have hlt2 : k < b.length := by have := hlen.out; omega
        obtain ⟨b1, o1, rfl, he1⟩ := ga.out (by omega)
        obtain ⟨b2, o2, rfl, he2⟩ := gb.out (by omega)
        obtain ⟨x, hx⟩ := get_ex hlt
        obtain ⟨y, hy⟩ := get_ex hlt2
        obtain ⟨d1, hr1, hd1⟩ := he1 k x hx.out
        obtain ⟨d2, hr2, hd2⟩ := he2 k y hy.out
        obtain ⟨A3, c3, h3, hm3, ga3⟩ := Rp.slice_open hr1
        obtain ⟨A4, c4, h4, hm4, gb4⟩ := Rp.slice_open hr2
        clear he1 he2 hr1 hr2
        cases h3; cases h4
        have hs := hbel.size
        have gb3 := hide gb4
        replace ga3 := hide ga3
        clear gb4
        by_cases hlen2 : x.length = y.length
        · have hl2 : ((x.length : Int) != (y.length : Int)) = false := by simp [hlen2]
          replace hlen2 := hide hlen2
          go_wp2
          go_quiet (fail)
          go_wp2
          go_loopw [33] (fun i wr1 => ∃ m : Nat, m ≤ x.length ∧ i = .int .i64 m ∧ Hid (∀ j, j < m → rbyte (x.getD j default) (y.getD j default) = true) ∧ Below w.heap.size w wr1) (fun i _ => x.length - (intOf i).toNat)
          case atStart => exact ⟨0, Nat.zero_le _, rfl, hide (fun j hj => by omega), hbel.trans (below_drewN (Below.refl _ _) _)⟩
          case round =>
            obtain ⟨m, hm, rfl, hall1, hbel1⟩ := hrel
            by_cases hlt3 : m < x.length
            · have hlt4 : m < y.length := by have := hlen2.out; omega
              obtain ⟨b3, o3, rfl, he3⟩ := ga3.out (by omega)
              obtain ⟨b4, o4, rfl, he4⟩ := gb3.out (by omega)
              obtain ⟨p, hp⟩ := get_ex hlt3
              obtain ⟨q, hq⟩ := get_ex hlt4
              obtain ⟨_, _, ⟨rfl, _⟩, hc3⟩ := he3 m p hp.out
              obtain ⟨_, _, ⟨rfl, _⟩, hc4⟩ := he4 m q hq.out
              obtain ⟨p0, p1, p2, p3, p4⟩ := hc3.five
              obtain ⟨q0, q1, q2, q3, q4⟩ := hc4.five
              clear he3 he4 hc3 hc4
              have hww := Nat.le_refl w.heap.size
              go_wp2
              go_region_held3 (fun w' => Below w.heap.size w w') (first | exact hbel1.drew | exact below_next (by assumption) hww (by assumption))
                (first | (go_at_call 19; refine (byte_any p q _).mono ?_; rintro e w1 ⟨rfl, hcall⟩))
              cases hpq : rbyte p q with
              | false =>
                replace hpq := hide hpq
                go_wp2
                go_ret
                exact ⟨ret_bool (rvars_at hlt hx.out hy.out (rbytes_at hlt3 hp.out hq.out hpq.out)).symm, by assumption⟩
              | true =>
                replace hpq := hide hpq
                go_wp2
                go_roundw
                case rel => exact ⟨m + 1, hlt3, by go_num, hide (upto_succ hall1.out (by rw [getD_of hp.out, getD_of hq.out]; exact hpq.out)), by assumption⟩
                case measure => simp [intOf]; omega
            · go_wp2
              go_roundw
              case rel => exact ⟨k + 1, hlt, by go_num, hide (upto_succ hall.out (by rw [getD_of hx.out, getD_of hy.out]; exact rbytes_all hlen2.out fun j hj => hall1.out j (by omega))), by assumption⟩
              case measure => simp [intOf]; omega
        · have hl2 : ((x.length : Int) != (y.length : Int)) = true := by simp; omega
          go_wp2
          go_quiet (fail)
          go_wp2
          go_ret
          exact ⟨ret_bool (rvars_at hlt hx.out hy.out (by simp [rbytes, hlen2])).symm, hbel.trans (below_drewN (Below.refl _ _) _)⟩
      · go_wp2
        go_ret
        exact ⟨ret_bool (rvars_all hlen.out fun j hj => hall.out j (by omega)).symm, hbel⟩
  · have hl : ((a.length : Int) != (b.length : Int)) = true := by simp; omega
    go_enter Try.func71, Try.ntmps71
    go_wp2
    go_ret
    exact ⟨ret_bool (by simp [rvars, hlen]), Below.refl _ _⟩
end Go.Proofs.Ytffklfalocamiaa
