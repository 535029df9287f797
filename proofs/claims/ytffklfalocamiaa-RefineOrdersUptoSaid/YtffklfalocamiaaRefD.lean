/- Walks of lathelaw12.much and refine.Refines. No condition. -/
import Derived.Test.YtffklfalocamiaaRefC
namespace Go.Proofs.Ytffklfalocamiaa
open Go.RowKit

theorem revents_at {x y : List Evt} {m k : Nat} {p q : Evt} (hm : m < k) (hp : x[m]? = some p) (hq : y[m]? = some q) (h : revent p q = false) : reventsTo k x y = false :=
  allLt_false hm (by simpa [List.getD, hp, hq] using h)

/-- it answers some bool, and makes memory alone -/
def SomeBool (w : World) (e : Ending) (w' : World) : Prop := ∃ b : Bool, e = .returned (.bool b) ∧ Below w.heap.size w w'
abbrev Outc.v (x : Outc) (c d : Value) : Value := .agg #[.int .i64 x.status, .int .i64 x.ret.kind, .int .u64 x.ret.bits, .int .i64 x.ret.block, .int .i64 x.ret.off, c, d, .int .i64 x.steps]

set_option maxHeartbeats 400000 in
theorem much_any (x : Outc) (ca da : Value) (w : World) (B : Nat) (hB : B ≤ w.heap.size) (ha : REvts.rep w B [ca] x.events) (hb : RVars.rep w B [da] x.vars) :
    Calls Try.prog 16 #[x.v ca da] w (SomeBool w) := by
  obtain ⟨A1, k1, h1, hm1, ga⟩ := Rp.slice_open (REvts.later ha (Below.refl _ _) hB)
  obtain ⟨A2, k2, h2, hm2, gb⟩ := Rp.slice1_open (RVars.later hb (Below.refl _ _) hB)
  cases h1; cases h2
  replace ga := hide ga
  replace gb := hide gb
  clear ha hb
  go_enter Try.func16, Try.ntmps16
  go_wp2
  obtain ⟨W, hW, hwW, hWs, hx⟩ := boxes1 w #[.int .i64 x.status, .int .i64 x.ret.kind, .int .u64 x.ret.bits, .int .i64 x.ret.block, .int .i64 x.ret.off, .slice A1 x.events.length k1, .slice A2 x.vars.length k2, .int .i64 x.steps] 30
  rw [hW]
  clear hW
  have hx6 := hx 6 _ rfl
  have hx5 := hx 5 _ rfl
  clear hx
  have hsz : w.heap.size ≤ W.heap.size := by omega
  replace hWs := hide hWs
  go_loopw [3, 13] (fun n i wr => ∃ (k : Nat) (m : Int), k ≤ x.events.length ∧ i = .int .i64 k ∧ n = .int .i64 m ∧ Below W.heap.size W wr) (fun _ i _ => x.events.length - (intOf i).toNat)
  case atStart => exact ⟨0, 0, Nat.zero_le _, rfl, rfl, Below.refl _ _⟩
  case round =>
    obtain ⟨k, m, hk, rfl, rfl, hbel⟩ := hrel
    by_cases hlt : k < x.events.length
    · obtain ⟨b1, o1, rfl, he1⟩ := ga.out (by omega)
      obtain ⟨ev, hev⟩ := get_ex hlt
      obtain ⟨_, _, ⟨c1, c2, rfl, hr1, hr2⟩, hc3⟩ := he1 k ev hev.out
      obtain ⟨p0, p1, p2⟩ := (hc3.later hwW hsz).three
      obtain ⟨A3, k3, h3, hm3, ga3⟩ := Rp.slice_open hr1
      obtain ⟨A4, k4, h4, hm4, gb4⟩ := Rp.slice1_open hr2
      cases h3; cases h4
      replace gb4 := hide gb4
      clear he1 hc3 ga3 hr1 hr2
      go_wp2
      have hbel2 : Below W.heap.size W (wr.alloc (.cells #[.int .i64 ev.ext, .slice A3 ev.args.length k3, .slice A4 ev.vars.length k4] 97)) := hbel.alloc hbel.size _
      go_loop [3, 26] (fun n i => ∃ (r : Nat) (m : Int), r ≤ ev.vars.length ∧ i = .int .i64 r ∧ n = .int .i64 m) (fun _ i => ev.vars.length - (intOf i).toNat)
      case atStart => exact ⟨0, _, Nat.zero_le _, rfl, rfl⟩
      case round =>
        obtain ⟨r, m2, hr, rfl, rfl⟩ := hrel
        by_cases hlt2 : r < ev.vars.length
        · obtain ⟨b2, o2, rfl, he2⟩ := gb4.out (by omega)
          obtain ⟨row, hrow⟩ := get_ex hlt2
          obtain ⟨_, hr4, hc4⟩ := he2 r row hrow.out
          obtain ⟨A5, k5, h5, _, _⟩ := hr4
          cases h5
          have hc5 := hc4 _ ((hwW.trans (hbel2.mono hsz)))
          clear hc4 he2
          go_wp2
          go_round
          case rel => exact ⟨r + 1, _, hlt2, by go_num, rfl⟩
          case measure => simp [intOf]; omega
        · go_wp2
          go_roundw
          case rel => exact ⟨k + 1, m2, hlt, by go_num, rfl, hbel2⟩
          case measure => simp [intOf]; omega
    · go_wp2
      go_loop [3, 40] (fun n i => ∃ (r : Nat) (m : Int), r ≤ x.vars.length ∧ i = .int .i64 r ∧ n = .int .i64 m) (fun _ i => x.vars.length - (intOf i).toNat)
      case atStart => exact ⟨0, _, Nat.zero_le _, rfl, rfl⟩
      case round =>
        obtain ⟨r, m2, hr, rfl, rfl⟩ := hrel
        by_cases hlt2 : r < x.vars.length
        · obtain ⟨b2, o2, rfl, he2⟩ := gb.out (by omega)
          obtain ⟨row, hrow⟩ := get_ex hlt2
          obtain ⟨_, hr4, hc4⟩ := he2 r row hrow.out
          obtain ⟨A5, k5, h5, _, _⟩ := hr4
          cases h5
          have hc5 := hc4 _ ((hwW.trans (hbel.mono hsz)))
          clear hc4 he2
          go_wp2
          go_round
          case rel => exact ⟨r + 1, _, hlt2, by go_num, rfl⟩
          case measure => simp [intOf]; omega
        · go_wp2
          go_ret
          exact ⟨_, rfl, hwW.trans (hbel.mono hsz)⟩
end Go.Proofs.Ytffklfalocamiaa
