/- The walk of latheref12.Refines. No condition. -/
import Derived.Test.YtffklfalocamiaaRefG
namespace Go.Proofs.Ytffklfalocamiaa
open Go.RowKit

set_option maxHeartbeats 800000 in
theorem rrefines_any (x y : Outc) (ca da cb db : Value) (w : World) (B : Nat) (hB : B ≤ w.heap.size) (ha : REvts.rep w B [ca] x.events) (ha' : RVars.rep w B [da] x.vars)
    (hb : REvts.rep w B [cb] y.events) (hb' : RVars.rep w B [db] y.vars) :
    Calls Try.prog 22 #[x.v ca da, y.v cb db] w fun e w' => e = .returned (.bool (rrefines x y)) ∧ Below w.heap.size w w' := by
  obtain ⟨A1, k1, h1, hm1, _⟩ := Rp.slice_open (REvts.later ha (Below.refl _ _) hB)
  obtain ⟨A2, k2, h2, hm2, _⟩ := Rp.slice_open (REvts.later hb (Below.refl _ _) hB)
  replace ha := REvts.later ha (Below.refl _ _) hB
  replace hb := REvts.later hb (Below.refl _ _) hB
  replace ha' := RVars.later ha' (Below.refl _ _) hB
  replace hb' := RVars.later hb' (Below.refl _ _) hB
  obtain ⟨A3, k3, h3, _, _⟩ := Rp.slice1_open ha'
  obtain ⟨A4, k4, h4, _, _⟩ := Rp.slice1_open hb'
  cases h1; cases h2; cases h3; cases h4
  replace ha := hide ha
  replace hb := hide hb
  replace ha' := hide ha'
  replace hb' := hide hb'
  cases h4 : (x.status == 4) with
  | true =>
    go_enter Try.func22, Try.ntmps22
    go_wp2
    go_ret
    exact ⟨ret_bool (by simp [rrefines, h4]), ((Below.refl _ _).alloc (by simp) _).alloc (by simp) _⟩
  | false =>
  have h4' : ¬ x.status = 4 := by simpa using h4
  go_enter Try.func22, Try.ntmps22
  go_wp2_with fail
  obtain ⟨W, hW, hwW, hWs, hx, hy⟩ := boxes2 w #[.int .i64 x.status, .int .i64 x.ret.kind, .int .u64 x.ret.bits, .int .i64 x.ret.block, .int .i64 x.ret.off, .slice A1 x.events.length k1, .slice A3 x.vars.length k3, .int .i64 x.steps]
    #[.int .i64 y.status, .int .i64 y.ret.kind, .int .u64 y.ret.bits, .int .i64 y.ret.block, .int .i64 y.ret.off, .slice A2 y.events.length k2, .slice A4 y.vars.length k4, .int .i64 y.steps] 30 30
  rw [hW]
  clear hW
  have hsz : w.heap.size ≤ W.heap.size := by omega
  replace hWs := hide hWs
  have x0 := hx 0 _ rfl
  have x1 := hx 1 _ rfl
  have x2 := hx 2 _ rfl
  have x3 := hx 3 _ rfl
  have x4 := hx 4 _ rfl
  have x5 := hx 5 _ rfl
  have x6 := hx 6 _ rfl
  have y0 := hy 0 _ rfl
  have y1 := hy 1 _ rfl
  have y2 := hy 2 _ rfl
  have y3 := hy 3 _ rfl
  have y4 := hy 4 _ rfl
  have y5 := hy 5 _ rfl
  have y6 := hy 6 _ rfl
  clear hx hy
  refine (together_any x y _ _ _ _ W w.heap.size hsz (REvts.later ha.out hwW (Nat.le_refl _)) (REvts.later hb.out hwW (Nat.le_refl _)) ⟨_, _, _, rfl⟩ ⟨_, _, _, rfl⟩).mono ?_
  rintro e w0 ⟨rfl, hbel⟩
  cases HE : reventsTo (min x.events.length y.events.length) x.events y.events with
  | false =>
    go_wp2
    go_ret
    exact ⟨ret_bool (by simp [rrefines, h4', HE]), hwW.trans (hbel.mono hsz)⟩
  | true =>
  replace HE := hide HE
  obtain ⟨c, hc⟩ : ∃ c : Bool, ((y.events.length : Int) != (x.events.length : Int)) = c := ⟨_, rfl⟩
  have hn : Hid (x.events.length = y.events.length ↔ c = false) := hide (by rw [← hc]; simp; omega)
  cases c
  all_goals
    go_wp2_with (first
      | (go_at_call 18; refine (rvalue_any x.ret y.ret _).mono ?_; rintro e w1 ⟨rfl, hcall⟩; have hb1 := below_next hbel (Nat.le_refl _) hcall)
      | (go_at_call 73; refine (bytes_any _ _ x.vars y.vars _ W.heap.size hb1.size (RVars.later ha'.out (hwW.trans (hb1.mono hsz)) hsz) (RVars.later hb'.out (hwW.trans (hb1.mono hsz)) hsz)).mono ?_; rintro e w2 ⟨rfl, hcall2⟩))
  all_goals go_ret
  all_goals
      refine ⟨ret_bool ?_, ?_⟩
      · have HE' := HE.out
        have hn' := hn.out
        clear hc hn x0 x1 x2 x3 x4 x5 x6 y0 y1 y2 y3 y4 y5 y6 HE ha hb ha' hb'
        rw [Bool.eq_iff_iff]
        first
          | (simp [rrefines, rearly, *]; done)
          | (have h5 : y.status = 5 := by (rename_i h1; simpa [*] using h1)
             simp [rrefines, rearly, *]; done)
      · first
          | exact hwW.trans (hbel.mono hsz)
          | exact hwW.trans (hb1.mono hsz)
          | exact hwW.trans (Below.mono (below_next hb1 (Nat.le_refl _) hcall2) hsz)
end Go.Proofs.Ytffklfalocamiaa
