/- slices.Equal of ints and of operands. No condition. -/
import Derived.Test.YtaljdbmmjgmbbaaIrW
namespace Go.Proofs.Ytaljdbmmjgmbbaa
open Go.RowKit
set_option linter.unusedSimpArgs false
set_option linter.unusedVariables false
def EqPost (r : Bool) (w : World) (e : Ending) (w' : World) : Prop := e = .returned (.bool r) ∧ Below w.heap.size w w'
set_option maxRecDepth 100000 in
set_option maxHeartbeats 3200000 in
theorem eq_ints (u v : Value) (a b : List Int) (w : World) (B : Nat) (hB : B ≤ w.heap.size) (ha : RInts.rep w B [u] a) (hb : RInts.rep w B [v] b) :
    Calls Try.prog 65 #[u, v] w (EqPost (decide (a = b)) w) := by
  obtain ⟨A1, c1, h1, hm1, ga⟩ := Rp.slice1_open (RInts.later ha (Below.refl _ _) hB)
  obtain ⟨A2, c2, h2, hm2, gb⟩ := Rp.slice1_open (RInts.later hb (Below.refl _ _) hB)
  clear ha hb
  cases h1; cases h2
  replace ga := hide ga
  replace gb := hide gb
  have hww := Nat.le_refl w.heap.size
  have hself := Below.refl w.heap.size w
  by_cases hl : a.length = b.length
  case neg =>
    go_enter Try.func65, Try.ntmps65
    have hne : ((a.length : Int) != (b.length : Int)) = true := by rw [bne_iff_ne]; omega
    go_wp2
    go_ret
    exact ⟨ret_bool (dec_no fun h => hl (by rw [h])), hself⟩
  have heq : ((a.length : Int) != (b.length : Int)) = false := by rw [bne_eq_false_iff_eq]; omega
  go_enter Try.func65, Try.ntmps65
  go_wp2
  clear heq
  replace hl := hide hl
  go_loopw [13] (fun i wr => ∃ k : Nat, k ≤ a.length ∧ i = .int .i64 k ∧ Hid (a.take k = b.take k) ∧ Below w.heap.size w wr) (fun i _ => a.length - (intOf i).toNat)
  case atStart => exact ⟨0, Nat.zero_le _, rfl, hide rfl, hself⟩
  case round =>
    obtain ⟨k, hk, rfl, hall, hbel⟩ := hrel
    by_cases hlt : k < a.length
    · have hlt2 : k < b.length := by have := hl.out; omega
      obtain ⟨b1, o1, rfl, he1⟩ := ga.out (by omega)
      obtain ⟨b2, o2, rfl, he2⟩ := gb.out (by omega)
      obtain ⟨x, hx⟩ := get_ex hlt
      obtain ⟨y, hy⟩ := get_ex hlt2
      obtain ⟨_, ⟨hr1, _⟩, p0⟩ := he1 k x hx.out
      obtain ⟨_, ⟨hr2, _⟩, q0⟩ := he2 k y hy.out
      cases hr1; cases hr2
      clear he1 he2
      cases hxy : (x != y) with
      | true =>
        go_wp2
        go_quiet (fail)
        go_wp2
        go_ret
        exact ⟨ret_bool (dec_no fun h => lget_ne (by simpa using hxy) hx.out hy.out h), hbel.trans (below_drewN (Below.refl _ _) _)⟩
      | false =>
        go_wp2
        go_quiet (fail)
        go_wp2
        go_roundw
        case rel =>
          have hxy : x = y := by simpa using hxy
          exact ⟨k + 1, hlt, by go_num, hide (ltake_next hall.out (hxy ▸ hx.out) hy.out), hbel.trans (below_drewN (Below.refl _ _) _)⟩
        case measure => simp [intOf]; omega
    · have hab : a = b := ltake_full hl.out (by omega) hall.out
      replace hab := hide hab
      have hlt3 : ¬ k < b.length := by have := hl.out; omega
      go_wp2
      go_ret
      exact ⟨ret_bool (decide_eq_true hab.out).symm, hbel⟩
set_option maxRecDepth 100000 in
set_option maxHeartbeats 3200000 in
theorem eq_vals (u v : Value) (a b : List Opd) (w : World) (B : Nat) (hB : B ≤ w.heap.size) (ha : ROpds.rep w B [u] a) (hb : ROpds.rep w B [v] b) :
    Calls Try.prog 113 #[u, v] w (EqPost (decide (a = b)) w) := by
  obtain ⟨A1, c1, h1, hm1, ga⟩ := Rp.slice_open (ROpds.later ha (Below.refl _ _) hB)
  obtain ⟨A2, c2, h2, hm2, gb⟩ := Rp.slice_open (ROpds.later hb (Below.refl _ _) hB)
  clear ha hb
  cases h1; cases h2
  replace ga := hide ga
  replace gb := hide gb
  have hww := Nat.le_refl w.heap.size
  have hself := Below.refl w.heap.size w
  by_cases hl : a.length = b.length
  case neg =>
    go_enter Try.func113, Try.ntmps113
    have hne : ((a.length : Int) != (b.length : Int)) = true := by rw [bne_iff_ne]; omega
    go_wp2
    go_ret
    exact ⟨ret_bool (dec_no fun h => hl (by rw [h])), hself⟩
  have heq : ((a.length : Int) != (b.length : Int)) = false := by rw [bne_eq_false_iff_eq]; omega
  go_enter Try.func113, Try.ntmps113
  go_wp2
  clear heq
  replace hl := hide hl
  go_loopw [13] (fun i wr => ∃ k : Nat, k ≤ a.length ∧ i = .int .i64 k ∧ Hid (a.take k = b.take k) ∧ Below w.heap.size w wr) (fun i _ => a.length - (intOf i).toNat)
  case atStart => exact ⟨0, Nat.zero_le _, rfl, hide rfl, hself⟩
  case round =>
    obtain ⟨k, hk, rfl, hall, hbel⟩ := hrel
    by_cases hlt : k < a.length
    · have hlt2 : k < b.length := by have := hl.out; omega
      obtain ⟨b1, o1, rfl, he1⟩ := ga.out (by omega)
      obtain ⟨b2, o2, rfl, he2⟩ := gb.out (by omega)
      obtain ⟨x, hx⟩ := get_ex hlt
      obtain ⟨y, hy⟩ := get_ex hlt2
      obtain ⟨_, _, ⟨rfl, _⟩, hc1⟩ := he1 k x hx.out
      obtain ⟨_, _, ⟨rfl, _⟩, hc2⟩ := he2 k y hy.out
      obtain ⟨p0, p1, p2⟩ := hc1.three
      obtain ⟨q0, q1, q2⟩ := hc2.three
      clear he1 he2 hc1 hc2
      cases f0 : (x.kind == y.kind) with
      | false =>
        go_wp2
        go_quiet (fail)
        go_wp2
        go_ret
        exact ⟨ret_bool (dec_no fun h => lget_ne (fun e => by rw [e] at f0; simp at f0) hx.out hy.out h), hbel.trans (below_drewN (Below.refl _ _) _)⟩
      | true =>
      cases f1 : (x.num == y.num) with
      | false =>
        go_wp2
        go_quiet (fail)
        go_wp2
        go_ret
        exact ⟨ret_bool (dec_no fun h => lget_ne (fun e => by rw [e] at f1; simp at f1) hx.out hy.out h), hbel.trans (below_drewN (Below.refl _ _) _)⟩
      | true =>
      cases f2 : (x.bits == y.bits) with
      | false =>
        go_wp2
        go_quiet (fail)
        go_wp2
        go_ret
        exact ⟨ret_bool (dec_no fun h => lget_ne (fun e => by rw [e] at f2; simp at f2) hx.out hy.out h), hbel.trans (below_drewN (Below.refl _ _) _)⟩
      | true =>
        go_wp2
        go_quiet (fail)
        go_wp2
        go_roundw
        case rel =>
          have hxy : x = y := by
            cases x; cases y
            simp only [beq_iff_eq] at f0 f1 f2
            subst f0 f1 f2
            rfl
          exact ⟨k + 1, hlt, by go_num, hide (ltake_next hall.out (hxy ▸ hx.out) hy.out), hbel.trans (below_drewN (Below.refl _ _) _)⟩
        case measure => simp [intOf]; omega
    · have hab : a = b := ltake_full hl.out (by omega) hall.out
      replace hab := hide hab
      have hlt3 : ¬ k < b.length := by have := hl.out; omega
      go_wp2
      go_ret
      exact ⟨ret_bool (decide_eq_true hab.out).symm, hbel⟩
end Go.Proofs.Ytaljdbmmjgmbbaa
