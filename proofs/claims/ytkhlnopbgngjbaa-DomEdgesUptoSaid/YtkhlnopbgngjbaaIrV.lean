/- latheref02.Instrs. No condition. -/
import Derived.Test.YtkhlnopbgngjbaaIrU
namespace Go.Proofs.Ytkhlnopbgngjbaa
open Go.RowKit

theorem otake_next {a b : List Opd} {k : Nat} {x : Opd} (h : a.take k = b.take k) (ha : a[k]? = some x) (hb : b[k]? = some x) : a.take (k + 1) = b.take (k + 1) := by
  rw [take_snoc ha, take_snoc hb, h]

theorem opds_ne {a b : List Opd} {k : Nat} {x y : Opd} (h : x ≠ y) (ha : a[k]? = some x) (hb : b[k]? = some y) : a ≠ b := by
  rintro rfl
  rw [ha] at hb
  exact h (Option.some.inj hb)

theorem opds_full {a b : List Opd} {k : Nat} (hl : a.length = b.length) (hk : a.length ≤ k) (h : a.take k = b.take k) : a = b := by
  rwa [List.take_of_length_le hk, List.take_of_length_le (hl ▸ hk)] at h

theorem dec_no {p : Prop} [Decidable p] (h : ¬ p) : false = decide p := by simp [h]

theorem ins_same {a b : Ins} (h1 : a.op = b.op) (h2 : a.reg = b.reg) (h3 : a.ty = b.ty) (h4 : a.num = b.num) (h5 : a.flags = b.flags) (h6 : a.args = b.args) : (a.to == b.to) = decide (a = b) := by
  cases a; cases b
  simp only at h1 h2 h3 h4 h5 h6
  subst h1 h2 h3 h4 h5 h6
  rw [Bool.eq_iff_iff]
  simp

set_option maxHeartbeats 1600000 in
theorem instrs_any (a b : Ins) (ca da cb db : Value) (w : World) (B : Nat) (hB : B ≤ w.heap.size)
    (ha : RIns.rep w B [.int .i64 a.op, .int .i64 a.reg, .int .i64 a.ty, .int .i64 a.num, .int .i64 a.flags, ca, da] a)
    (hb : RIns.rep w B [.int .i64 b.op, .int .i64 b.reg, .int .i64 b.ty, .int .i64 b.num, .int .i64 b.flags, cb, db] b) :
    Calls Try.prog 59 #[a.v ca da, b.v cb db] w fun e w' => e = .returned (.bool (decide (a = b))) ∧ Below w.heap.size w w' := by
  obtain ⟨ha1, ha2⟩ := ins_open (RIns.later ha (Below.refl _ _) hB)
  obtain ⟨hb1, hb2⟩ := ins_open (RIns.later hb (Below.refl _ _) hB)
  obtain ⟨A1, k1, h1, hm1, ga⟩ := Rp.slice_open ha1
  obtain ⟨A2, k2, h2, hm2, gb⟩ := Rp.slice_open hb1
  obtain ⟨A3, k3, h3, hm3, -⟩ := Rp.slice1_open ha2
  obtain ⟨A4, k4, h4, hm4, -⟩ := Rp.slice1_open hb2
  cases h1; cases h2; cases h3; cases h4
  replace ga := hide ga
  replace gb := hide gb
  replace ha2 := hide ha2
  replace hb2 := hide hb2
  clear ha hb ha1 hb1
  obtain ⟨W, hW, hwW, hWs, hx, hy⟩ := boxes2 w #[.int .i64 a.op, .int .i64 a.reg, .int .i64 a.ty, .int .i64 a.num, .int .i64 a.flags, .slice A1 a.args.length k1, .slice A3 a.to.length k3]
    #[.int .i64 b.op, .int .i64 b.reg, .int .i64 b.ty, .int .i64 b.num, .int .i64 b.flags, .slice A2 b.args.length k2, .slice A4 b.to.length k4] 74 74
  have x0 := hx 0 _ rfl
  have x1 := hx 1 _ rfl
  have x2 := hx 2 _ rfl
  have x3 := hx 3 _ rfl
  have x4 := hx 4 _ rfl
  have x5 := hx 5 _ rfl
  have x6 := hx 6 _ rfl
  have y0 := hy 0 _ rfl
  have y1 := hy 1 _ rfl
  have y2 := hy 2 _ rfl
  have y3 := hy 3 _ rfl
  have y4 := hy 4 _ rfl
  have y5 := hy 5 _ rfl
  have y6 := hy 6 _ rfl
  clear hx hy
  have hws : w.heap.size ≤ W.heap.size := by omega
  have hww := Nat.le_refl W.heap.size
  replace hWs := hide hWs
  have hself := Below.refl W.heap.size W
  go_enter Try.func59, Try.ntmps59
  go_wp2
  any_goals
    go_ret
    rename_i hn
    exact ⟨ret_bool (dec_no fun h => by first | exact hn (by rw [h]) | (rw [h] at hn; simp at hn)), hwW⟩
  rename_i e0 e1 e2 e3 e4 e5 _ _
  clear hW
  have hl : Hid (a.args.length = b.args.length) := hide (by have e6 := bne_eq_false_iff_eq.mp e5; omega)
  replace e0 := hide e0
  replace e1 := hide e1
  replace e2 := hide e2
  replace e3 := hide e3
  replace e4 := hide e4
  clear e5
  go_loopw [5] (fun i wr => ∃ k : Nat, k ≤ a.args.length ∧ i = .int .i64 k ∧ Hid (a.args.take k = b.args.take k) ∧ Below W.heap.size W wr) (fun i _ => a.args.length - (intOf i).toNat)
  case atStart => exact ⟨0, Nat.zero_le _, rfl, hide rfl, hself⟩
  case round =>
    obtain ⟨k, hk, rfl, hall, hbel⟩ := hrel
    by_cases hlt : k < a.args.length
    · have hlt2 : k < b.args.length := by have := hl.out; omega
      obtain ⟨b1, o1, rfl, he1⟩ := ga.out (by omega)
      obtain ⟨b2, o2, rfl, he2⟩ := gb.out (by omega)
      obtain ⟨x, hx⟩ := get_ex hlt
      obtain ⟨y, hy⟩ := get_ex hlt2
      obtain ⟨_, _, ⟨rfl, _⟩, hc1⟩ := he1 k x hx.out
      obtain ⟨_, _, ⟨rfl, _⟩, hc2⟩ := he2 k y hy.out
      obtain ⟨p0, p1, p2⟩ := (hc1.later hwW hws).three
      obtain ⟨q0, q1, q2⟩ := (hc2.later hwW hws).three
      clear he1 he2 hc1 hc2
      cases f0 : (x.kind == y.kind) with
      | false =>
        go_wp2
        go_quiet (fail)
        go_wp2
        go_ret
        exact ⟨ret_bool (dec_no fun h => opds_ne (fun e => by rw [e] at f0; simp at f0) hx.out hy.out (congrArg Ins.args h)), hwW.trans ((hbel.trans (below_drewN (Below.refl _ _) _)).mono hws)⟩
      | true =>
      cases f1 : (x.num == y.num) with
      | false =>
        go_wp2
        go_quiet (fail)
        go_wp2
        go_ret
        exact ⟨ret_bool (dec_no fun h => opds_ne (fun e => by rw [e] at f1; simp at f1) hx.out hy.out (congrArg Ins.args h)), hwW.trans ((hbel.trans (below_drewN (Below.refl _ _) _)).mono hws)⟩
      | true =>
      cases f2 : (x.bits == y.bits) with
      | false =>
        go_wp2
        go_quiet (fail)
        go_wp2
        go_ret
        exact ⟨ret_bool (dec_no fun h => opds_ne (fun e => by rw [e] at f2; simp at f2) hx.out hy.out (congrArg Ins.args h)), hwW.trans ((hbel.trans (below_drewN (Below.refl _ _) _)).mono hws)⟩
      | true =>
        go_wp2
        go_quiet (fail)
        go_wp2
        go_roundw
        case rel =>
          have hxy : x = y := by
            cases x; cases y
            simp only [beq_iff_eq] at f0 f1 f2
            subst f0 f1 f2
            rfl
          exact ⟨k + 1, hlt, by go_num, hide (otake_next hall.out (hxy ▸ hx.out) hy.out), hbel.trans (below_drewN (Below.refl _ _) _)⟩
        case measure => simp [intOf]; omega
    · go_wp2_with (go_at_call 31; refine (rints_any _ _ a.to b.to _ W.heap.size hbel.size (RInts.later ha2.out (hwW.trans (hbel.mono hws)) hws) (RInts.later hb2.out (hwW.trans (hbel.mono hws)) hws)).mono ?_; rintro e w1 ⟨rfl, hcall⟩)
      go_ret
      exact ⟨ret_bool (ins_same e0.out e1.out e2.out e3.out e4.out (opds_full hl.out (by omega) hall.out)), below_next (hwW.trans (hbel.mono hws)) (Nat.le_refl _) hcall⟩

end Go.Proofs.Ytkhlnopbgngjbaa
