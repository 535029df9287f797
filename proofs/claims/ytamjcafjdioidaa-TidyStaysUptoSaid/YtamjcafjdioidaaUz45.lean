/- Texts of the chain, without what is not wanted: TdZ, EqA, EqB. No condition but sizes. -/
import Derived.WalkKit
import Derived.Deep.Slices
import Derived.Deep.Draws
import Derived.ChangeSame
import Derived.ChangeOld
import Derived.OwnWalk
import Derived.Laws.OwnMore
import Derived.Deep.AppendLies
import Derived.Test.YtamjcafjdioidaaRows
import Derived.ProofKit
import Derived.OpenShut
import Derived.JoinedCond
import Derived.WalkSpells
import Derived.WalkLawsBesides
import Derived.Deep.RegionHeld3
import Derived.Deep.LoopGhost
import Derived.Deep.QuietTactic
import Derived.BigQuiet
import Derived.Deep.DeepCutAuto
import Derived.Deep.CutBlock
import Derived.StillTailTactics
import Derived.Deep.RegionLaw
import Derived.Lib.SliceRun
import Derived.Laws.IdiomCopy
import Derived.Deep.MidRow
import Derived.Lib.Overlaps
import Derived.RegionTactic
import Derived.Deep.RegionLawGrows
import Derived.Laws.Externs
import Derived.Laws.Bits64b
import Derived.Lib.Mul64
import Derived.Test.YtamjcafjdioidaaUz01
import Derived.Test.YtamjcafjdioidaaUz02
import Derived.Test.YtamjcafjdioidaaUz03
import Derived.Test.YtamjcafjdioidaaUz04
import Derived.Test.YtamjcafjdioidaaUz05
import Derived.Test.YtamjcafjdioidaaUz06
import Derived.Test.YtamjcafjdioidaaUz07
import Derived.Test.YtamjcafjdioidaaUz08
import Derived.Test.YtamjcafjdioidaaUz09
import Derived.Test.YtamjcafjdioidaaUz10
import Derived.Test.YtamjcafjdioidaaUz11
import Derived.Test.YtamjcafjdioidaaUz12
import Derived.Test.YtamjcafjdioidaaUz13
import Derived.Test.YtamjcafjdioidaaUz14
import Derived.Test.YtamjcafjdioidaaUz15
import Derived.Test.YtamjcafjdioidaaUz16
import Derived.Test.YtamjcafjdioidaaUz17
import Derived.Test.YtamjcafjdioidaaUz18
import Derived.Test.YtamjcafjdioidaaUz19
import Derived.Test.YtamjcafjdioidaaUz20
import Derived.Test.YtamjcafjdioidaaUz21
import Derived.Test.YtamjcafjdioidaaUz22
import Derived.Test.YtamjcafjdioidaaUz23
import Derived.Test.YtamjcafjdioidaaUz24
import Derived.Test.YtamjcafjdioidaaUz25
import Derived.Test.YtamjcafjdioidaaUz26
import Derived.Test.YtamjcafjdioidaaUz27
import Derived.Test.YtamjcafjdioidaaUz28
import Derived.Test.YtamjcafjdioidaaUz29
import Derived.Test.YtamjcafjdioidaaUz30
import Derived.Test.YtamjcafjdioidaaUz31
import Derived.Test.YtamjcafjdioidaaUz32
import Derived.Test.YtamjcafjdioidaaUz33
import Derived.Test.YtamjcafjdioidaaUz34
import Derived.Test.YtamjcafjdioidaaUz35
import Derived.Test.YtamjcafjdioidaaUz36
import Derived.Test.YtamjcafjdioidaaUz37
import Derived.Test.YtamjcafjdioidaaUz38
import Derived.Test.YtamjcafjdioidaaUz39
import Derived.Test.YtamjcafjdioidaaUz40
import Derived.Test.YtamjcafjdioidaaUz41
import Derived.Test.YtamjcafjdioidaaUz42
import Derived.Test.YtamjcafjdioidaaUz43
import Derived.Test.YtamjcafjdioidaaUz44
namespace Go.Proofs.Ytamjcafjdioidaa
open Go.RowKit
set_option linter.unusedSimpArgs false
set_option linter.unusedVariables false
theorem right_fun17 {m : Mod} {f : Fun} (h : rightB m = true) (hf : f ∈ m.funcs) : FunRight m f := by
 obtain ⟨i, hi⟩ := List.mem_iff_getElem?.1 hf
 exact (dec8_iff.1 h).2 i f hi
def AllP (R : Fun) (w : World) (e : Ending) (w' : World) : Prop := ∃ c d, e = .returned (.agg #[.string R.name, c, .int .i64 R.ret, d]) ∧ RFun.rep w' w'.heap.size [.string R.name, c, .int .i64 R.ret, d] R ∧ Below w.heap.size w w'
theorem AllPost.p {f : Fun} {w w' : World} {e : Ending} (h : AllPost f w e w') : AllP (setBlocks f (allS f.blocks)) w e w' := by
 obtain ⟨T, N, c, d, h1, h2, -, -, -, h3⟩ := h
 exact ⟨c, d, h1, h2.rep, h3⟩
end Go.Proofs.Ytamjcafjdioidaa

namespace Go.Proofs.Ytamjcafjdioidaa
open Go.RowKit
set_option linter.unusedSimpArgs false
set_option linter.unusedVariables false
def EqPost (r : Bool) (w : World) (e : Ending) (w' : World) : Prop := e = .returned (.bool r) ∧ Below w.heap.size w w'
set_option maxRecDepth 100000 in
set_option maxHeartbeats 3200000 in
theorem eq_ints (u v : Value) (a b : List Int) (w : World) (B : Nat) (hB : B ≤ w.heap.size) (ha : RInts.rep w B [u] a) (hb : RInts.rep w B [v] b) :
  Calls Try.prog 40 #[u, v] w (EqPost (decide (a = b)) w) := by
 obtain ⟨A1, c1, h1, hm1, ga⟩ := Rp.slice1_open (RInts.later ha (Below.refl _ _) hB)
 obtain ⟨A2, c2, h2, hm2, gb⟩ := Rp.slice1_open (RInts.later hb (Below.refl _ _) hB)
 clear ha hb
 cases h1; cases h2
 replace ga := hide ga
 replace gb := hide gb
 have hww := Nat.le_refl w.heap.size
 have hself := Below.refl w.heap.size w
 by_cases hl : a.length = b.length
 case neg =>
  go_enter Try.func40, Try.ntmps40
  have hne : ((a.length : Int) != (b.length : Int)) = true := by rw [bne_iff_ne]; omega
  go_wp2
  go_ret
  exact ⟨ret_bool (dec_no fun h => hl (by rw [h])), hself⟩
 have heq : ((a.length : Int) != (b.length : Int)) = false := by rw [bne_eq_false_iff_eq]; omega
 go_enter Try.func40, Try.ntmps40
 go_wp2
 clear heq
 replace hl := hide hl
 go_loopw [13] (fun i wr => ∃ k : Nat, k ≤ a.length ∧ i = .int .i64 k ∧ Hid (a.take k = b.take k) ∧ Below w.heap.size w wr) (fun i _ => a.length - (intOf i).toNat)
 case atStart => exact ⟨0, Nat.zero_le _, rfl, hide rfl, hself⟩
 case round =>
  obtain ⟨k, hk, rfl, hall, hbel⟩ := hrel
  by_cases hlt : k < a.length
  ·have hlt2 : k < b.length := by have := hl.out; omega
   obtain ⟨b1, o1, rfl, he1⟩ := ga.out (by omega)
   obtain ⟨b2, o2, rfl, he2⟩ := gb.out (by omega)
   obtain ⟨x, hx⟩ := get_ex hlt
   obtain ⟨y, hy⟩ := get_ex hlt2
   obtain ⟨_, ⟨hr1, _⟩, p0⟩ := he1 k x hx.out
   obtain ⟨_, ⟨hr2, _⟩, q0⟩ := he2 k y hy.out
   cases hr1; cases hr2
   clear he1 he2
   cases hxy : (x != y) with
   | true =>
    go_wp2
    go_quiet (fail)
    go_wp2
    go_ret
    exact ⟨ret_bool (dec_no fun h => lget_ne (by simpa using hxy) hx.out hy.out h), hbel.trans (below_drewN (Below.refl _ _) _)⟩
   | false =>
    go_wp2
    go_quiet (fail)
    go_wp2
    go_roundw
    case rel =>
     have hxy : x = y := by simpa using hxy
     exact ⟨k + 1, hlt, by go_num, hide (ltake_next hall.out (hxy ▸ hx.out) hy.out), hbel.trans (below_drewN (Below.refl _ _) _)⟩
    case measure => simp [intOf]; omega
  ·have hab : a = b := ltake_full hl.out (by omega) hall.out
   replace hab := hide hab
   have hlt3 : ¬ k < b.length := by have := hl.out; omega
   go_wp2
   go_ret
   exact ⟨ret_bool (decide_eq_true hab.out).symm, hbel⟩
set_option maxRecDepth 100000 in
set_option maxHeartbeats 3200000 in
theorem eq_vals (u v : Value) (a b : List Opd) (w : World) (B : Nat) (hB : B ≤ w.heap.size) (ha : ROpds.rep w B [u] a) (hb : ROpds.rep w B [v] b) :
  Calls Try.prog 90 #[u, v] w (EqPost (decide (a = b)) w) := by
 obtain ⟨A1, c1, h1, hm1, ga⟩ := Rp.slice_open (ROpds.later ha (Below.refl _ _) hB)
 obtain ⟨A2, c2, h2, hm2, gb⟩ := Rp.slice_open (ROpds.later hb (Below.refl _ _) hB)
 clear ha hb
 cases h1; cases h2
 replace ga := hide ga
 replace gb := hide gb
 have hww := Nat.le_refl w.heap.size
 have hself := Below.refl w.heap.size w
 by_cases hl : a.length = b.length
 case neg =>
  go_enter Try.func90, Try.ntmps90
  have hne : ((a.length : Int) != (b.length : Int)) = true := by rw [bne_iff_ne]; omega
  go_wp2
  go_ret
  exact ⟨ret_bool (dec_no fun h => hl (by rw [h])), hself⟩
 have heq : ((a.length : Int) != (b.length : Int)) = false := by rw [bne_eq_false_iff_eq]; omega
 go_enter Try.func90, Try.ntmps90
 go_wp2
 clear heq
 replace hl := hide hl
 go_loopw [13] (fun i wr => ∃ k : Nat, k ≤ a.length ∧ i = .int .i64 k ∧ Hid (a.take k = b.take k) ∧ Below w.heap.size w wr) (fun i _ => a.length - (intOf i).toNat)
 case atStart => exact ⟨0, Nat.zero_le _, rfl, hide rfl, hself⟩
 case round =>
  obtain ⟨k, hk, rfl, hall, hbel⟩ := hrel
  by_cases hlt : k < a.length
  ·have hlt2 : k < b.length := by have := hl.out; omega
   obtain ⟨b1, o1, rfl, he1⟩ := ga.out (by omega)
   obtain ⟨b2, o2, rfl, he2⟩ := gb.out (by omega)
   obtain ⟨x, hx⟩ := get_ex hlt
   obtain ⟨y, hy⟩ := get_ex hlt2
   obtain ⟨_, _, ⟨rfl, _⟩, hc1⟩ := he1 k x hx.out
   obtain ⟨_, _, ⟨rfl, _⟩, hc2⟩ := he2 k y hy.out
   obtain ⟨p0, p1, p2⟩ := hc1.three
   obtain ⟨q0, q1, q2⟩ := hc2.three
   clear he1 he2 hc1 hc2
   cases f0 : (x.kind == y.kind) with
   | false =>
    go_wp2
    go_quiet (fail)
    go_wp2
    go_ret
    exact ⟨ret_bool (dec_no fun h => lget_ne (fun e => by rw [e] at f0; simp at f0) hx.out hy.out h), hbel.trans (below_drewN (Below.refl _ _) _)⟩
   | true =>
   cases f1 : (x.num == y.num) with
   | false =>
    go_wp2
    go_quiet (fail)
    go_wp2
    go_ret
    exact ⟨ret_bool (dec_no fun h => lget_ne (fun e => by rw [e] at f1; simp at f1) hx.out hy.out h), hbel.trans (below_drewN (Below.refl _ _) _)⟩
   | true =>
   cases f2 : (x.bits == y.bits) with
   | false =>
    go_wp2
    go_quiet (fail)
    go_wp2
    go_ret
    exact ⟨ret_bool (dec_no fun h => lget_ne (fun e => by rw [e] at f2; simp at f2) hx.out hy.out h), hbel.trans (below_drewN (Below.refl _ _) _)⟩
   | true =>
    go_wp2
    go_quiet (fail)
    go_wp2
    go_roundw
    case rel =>
     have hxy : x = y := by
      cases x; cases y
      simp only [beq_iff_eq] at f0 f1 f2
      subst f0 f1 f2
      rfl
     exact ⟨k + 1, hlt, by go_num, hide (ltake_next hall.out (hxy ▸ hx.out) hy.out), hbel.trans (below_drewN (Below.refl _ _) _)⟩
    case measure => simp [intOf]; omega
  ·have hab : a = b := ltake_full hl.out (by omega) hall.out
   replace hab := hide hab
   have hlt3 : ¬ k < b.length := by have := hl.out; omega
   go_wp2
   go_ret
   exact ⟨ret_bool (decide_eq_true hab.out).symm, hbel⟩
end Go.Proofs.Ytamjcafjdioidaa

namespace Go.Proofs.Ytamjcafjdioidaa
open Go.RowKit
set_option linter.unusedSimpArgs false
set_option linter.unusedVariables false
set_option maxRecDepth 100000 in
set_option maxHeartbeats 6400000 in
theorem same_instr (a b : Ins) (ca da cb db : Value) (w : World) (B : Nat) (hB : B ≤ w.heap.size)
  (ha : RIns.rep w B [.int .i64 a.op, .int .i64 a.reg, .int .i64 a.ty, .int .i64 a.num, .int .i64 a.flags, ca, da] a)
  (hb : RIns.rep w B [.int .i64 b.op, .int .i64 b.reg, .int .i64 b.ty, .int .i64 b.num, .int .i64 b.flags, cb, db] b) :
  Calls Try.prog 63 #[a.v ca da, b.v cb db] w (EqPost (decide (a = b)) w) := by
 obtain ⟨ha1, ha2⟩ := ins_open (RIns.later ha (Below.refl _ _) hB)
 obtain ⟨hb1, hb2⟩ := ins_open (RIns.later hb (Below.refl _ _) hB)
 clear ha hb
 obtain ⟨W, hW, hwW, hWs, hx, hy⟩ := boxes2 w #[.int .i64 a.op, .int .i64 a.reg, .int .i64 a.ty, .int .i64 a.num, .int .i64 a.flags, ca, da]
  #[.int .i64 b.op, .int .i64 b.reg, .int .i64 b.ty, .int .i64 b.num, .int .i64 b.flags, cb, db] 39 39
 have x0 := hx 0 _ rfl
 have y0 := hy 0 _ rfl
 have x1 := hx 1 _ rfl
 have y1 := hy 1 _ rfl
 have x2 := hx 2 _ rfl
 have y2 := hy 2 _ rfl
 have x3 := hx 3 _ rfl
 have y3 := hy 3 _ rfl
 have x4 := hx 4 _ rfl
 have y4 := hy 4 _ rfl
 have x5 := hx 5 _ rfl
 have y5 := hy 5 _ rfl
 have x6 := hx 6 _ rfl
 have y6 := hy 6 _ rfl
 clear hx hy
 have hws : w.heap.size ≤ W.heap.size := by omega
 replace hWs := hide hWs
 have cA : Hid (∀ W', Below W.heap.size W W' → Calls Try.prog 90 #[ca, cb] W' (EqPost (decide (a.args = b.args)) W')) := hide (fun W' h => eq_vals _ _ _ _ _ _ (Nat.le_refl _) (ROpds.later ha1 (hwW.trans (h.mono hws)) (hwW.trans (h.mono hws)).size) (ROpds.later hb1 (hwW.trans (h.mono hws)) (hwW.trans (h.mono hws)).size))
 have cT : Hid (∀ W', Below W.heap.size W W' → Calls Try.prog 40 #[da, db] W' (EqPost (decide (a.to = b.to)) W')) := hide (fun W' h => eq_ints _ _ _ _ _ _ (Nat.le_refl _) (RInts.later ha2 (hwW.trans (h.mono hws)) (hwW.trans (h.mono hws)).size) (RInts.later hb2 (hwW.trans (h.mono hws)) (hwW.trans (h.mono hws)).size))
 have hself := Below.refl W.heap.size W
 have hwWh := hide hwW
 replace hW := hide hW
 clear ha1 ha2 hb1 hb2 hwW
 go_enter Try.func63, Try.ntmps63
 go_upto_region 1 with (fail)
 rw [hW.out]
 clear hW
 by_cases p0 : a.op = b.op
 case neg =>
  have e0 : (a.op == b.op) = false := by rw [beq_eq_false_iff_ne]; exact p0
  replace p0 := hide p0
  go_wp2_with (fail)
  go_ret
  exact ⟨ret_bool (dec_no fun h => p0.out (by rw [h])), hwWh.out⟩
 have e0 : (a.op == b.op) = true := by rw [beq_iff_eq]; exact p0
 replace p0 := hide p0
 by_cases p1 : a.reg = b.reg
 case neg =>
  have e1 : (a.reg == b.reg) = false := by rw [beq_eq_false_iff_ne]; exact p1
  replace p1 := hide p1
  go_wp2_with (fail)
  go_ret
  exact ⟨ret_bool (dec_no fun h => p1.out (by rw [h])), hwWh.out⟩
 have e1 : (a.reg == b.reg) = true := by rw [beq_iff_eq]; exact p1
 replace p1 := hide p1
 by_cases p2 : a.ty = b.ty
 case neg =>
  have e2 : (a.ty == b.ty) = false := by rw [beq_eq_false_iff_ne]; exact p2
  replace p2 := hide p2
  go_wp2_with (fail)
  go_ret
  exact ⟨ret_bool (dec_no fun h => p2.out (by rw [h])), hwWh.out⟩
 have e2 : (a.ty == b.ty) = true := by rw [beq_iff_eq]; exact p2
 replace p2 := hide p2
 by_cases p3 : a.num = b.num
 case neg =>
  have e3 : (a.num == b.num) = false := by rw [beq_eq_false_iff_ne]; exact p3
  replace p3 := hide p3
  go_wp2_with (fail)
  go_ret
  exact ⟨ret_bool (dec_no fun h => p3.out (by rw [h])), hwWh.out⟩
 have e3 : (a.num == b.num) = true := by rw [beq_iff_eq]; exact p3
 replace p3 := hide p3
 by_cases p4 : a.flags = b.flags
 case neg =>
  have e4 : (a.flags == b.flags) = false := by rw [beq_eq_false_iff_ne]; exact p4
  replace p4 := hide p4
  go_wp2_with (fail)
  go_ret
  exact ⟨ret_bool (dec_no fun h => p4.out (by rw [h])), hwWh.out⟩
 have e4 : (a.flags == b.flags) = true := by rw [beq_iff_eq]; exact p4
 replace p4 := hide p4
 go_wp2_with (fail)
 refine (cA.out W hself).mono ?_
 rintro e w1 ⟨rfl, hb1⟩
 have hb1' : Below W.heap.size W w1 := hb1
 clear hb1 hself
 by_cases p5 : a.args = b.args
 case neg =>
  rw [decide_eq_false p5]
  replace p5 := hide p5
  go_wp2_with (fail)
  go_ret
  exact ⟨ret_bool (dec_no fun h => p5.out (by rw [h])), hwWh.out.trans (hb1'.mono hws)⟩
 rw [decide_eq_true p5]
 replace p5 := hide p5
 go_wp2_with (fail)
 refine (cT.out w1 hb1').mono ?_
 rintro e w2 ⟨rfl, hb2⟩
 have hb2' : Below W.heap.size W w2 := hb1'.trans (hb2.mono hb1'.size)
 clear hb1' hb2
 by_cases p6 : a.to = b.to
 case neg =>
  rw [decide_eq_false p6]
  replace p6 := hide p6
  go_wp2_with (fail)
  go_ret
  exact ⟨ret_bool (dec_no fun h => p6.out (by rw [h])), hwWh.out.trans (hb2'.mono hws)⟩
 have hab : a = b := by
  have h0 := p0.out; have h1 := p1.out; have h2 := p2.out; have h3 := p3.out; have h4 := p4.out; have h5 := p5.out
  cases a; cases b
  simp only at h0 h1 h2 h3 h4 h5 p6
  subst h0 h1 h2 h3 h4 h5 p6
  rfl
 rw [decide_eq_true p6]
 replace p6 := hide p6
 replace hab := hide hab
 go_wp2_with (fail)
 go_ret
 exact ⟨ret_bool (decide_eq_true hab.out).symm, hwWh.out.trans (hb2'.mono hws)⟩
set_option maxRecDepth 100000 in
set_option maxHeartbeats 6400000 in
theorem eqf_instr (u v : Value) (a b : List (Ins)) (w : World) (B : Nat) (hB : B ≤ w.heap.size) (ha : RBlk.rep w B [u] a) (hb : RBlk.rep w B [v] b) :
  Calls Try.prog 62 #[u, v, .func (.func 63) #[] #[]] w (EqPost (decide (a = b)) w) := by
 obtain ⟨A1, c1, h1, hm1, ga⟩ := Rp.slice_open (RBlk.later ha (Below.refl _ _) hB)
 obtain ⟨A2, c2, h2, hm2, gb⟩ := Rp.slice_open (RBlk.later hb (Below.refl _ _) hB)
 clear ha hb
 cases h1; cases h2
 replace ga := hide ga
 replace gb := hide gb
 have hww := Nat.le_refl w.heap.size
 have hself := Below.refl w.heap.size w
 by_cases hl : a.length = b.length
 case neg =>
  go_enter Try.func62, Try.ntmps62
  have hne : ((a.length : Int) != (b.length : Int)) = true := by rw [bne_iff_ne]; omega
  go_wp2
  go_ret
  exact ⟨ret_bool (dec_no fun h => hl (by rw [h])), hself⟩
 have heq : ((a.length : Int) != (b.length : Int)) = false := by rw [bne_eq_false_iff_eq]; omega
 go_enter Try.func62, Try.ntmps62
 go_wp2
 clear heq
 replace hl := hide hl
 go_loopw [17] (fun i wr => ∃ k : Nat, k ≤ a.length ∧ i = .int .i64 k ∧ Hid (a.take k = b.take k) ∧ Below w.heap.size w wr) (fun i _ => a.length - (intOf i).toNat)
 case atStart => exact ⟨0, Nat.zero_le _, rfl, hide rfl, hself⟩
 case round =>
  clear hself
  obtain ⟨k, hk, rfl, hall, hbel⟩ := hrel
  by_cases hlt : k < a.length
  ·have hlt2 : k < b.length := by have := hl.out; omega
   obtain ⟨b1, o1, rfl, he1⟩ := ga.out (by omega)
   obtain ⟨b2, o2, rfl, he2⟩ := gb.out (by omega)
   obtain ⟨x, hx⟩ := get_ex hlt
   obtain ⟨y, hy⟩ := get_ex hlt2
   obtain ⟨es1, -, hr1, hc1⟩ := he1 k x hx.out
   obtain ⟨_, _, e1, hq1, ht1, -⟩ := id hr1
   subst e1
   obtain ⟨xA, xC, h1, -, -⟩ := Rp.slice_open hq1
   cases h1
   obtain ⟨xT, xD, h1, -, -⟩ := Rp.slice1_open ht1
   cases h1
   clear hq1 ht1
   obtain ⟨es2, -, hr2, hc2⟩ := he2 k y hy.out
   obtain ⟨_, _, e2, hq2, ht2, -⟩ := id hr2
   subst e2
   obtain ⟨yA, yC, h2, -, -⟩ := Rp.slice_open hq2
   cases h2
   obtain ⟨yT, yD, h2, -, -⟩ := Rp.slice1_open ht2
   cases h2
   clear hq2 ht2
   obtain ⟨a0, a1, a2, a3, a4, a5, a6⟩ := hc1.seven
   obtain ⟨d0, d1, d2, d3, d4, d5, d6⟩ := hc2.seven
   have cS0 : ∀ W', Below w.heap.size w W' → Calls Try.prog 63 #[x.v (.slice xA x.args.length xC) (.slice xT x.to.length xD), y.v (.slice yA y.args.length yC) (.slice yT y.to.length yD)] W' (EqPost (decide (x = y)) W') := fun W' h => same_instr _ _ _ _ _ _ _ _ (Nat.le_refl _) (RIns.later hr1 h h.size) (RIns.later hr2 h h.size)
   replace cS0 := hide cS0
   clear he1 he2 hc1 hc2 hr1 hr2
   obtain ⟨Z, hZ, hwZ, hZs, hzc⟩ := boxes1 wr #[.int .i64 x.op, .int .i64 x.reg, .int .i64 x.ty, .int .i64 x.num, .int .i64 x.flags, .slice xA x.args.length xC, .slice xT x.to.length xD] 39
   obtain ⟨V, hV, hwV, hVs, hvc⟩ := boxes1 Z #[.int .i64 y.op, .int .i64 y.reg, .int .i64 y.ty, .int .i64 y.num, .int .i64 y.flags, .slice yA y.args.length yC, .slice yT y.to.length yD] 39
   have hbelZ : Below w.heap.size w Z := hbel.trans (hwZ.mono hbel.size)
   have hbelV : Below w.heap.size w V := hbelZ.trans (hwV.mono hbelZ.size)
   have zx0 := (hwV.cell (p := ⟨wr.heap.size, 0, none⟩) (by show wr.heap.size < Z.heap.size; omega)).trans (hzc 0 _ rfl Z (Below.refl _ _))
   have zy0 := hvc 0 _ rfl V (Below.refl _ _)
   have zx1 := (hwV.cell (p := ⟨wr.heap.size, 1, none⟩) (by show wr.heap.size < Z.heap.size; omega)).trans (hzc 1 _ rfl Z (Below.refl _ _))
   have zy1 := hvc 1 _ rfl V (Below.refl _ _)
   have zx2 := (hwV.cell (p := ⟨wr.heap.size, 2, none⟩) (by show wr.heap.size < Z.heap.size; omega)).trans (hzc 2 _ rfl Z (Below.refl _ _))
   have zy2 := hvc 2 _ rfl V (Below.refl _ _)
   have zx3 := (hwV.cell (p := ⟨wr.heap.size, 3, none⟩) (by show wr.heap.size < Z.heap.size; omega)).trans (hzc 3 _ rfl Z (Below.refl _ _))
   have zy3 := hvc 3 _ rfl V (Below.refl _ _)
   have zx4 := (hwV.cell (p := ⟨wr.heap.size, 4, none⟩) (by show wr.heap.size < Z.heap.size; omega)).trans (hzc 4 _ rfl Z (Below.refl _ _))
   have zy4 := hvc 4 _ rfl V (Below.refl _ _)
   have zx5 := (hwV.cell (p := ⟨wr.heap.size, 5, none⟩) (by show wr.heap.size < Z.heap.size; omega)).trans (hzc 5 _ rfl Z (Below.refl _ _))
   have zy5 := hvc 5 _ rfl V (Below.refl _ _)
   have zx6 := (hwV.cell (p := ⟨wr.heap.size, 6, none⟩) (by show wr.heap.size < Z.heap.size; omega)).trans (hzc 6 _ rfl Z (Below.refl _ _))
   have zy6 := hvc 6 _ rfl V (Below.refl _ _)
   have cS := hide (cS0.out V hbelV)
   replace hZs := hide hZs
   replace hVs := hide hVs
   replace hwZ := hide hwZ
   replace hwV := hide hwV
   clear hzc hvc
   go_upto_region 6 with (fail)
   try rw [hZ]
   go_upto_region 7 with (fail)
   try rw [hV]
   clear hZ hV
   go_wp2_with (fail)
   refine cS.out.mono ?_
   rintro e w9 ⟨rfl, hb9⟩
   have hk9 : Below w.heap.size w w9 := hbelV.trans (hb9.mono hbelV.size)
   clear hb9 hbelV hbelZ cS hbel
   by_cases hxy : x = y
   ·rw [decide_eq_true hxy]
    have hnx := hide (ltake_next hall.out (hxy ▸ hx.out) hy.out)
    replace hxy := hide hxy
    go_wp2
    go_roundw
    case rel => exact ⟨k + 1, hlt, by go_num, hnx, hk9⟩
    case measure => simp [intOf]; omega
   ·rw [decide_eq_false hxy]
    have hne : a ≠ b := fun h => lget_ne hxy hx.out hy.out h
    replace hxy := hide hxy
    replace hne := hide hne
    go_wp2
    go_ret
    exact ⟨ret_bool (dec_no hne.out), hk9⟩
  ·have hab : a = b := ltake_full hl.out (by omega) hall.out
   replace hab := hide hab
   have hlt3 : ¬ k < b.length := by have := hl.out; omega
   go_wp2
   go_ret
   exact ⟨ret_bool (decide_eq_true hab.out).symm, hbel⟩
set_option maxRecDepth 100000 in
set_option maxHeartbeats 3200000 in
theorem same_block (u v : Value) (a b : List Ins) (w : World) (B : Nat) (hB : B ≤ w.heap.size) (ha : RBlk.rep w B [u] a) (hb : RBlk.rep w B [v] b) :
  Calls Try.prog 42 #[.agg #[u], .agg #[v]] w (EqPost (decide (a = b)) w) := by
 obtain ⟨W, hW, hwW, hWs, hx, hy⟩ := boxes2 w #[u] #[v] 36 36
 have x0 := hx 0 _ rfl
 have y0 := hy 0 _ rfl
 clear hx hy
 have hws : w.heap.size ≤ W.heap.size := by omega
 replace hWs := hide hWs
 have cE := hide (eqf_instr u v a b W W.heap.size (Nat.le_refl _) (RBlk.later ha (hwW.mono hB) (by omega)) (RBlk.later hb (hwW.mono hB) (by omega)))
 have hself := Below.refl W.heap.size W
 have hwWh := hide hwW
 replace hW := hide hW
 clear ha hb hwW
 go_enter Try.func42, Try.ntmps42
 go_upto_region 1 with (fail)
 rw [hW.out]
 clear hW
 go_wp2_with (fail)
 refine cE.out.mono ?_
 rintro e w1 ⟨rfl, hb1⟩
 go_wp2_with (fail)
 go_ret
 exact ⟨rfl, hwWh.out.trans (hb1.mono hws)⟩
set_option maxRecDepth 100000 in
set_option maxHeartbeats 6400000 in
theorem eqf_block (u v : Value) (a b : List (List Ins)) (w : World) (B : Nat) (hB : B ≤ w.heap.size) (ha : RBlks.rep w B [u] a) (hb : RBlks.rep w B [v] b) :
  Calls Try.prog 41 #[u, v, .func (.func 42) #[] #[]] w (EqPost (decide (a = b)) w) := by
 obtain ⟨A1, c1, h1, hm1, ga⟩ := Rp.slice1_open (RBlks.later ha (Below.refl _ _) hB)
 obtain ⟨A2, c2, h2, hm2, gb⟩ := Rp.slice1_open (RBlks.later hb (Below.refl _ _) hB)
 clear ha hb
 cases h1; cases h2
 replace ga := hide ga
 replace gb := hide gb
 have hww := Nat.le_refl w.heap.size
 have hself := Below.refl w.heap.size w
 by_cases hl : a.length = b.length
 case neg =>
  go_enter Try.func41, Try.ntmps41
  have hne : ((a.length : Int) != (b.length : Int)) = true := by rw [bne_iff_ne]; omega
  go_wp2
  go_ret
  exact ⟨ret_bool (dec_no fun h => hl (by rw [h])), hself⟩
 have heq : ((a.length : Int) != (b.length : Int)) = false := by rw [bne_eq_false_iff_eq]; omega
 go_enter Try.func41, Try.ntmps41
 go_wp2
 clear heq
 replace hl := hide hl
 go_loopw [17] (fun i wr => ∃ k : Nat, k ≤ a.length ∧ i = .int .i64 k ∧ Hid (a.take k = b.take k) ∧ Below w.heap.size w wr) (fun i _ => a.length - (intOf i).toNat)
 case atStart => exact ⟨0, Nat.zero_le _, rfl, hide rfl, hself⟩
 case round =>
  clear hself
  obtain ⟨k, hk, rfl, hall, hbel⟩ := hrel
  by_cases hlt : k < a.length
  ·have hlt2 : k < b.length := by have := hl.out; omega
   obtain ⟨b1, o1, rfl, he1⟩ := ga.out (by omega)
   obtain ⟨b2, o2, rfl, he2⟩ := gb.out (by omega)
   obtain ⟨x, hx⟩ := get_ex hlt
   obtain ⟨y, hy⟩ := get_ex hlt2
   obtain ⟨_, hr1, hc1⟩ := he1 k x hx.out
   obtain ⟨xA, xC, h1, -, -⟩ := Rp.slice_open hr1
   cases h1
   obtain ⟨_, hr2, hc2⟩ := he2 k y hy.out
   obtain ⟨yA, yC, h2, -, -⟩ := Rp.slice_open hr2
   cases h2
   have cS0 : ∀ W', Below w.heap.size w W' → Calls Try.prog 42 #[.agg #[.slice xA x.length xC], .agg #[.slice yA y.length yC]] W' (EqPost (decide (x = y)) W') := fun W' h => same_block _ _ _ _ _ _ (Nat.le_refl _) (RBlk.later hr1 h h.size) (RBlk.later hr2 h h.size)
   replace cS0 := hide cS0
   clear he1 he2 hr1 hr2
   obtain ⟨Z, hZ, hwZ, hZs, hzc⟩ := boxes1 wr #[.slice xA x.length xC] 36
   obtain ⟨V, hV, hwV, hVs, hvc⟩ := boxes1 Z #[.slice yA y.length yC] 36
   have hbelZ : Below w.heap.size w Z := hbel.trans (hwZ.mono hbel.size)
   have hbelV : Below w.heap.size w V := hbelZ.trans (hwV.mono hbelZ.size)
   have zx0 := (hwV.cell (p := ⟨wr.heap.size, 0, none⟩) (by show wr.heap.size < Z.heap.size; omega)).trans (hzc 0 _ rfl Z (Below.refl _ _))
   have zy0 := hvc 0 _ rfl V (Below.refl _ _)
   have cS := hide (cS0.out V hbelV)
   replace hZs := hide hZs
   replace hVs := hide hVs
   replace hwZ := hide hwZ
   replace hwV := hide hwV
   clear hzc hvc
   go_upto_region 6 with (fail)
   try rw [hZ]
   go_upto_region 7 with (fail)
   try rw [hV]
   clear hZ hV
   go_wp2_with (fail)
   refine cS.out.mono ?_
   rintro e w9 ⟨rfl, hb9⟩
   have hk9 : Below w.heap.size w w9 := hbelV.trans (hb9.mono hbelV.size)
   clear hb9 hbelV hbelZ cS hbel
   by_cases hxy : x = y
   ·rw [decide_eq_true hxy]
    have hnx := hide (ltake_next hall.out (hxy ▸ hx.out) hy.out)
    replace hxy := hide hxy
    go_wp2
    go_roundw
    case rel => exact ⟨k + 1, hlt, by go_num, hnx, hk9⟩
    case measure => simp [intOf]; omega
   ·rw [decide_eq_false hxy]
    have hne : a ≠ b := fun h => lget_ne hxy hx.out hy.out h
    replace hxy := hide hxy
    replace hne := hide hne
    go_wp2
    go_ret
    exact ⟨ret_bool (dec_no hne.out), hk9⟩
  ·have hab : a = b := ltake_full hl.out (by omega) hall.out
   replace hab := hide hab
   have hlt3 : ¬ k < b.length := by have := hl.out; omega
   go_wp2
   go_ret
   exact ⟨ret_bool (decide_eq_true hab.out).symm, hbel⟩
set_option maxRecDepth 100000 in
set_option maxHeartbeats 6400000 in
theorem same_func (a b : Fun) (c1 d1 c2 d2 : Value) (w : World) (B : Nat) (hB : B ≤ w.heap.size) (ha : RFun.rep w B [.string a.name, c1, .int .i64 a.ret, d1] a) (hb : RFun.rep w B [.string b.name, c2, .int .i64 b.ret, d2] b) :
  Calls Try.prog 21 #[a.v c1 d1, b.v c2 d2] w (EqPost (decide (a = b)) w) := by
 obtain ⟨ha1, ha2⟩ := fun_open (RFun.later ha (Below.refl _ _) hB)
 obtain ⟨hb1, hb2⟩ := fun_open (RFun.later hb (Below.refl _ _) hB)
 clear ha hb
 obtain ⟨W, hW, hwW, hWs, hx, hy⟩ := boxes2 w #[.string a.name, c1, .int .i64 a.ret, d1] #[.string b.name, c2, .int .i64 b.ret, d2] 32 32
 have x0 := hx 0 _ rfl
 have x1 := hx 1 _ rfl
 have x2 := hx 2 _ rfl
 have x3 := hx 3 _ rfl
 have y0 := hy 0 _ rfl
 have y1 := hy 1 _ rfl
 have y2 := hy 2 _ rfl
 have y3 := hy 3 _ rfl
 clear hx hy
 have hws : w.heap.size ≤ W.heap.size := by omega
 replace hWs := hide hWs
 have cA : Hid (∀ W', Below W.heap.size W W' → Calls Try.prog 40 #[c1, c2] W' (EqPost (decide (a.params = b.params)) W')) := hide (fun W' h => eq_ints _ _ _ _ _ _ (Nat.le_refl _) (RInts.later ha1 (hwW.trans (h.mono hws)) (hwW.trans (h.mono hws)).size) (RInts.later hb1 (hwW.trans (h.mono hws)) (hwW.trans (h.mono hws)).size))
 have cT : Hid (∀ W', Below W.heap.size W W' → Calls Try.prog 41 #[d1, d2, .func (.func 42) #[] #[]] W' (EqPost (decide (a.blocks = b.blocks)) W')) := hide (fun W' h => eqf_block _ _ _ _ _ _ (Nat.le_refl _) (RBlks.later ha2 (hwW.trans (h.mono hws)) (hwW.trans (h.mono hws)).size) (RBlks.later hb2 (hwW.trans (h.mono hws)) (hwW.trans (h.mono hws)).size))
 have hself := Below.refl W.heap.size W
 have hwWh := hide hwW
 replace hW := hide hW
 clear ha1 ha2 hb1 hb2 hwW
 go_enter Try.func21, Try.ntmps21
 go_upto_region 1 with (fail)
 rw [hW.out]
 clear hW
 by_cases p0 : a.name = b.name
 case neg =>
  have e0 : (a.name.toList == b.name.toList) = false := beq_eq_false_iff_ne.2 (fun h => p0 (bytes_same h))
  replace p0 := hide p0
  go_wp2_with (fail)
  go_ret
  exact ⟨ret_bool (dec_no fun h => p0.out (by rw [h])), hwWh.out⟩
 have e0 : (a.name.toList == b.name.toList) = true := by rw [p0]; simp
 replace p0 := hide p0
 by_cases p1 : a.ret = b.ret
 case neg =>
  have e1 : (a.ret == b.ret) = false := by rw [beq_eq_false_iff_ne]; exact p1
  replace p1 := hide p1
  go_wp2_with (fail)
  go_ret
  exact ⟨ret_bool (dec_no fun h => p1.out (by rw [h])), hwWh.out⟩
 have e1 : (a.ret == b.ret) = true := by rw [beq_iff_eq]; exact p1
 replace p1 := hide p1
 go_wp2_with (fail)
 refine (cA.out W hself).mono ?_
 rintro e w1 ⟨rfl, hb1⟩
 have hb1' : Below W.heap.size W w1 := hb1
 clear hb1 hself
 by_cases p5 : a.params = b.params
 case neg =>
  rw [decide_eq_false p5]
  replace p5 := hide p5
  go_wp2_with (fail)
  go_ret
  exact ⟨ret_bool (dec_no fun h => p5.out (by rw [h])), hwWh.out.trans (hb1'.mono hws)⟩
 rw [decide_eq_true p5]
 replace p5 := hide p5
 go_wp2_with (fail)
 refine (cT.out w1 hb1').mono ?_
 rintro e w2 ⟨rfl, hb2⟩
 have hb2' : Below W.heap.size W w2 := hb1'.trans (hb2.mono hb1'.size)
 clear hb1' hb2
 by_cases p6 : a.blocks = b.blocks
 case neg =>
  rw [decide_eq_false p6]
  replace p6 := hide p6
  go_wp2_with (fail)
  go_ret
  exact ⟨ret_bool (dec_no fun h => p6.out (by rw [h])), hwWh.out.trans (hb2'.mono hws)⟩
 have hab : a = b := by
  have h0 := p0.out; have h1 := p1.out; have h5 := p5.out
  cases a; cases b
  simp only at h0 h1 h5 p6
  subst h0 h1 h5 p6
  rfl
 rw [decide_eq_true p6]
 replace p6 := hide p6
 replace hab := hide hab
 go_wp2_with (fail)
 go_ret
 exact ⟨ret_bool (decide_eq_true hab.out).symm, hwWh.out.trans (hb2'.mono hws)⟩
end Go.Proofs.Ytamjcafjdioidaa
