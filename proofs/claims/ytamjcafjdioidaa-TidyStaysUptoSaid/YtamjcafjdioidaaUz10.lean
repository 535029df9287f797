/- Texts of the chain, without what is not wanted: TdH, TdI, InP. No condition but sizes. -/
import Derived.WalkKit
import Derived.Deep.Slices
import Derived.Deep.Draws
import Derived.ChangeSame
import Derived.ChangeOld
import Derived.OwnWalk
import Derived.Laws.OwnMore
import Derived.Deep.AppendLies
import Derived.Test.YtamjcafjdioidaaRows
import Derived.ProofKit
import Derived.OpenShut
import Derived.JoinedCond
import Derived.WalkSpells
import Derived.WalkLawsBesides
import Derived.Deep.RegionHeld3
import Derived.Deep.LoopGhost
import Derived.Deep.QuietTactic
import Derived.BigQuiet
import Derived.Deep.DeepCutAuto
import Derived.Deep.CutBlock
import Derived.StillTailTactics
import Derived.Deep.RegionLaw
import Derived.Lib.SliceRun
import Derived.Laws.IdiomCopy
import Derived.Deep.MidRow
import Derived.Lib.Overlaps
import Derived.Test.YtamjcafjdioidaaUz01
import Derived.Test.YtamjcafjdioidaaUz02
import Derived.Test.YtamjcafjdioidaaUz03
import Derived.Test.YtamjcafjdioidaaUz04
import Derived.Test.YtamjcafjdioidaaUz05
import Derived.Test.YtamjcafjdioidaaUz06
import Derived.Test.YtamjcafjdioidaaUz07
namespace Go.Proofs.Ytamjcafjdioidaa
open Go.RowKit
set_option linter.unusedSimpArgs false
set_option linter.unusedVariables false
def bsGo (l : List Int) (x : Int) : Nat → Nat → Nat → Nat
 | 0, lo, _ => lo
 | k + 1, lo, hi => if lo < hi then (if l.getD ((lo + hi) / 2) 0 < x then bsGo l x k ((lo + hi) / 2 + 1) hi else bsGo l x k lo ((lo + hi) / 2)) else lo
def bsI (l : List Int) (x : Int) : Nat := bsGo l x l.length 0 l.length
theorem bsGo_le {l : List Int} {x : Int} : ∀ (k lo hi : Nat), lo ≤ hi → lo ≤ bsGo l x k lo hi ∧ bsGo l x k lo hi ≤ hi
 | 0, lo, hi, h => ⟨Nat.le_refl _, h⟩
 | k + 1, lo, hi, h => by
  rw [bsGo]
  split
  ·split
   ·have := bsGo_le (l := l) (x := x) k ((lo + hi) / 2 + 1) hi (by omega)
    omega
   ·have := bsGo_le (l := l) (x := x) k lo ((lo + hi) / 2) (by omega)
    omega
  ·omega
theorem bsI_le (l : List Int) (x : Int) : bsI l x ≤ l.length := (bsGo_le l.length 0 l.length (Nat.zero_le _)).2
theorem bsGo_more {l : List Int} {x : Int} : ∀ (k j lo hi : Nat), hi - lo ≤ k → hi - lo ≤ j → bsGo l x k lo hi = bsGo l x j lo hi
 | 0, 0, lo, hi, h, hj => rfl
 | 0, j + 1, lo, hi, h, hj => by rw [bsGo, bsGo, if_neg (by omega)]
 | k + 1, 0, lo, hi, h, hj => by rw [bsGo, bsGo, if_neg (by omega)]
 | k + 1, j + 1, lo, hi, h, hj => by
  rw [bsGo, bsGo]
  by_cases hl : lo < hi
  ·rw [if_pos hl, if_pos hl]
   split
   ·exact bsGo_more k j _ _ (by omega) (by omega)
   ·exact bsGo_more k j _ _ (by omega) (by omega)
  ·rw [if_neg hl, if_neg hl]
theorem bsGo_down {l : List Int} {x : Int} {lo hi : Nat} (h : lo < hi) (hx : l.getD ((lo + hi) / 2) 0 < x) : bsGo l x (hi - lo) lo hi = bsGo l x (hi - ((lo + hi) / 2 + 1)) ((lo + hi) / 2 + 1) hi := by
 rw [bsGo_more (hi - lo) (hi - lo + 1) lo hi (by omega) (by omega), bsGo, if_pos h, if_pos hx]
 exact bsGo_more _ _ _ _ (by omega) (by omega)
theorem bsGo_up {l : List Int} {x : Int} {lo hi : Nat} (h : lo < hi) (hx : ¬ l.getD ((lo + hi) / 2) 0 < x) : bsGo l x (hi - lo) lo hi = bsGo l x ((lo + hi) / 2 - lo) lo ((lo + hi) / 2) := by
 rw [bsGo_more (hi - lo) (hi - lo + 1) lo hi (by omega) (by omega), bsGo, if_pos h, if_neg hx]
 exact bsGo_more _ _ _ _ (by omega) (by omega)
set_option maxHeartbeats 800000 in
theorem nan1_any (x : Int) (w : World) : Calls Try.prog 103 #[.int .i64 x] w (fun e w' => e = .returned (.bool false) ∧ w' = w) := by
 go_enter Try.func103, Try.ntmps103
 go_wp2
 go_ret
 exact ⟨by simp, rfl⟩
set_option maxHeartbeats 800000 in
theorem nan2_any (x : Int) (w : World) : Calls Try.prog 114 #[.int .i64 x] w (fun e w' => e = .returned (.bool false) ∧ w' = w) := by
 go_enter Try.func114, Try.ntmps114
 go_wp2
 go_ret
 exact ⟨by simp, rfl⟩
set_option maxHeartbeats 800000 in
theorem less_any (x y : Int) (w : World) : Calls Try.prog 102 #[.int .i64 x, .int .i64 y] w (fun e w' => e = .returned (.bool (decide (x < y))) ∧ w' = w) := by
 go_enter Try.func102, Try.ntmps102
 go_wp2_with (fail)
 refine (nan2_any _ _).mono ?_
 rintro e w' ⟨rfl, rfl⟩
 go_wp2_with (fail)
 go_ret
 exact ⟨rfl, rfl⟩
set_option maxHeartbeats 3200000 in
set_option maxRecDepth 100000 in
theorem bsearch_any (u : Value) (l : List Int) (x : Int) (w : World) (B : Nat) (hB : B ≤ w.heap.size) (ha : RInts.rep w B [u] l) (hbig : l.length < 4611686018427387904) :
  Calls Try.prog 87 #[u, .int .i64 x] w (fun e w' => (∃ bb, e = .returned (.tuple #[.int .i64 (bsI l x : Nat), .bool bb])) ∧ Below w.heap.size w w') := by
 obtain ⟨A1, c1, h1, hm1, ga⟩ := Rp.slice1_open (RInts.later ha (Below.refl _ _) hB)
 cases h1
 replace ga := hide ga
 have hself := Below.refl w.heap.size w
 obtain ⟨ix, hix⟩ : ∃ ix : Nat, Hid (ix = bsI l x) := ⟨_, hide rfl⟩
 rw [← hix.out]
 obtain ⟨n, hn⟩ : ∃ n, Hid (n = l.length) := ⟨_, hide rfl⟩
 rw [← hn.out] at hbig hm1 ⊢
 go_enter Try.func87, Try.ntmps87
 go_wp2
 go_loopw [7, 8] (fun s7 s8 wr => ∃ lo hi : Nat, s7 = .int .i64 lo ∧ s8 = .int .i64 hi ∧ lo ≤ hi ∧ hi ≤ n ∧ Hid (ix = bsGo l x (hi - lo) lo hi) ∧ Below w.heap.size w wr) (fun s7 s8 _ => (intOf s8).toNat - (intOf s7).toNat)
 case atStart => exact ⟨0, n, rfl, rfl, Nat.zero_le _, Nat.le_refl _, hide (by rw [hix.out, bsI, ← hn.out]; rfl), hself⟩
 case round =>
  obtain ⟨lo, hi, rfl, rfl, hlh, hin, h1, hbel⟩ := hrel
  by_cases hlt : lo < hi
  ·obtain ⟨b1, o1, rfl, he1⟩ := ga.out (by rw [← hn.out]; omega)
   obtain ⟨y, hy⟩ := get_ex (l := l) (k := (lo + hi) / 2) (by rw [← hn.out]; omega)
   obtain ⟨_, ⟨hr1, _⟩, p0⟩ := he1 _ y hy.out
   cases hr1
   clear he1
   have hyd : Hid (l.getD ((lo + hi) / 2) 0 = y) := hide (by rw [List.getD_eq_getElem?_getD, hy.out]; rfl)
   have hn1 : IntKind.i64.wrap ((lo : Int) + (hi : Int)) = (lo : Int) + (hi : Int) := by rw [IntKind.wrap_i64]; omega
   by_cases hyx : y < x
   ·have hst : Hid (ix = bsGo l x (hi - ((lo + hi) / 2 + 1)) ((lo + hi) / 2 + 1) hi) := hide (by rw [h1.out]; exact bsGo_down hlt (by rw [hyd.out]; exact hyx))
    go_wp2_with (fail)
    refine (less_any _ _ _).mono ?_
    rintro e w' ⟨rfl, rfl⟩
    go_wp2
    go_roundw
    case rel => exact ⟨(lo + hi) / 2 + 1, hi, by go_num, rfl, by omega, by omega, hst, hbel⟩
    case measure => simp [intOf]; omega
   ·have hst : Hid (ix = bsGo l x ((lo + hi) / 2 - lo) lo ((lo + hi) / 2)) := hide (by rw [h1.out]; exact bsGo_up hlt (by rw [hyd.out]; exact hyx))
    go_wp2_with (fail)
    refine (less_any _ _ _).mono ?_
    rintro e w' ⟨rfl, rfl⟩
    go_wp2
    go_roundw
    case rel => exact ⟨lo, (lo + hi) / 2, rfl, by go_num, by omega, by omega, hst, hbel⟩
    case measure => simp [intOf]; omega
  ·obtain rfl : hi = lo := by omega
   have hix2 : Hid (ix = hi) := hide (by rw [h1.out, Nat.sub_self]; rfl)
   have hfin : Hid (∀ (bb : Value) w', (∃ b, bb = .bool b) → Below w.heap.size w w' → (∃ b, Ending.returned (.tuple #[.int .i64 (hi : Nat), bb]) = .returned (.tuple #[.int .i64 (ix : Nat), .bool b])) ∧ Below w.heap.size w w') := hide (fun bb w' ⟨b, hb⟩ h => ⟨⟨b, by rw [hb, hix2.out]⟩, h⟩)
   by_cases hlt2 : hi < n
   ·obtain ⟨b1, o1, rfl, he1⟩ := ga.out (by rw [← hn.out]; omega)
    obtain ⟨y, hy⟩ := get_ex (l := l) (k := hi) (by rw [← hn.out]; omega)
    obtain ⟨_, ⟨hr1, _⟩, p0⟩ := he1 _ y hy.out
    cases hr1
    clear he1
    by_cases hyx : y = x
    ·go_wp2_with (fail)
     go_ret2
     exact hfin.out _ _ ⟨_, rfl⟩ hbel
    ·go_wp2_with (fail)
     refine (nan1_any _ _).mono ?_
     rintro e w' ⟨rfl, rfl⟩
     go_wp2
     go_ret2
     exact hfin.out _ _ ⟨_, rfl⟩ hbel
   ·go_wp2_with (fail)
    go_ret2
    exact hfin.out _ _ ⟨_, rfl⟩ hbel
end Go.Proofs.Ytamjcafjdioidaa

namespace Go.Proofs.Ytamjcafjdioidaa
set_option linter.unusedVariables false
def movI (p q : Int) (x : Ins) : Ins :=
 if p ∈ x.to then
  ⟨x.op, x.reg, x.ty, x.num, x.flags, (x.args.eraseIdx (x.to.idxOf p)).insertIdx (bsI (x.to.eraseIdx (x.to.idxOf p)) q) (x.args.getD (x.to.idxOf p) ⟨0, 0, 0⟩), (x.to.eraseIdx (x.to.idxOf p)).insertIdx (bsI (x.to.eraseIdx (x.to.idxOf p)) q) q⟩
 else x
theorem movI_no {p q : Int} {x : Ins} (h : p ∉ x.to) : movI p q x = x := by unfold movI; rw [if_neg h]
theorem movI_op (p q : Int) (x : Ins) : (movI p q x).op = x.op := by unfold movI; split <;> rfl
def movP (p q : Int) (x : Ins) : Ins := if x.op = 25 then movI p q x else x
theorem movP_op (p q : Int) (x : Ins) : (movP p q x).op = x.op := by
 unfold movP
 split
 ·exact movI_op p q x
 ·rfl
theorem ins_cells {α : Type} {s : Nat} (f : α → List Value) (hf : ∀ a, (f a).length = s) : ∀ (l : List α) (i : Nat) (a : α), i ≤ l.length → (l.insertIdx i a).flatMap f = (l.flatMap f).take (i * s) ++ f a ++ (l.flatMap f).drop (i * s)
 | l, 0, a, _ => by simp
 | [], i + 1, a, h => by simp at h
 | b :: l, i + 1, a, h => by
  have e : (i + 1) * s = s + i * s := by rw [Nat.add_mul]; omega
  have ih := ins_cells f hf l i a (by simpa using h)
  rw [List.insertIdx_succ_cons, List.flatMap_cons, ih, List.flatMap_cons, e, List.take_append, List.drop_append, hf, List.take_of_length_le (l := f b) (by rw [hf]; omega), show (f b).drop (s + i * s) = [] from List.drop_eq_nil_of_le (by rw [hf]; omega), Nat.add_sub_cancel_left]
  simp
end Go.Proofs.Ytamjcafjdioidaa

namespace Go.Proofs.Ytamjcafjdioidaa
open Go.RowKit
set_option linter.unusedVariables false
set_option linter.unusedSimpArgs false
theorem run_copy_wide {P : Program} (w : World) (dT sT ty elem : TypeId) (size b o dLen dCap : Nat) (a : Addr) (sLen sCap : Nat) (cs : List Value)
  (hu : P.underlying dT = some (.slice elem)) (hs : (P.info? elem).map (·.size) = some size) (hn : cs.length = Nat.min sLen dLen * size)
  (hsrc : ∀ j v, cs[j]? = some v → w.cell? (a.add j) = some v) (ht : w.there b o cs.length) (h1 : ∀ v ∈ cs, v.oneCell' = true) :
  (Builtin.copy_ #[dT, sT] ty #[.slice (some ⟨b, o, none⟩) dLen dCap, .slice (some a) sLen sCap]).run P w = .ok (goInt (Nat.min sLen dLen : Nat)) (w.setCells b o cs) := by
 have hl := run_loadCells_list (P := P) w a cs hsrc
 have hst := run_storeCells_cells (P := P) b o cs 0 w (by simpa using fun j hj => (ht j hj).1) (by simpa using fun j hj => (ht j hj).2) h1
 cases hq : P.info? elem with
 | none => simp [hq] at hs
 | some i =>
  have hi : i.size = size := by simpa [hq] using hs
  simp [Builtin.copy_, run_underlying hu, Builtin.lenOf, Builtin.firstCells, sizeOf, typeInfo, hq, hi, ← hn, hl, hst]
theorem step_copy_ {P : Program} {ops : Array Oper} {o : Oper} {a : Act} {w : World} {K : Act → World → Prop} {Q : Exit → Act → World → Prop} {E : Prop}
  (hg : o.guard = none) (d x : Operand) (dT sT : TypeId) (hop : o.op = Op.call { callee := Callee.builtin Builtin.copy, args := #[d, x], argTypes := #[dT, sT] })
  (v u : Value) (hd : a.eval d = v) (hx : a.eval x = u) {v' : Value} {w' : World} (hr : (Builtin.copy_ #[dT, sT] o.type #[v, u]).run P w = .ok v' w') (hK : K (a.put o.dst v') w') :
  if Region.wanted o (yielded ops a.tmps) = true then Oper.wp P o a w K Q else E := by
 have hw : Region.wanted o (yielded ops a.tmps) = true := by simp [Region.wanted, hg]
 rw [if_pos hw]
 unfold Oper.wp
 simp [execOp, hop, resolve, invoke, builtin, hd, hx, hr, Result.andThen]
 exact hK
theorem row_more {w : World} {B : Nat} {T : TypeId} {s g n C : Nat} {xs : List Value} (h : w.ownsRow B T s (.slice (some ⟨g, 0, none⟩) n C) n xs) (hC : n < C) :
  ∃ ys, ys.length = s ∧ w.ownsRow B T s (.slice (some ⟨g, 0, none⟩) (n + 1) C) (n + 1) (xs ++ ys) := by
 rcases h.2 with ⟨e1, -⟩ | ⟨g', cap, cur, e1, hb, hh, h1, h2, h3, h4⟩
 ·cases e1
 ·cases e1
  have e3 : (n + 1) * s = n * s + s := by rw [Nat.add_mul]; omega
  have h5 : (n + 1) * s ≤ C * s := Nat.mul_le_mul_right s hC
  refine ⟨(cur.toList.drop (n * s)).take s, by rw [List.length_take, List.length_drop, Array.length_toList]; omega, ?_, .inr ⟨g, C, cur, rfl, hb, hh, hC, h2, h3, ?_⟩⟩
  ·rw [List.length_append, h.1, List.length_take, List.length_drop, Array.length_toList]; omega
  ·rw [← h4, e3, List.take_add]
theorem patch_ins {xs ys vs : List Value} {n s i : Nat} (hx : xs.length = n * s) (hi : i ≤ n) (hy : ys.length = s) (hv : vs.length = s) :
  patch (patch (xs ++ ys) ((i + 1) * s) (xs.drop (i * s))) (i * s) vs = xs.take (i * s) ++ vs ++ xs.drop (i * s) := by
 obtain ⟨m, rfl⟩ : ∃ m, n = i + m := ⟨n - i, by omega⟩
 have e1 : (i + m) * s = i * s + m * s := Nat.add_mul _ _ _
 have e3 : (i + 1) * s = i * s + s := by rw [Nat.add_mul]; omega
 rw [e1] at hx
 rw [e3]
 have hd : (xs.drop (i * s)).length = m * s := by rw [List.length_drop]; omega
 have hl : (xs ++ ys).length = i * s + m * s + s := by rw [List.length_append]; omega
 have hz : (xs ++ ys).drop (i * s + s + m * s) = [] := List.drop_eq_nil_of_le (by omega)
 rw [patch_eq (xs.drop (i * s)) (xs ++ ys) (i * s + s) (by omega), hd, hz, List.append_nil]
 have ht : ((xs ++ ys).take (i * s + s)).length = i * s + s := by rw [List.length_take]; omega
 rw [patch_eq vs _ (i * s) (by rw [List.length_append]; omega), hv]
 rw [List.drop_left' ht, List.take_append_of_le_length (by omega), List.take_take, Nat.min_eq_left (by omega), List.take_append_of_le_length (by omega)]
end Go.Proofs.Ytamjcafjdioidaa
