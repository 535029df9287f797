/- Texts of the chain, without what is not wanted: Sm, VrF. No condition but sizes. -/
import Derived.WalkKit
import Derived.Deep.Slices
import Derived.Deep.Draws
import Derived.ChangeSame
import Derived.ChangeOld
import Derived.OwnWalk
import Derived.Laws.OwnMore
import Derived.Deep.AppendLies
import Derived.Test.YtamjcafjdioidaaRows
import Derived.ProofKit
import Derived.OpenShut
import Derived.JoinedCond
import Derived.WalkSpells
import Derived.WalkLawsBesides
import Derived.Deep.RegionHeld3
import Derived.Deep.LoopGhost
import Derived.Deep.QuietTactic
import Derived.BigQuiet
import Derived.Deep.DeepCutAuto
import Derived.Deep.CutBlock
import Derived.StillTailTactics
import Derived.Deep.RegionLaw
import Derived.Test.YtamjcafjdioidaaUz01
import Derived.Test.YtamjcafjdioidaaUz02
import Derived.Test.YtamjcafjdioidaaUz04
import Derived.Test.YtamjcafjdioidaaUz05
import Derived.Test.YtamjcafjdioidaaUz06
import Derived.Test.YtamjcafjdioidaaUz14
import Derived.Test.YtamjcafjdioidaaUz15
import Derived.Test.YtamjcafjdioidaaUz33
import Derived.Test.YtamjcafjdioidaaUz34
namespace Go.Proofs.Ytamjcafjdioidaa
theorem sum_mem {α : Type} (μ : α → Nat) : ∀ (l : List α) (x : α), x ∈ l → μ x ≤ (l.map μ).sum
 | y :: l, x, h => by
  rw [List.map_cons, List.sum_cons]
  rcases List.mem_cons.1 h with rfl | h
  ·omega
  ·have := sum_mem μ l x h
   omega
theorem sum_len {α : Type} (μ : α → Nat) (h1 : ∀ x, 1 ≤ μ x) : ∀ l : List α, l.length ≤ (l.map μ).sum
 | [] => Nat.zero_le _
 | y :: l => by
  rw [List.map_cons, List.sum_cons, List.length_cons]
  have := sum_len μ h1 l
  have := h1 y
  omega
theorem small_of {f : Fun} (h : funSz f ≤ 2000000) : Small f := by
 unfold funSz blksSz at h
 refine ⟨by omega, ?_, fun x hx => ?_⟩
 ·have := sum_len blkSz (fun x => by unfold blkSz; omega) f.blocks
  omega
 ·have h1 := sum_mem blkSz f.blocks x hx
  have h2 : x.length ≤ (x.map insSz).sum := sum_len insSz (fun x => by unfold insSz; omega) x
  have h3 : blkSz x = (x.map insSz).sum + 1 := rfl
  refine ⟨by omega, fun i hi => ?_⟩
  have h4 := sum_mem insSz x i hi
  have h5 : insSz i = 1 + i.args.length + i.to.length := rfl
  omega
end Go.Proofs.Ytamjcafjdioidaa

namespace Go.Proofs.Ytamjcafjdioidaa
open Go.RowKit
set_option linter.unusedSimpArgs false
set_option linter.unusedVariables false
theorem flat_len (f : Fun) : f.blocks.flatten.length ≤ funSz f := by
 have key : ∀ bs : List (List Ins), bs.flatten.length ≤ (bs.map blkSz).sum := fun bs => by
  induction bs with
  | nil => simp
  | cons x bs ih =>
   have h2 : x.length ≤ (x.map insSz).sum := sum_len insSz (fun x => by unfold insSz; omega) x
   have h3 : blkSz x = (x.map insSz).sum + 1 := rfl
   simp only [List.flatten_cons, List.length_append, List.map_cons, List.sum_cons]
   omega
 have := key f.blocks
 unfold funSz blksSz
 omega
def BlkOk (n : Nat) (x : List Ins) : Prop := ∃ y, x[x.length - 1]? = some y ∧ iends y.op = true ∧ (∀ (i : Nat) z, i + 1 < x.length → x[i]? = some z → iends z.op = false) ∧ ∀ t, t ∈ y.to → 1 ≤ t ∧ t < n
def BlocksOk (bs : List (List Ins)) : Prop := (1 ≤ bs.length ∧ bs.length ≤ 64 ∧ bs.flatten.length ≤ 400) ∧ ∀ (b : Nat) x, bs[b]? = some x → BlkOk bs.length x
set_option maxRecDepth 100000 in
set_option maxHeartbeats 6400000 in
theorem blocks08_any (f : Fun) (n : Int) (c1 c2 : Value) (w : World) (B : Nat) (hB : B ≤ w.heap.size) (hf : RFun.rep w B [.string f.name, c1, .int .i64 f.ret, c2] f) (hsz : funSz f ≤ 2000000) :
  Calls Try.prog 45 #[f.v c1 c2, .int .i64 n] w (FaultPost (BlocksOk f.blocks) w) := by
 have hs : Small f := small_of hsz
 obtain ⟨hp, hb⟩ := fun_open (RFun.later hf (Below.refl _ _) hB)
 obtain ⟨A1, k1, h1, hm1, gp⟩ := Rp.slice1_open hp
 obtain ⟨A2, k2, h2, hm2, gb⟩ := Rp.slice1_open hb
 cases h1; cases h2
 replace gp := hide gp
 replace gb := hide gb
 clear hp hb
 obtain ⟨N, hN⟩ : ∃ N, Hid (N = f.blocks.length) := ⟨_, hide rfl⟩
 obtain ⟨np, hnp⟩ : ∃ np, Hid (np = f.params.length) := ⟨_, hide rfl⟩
 have hNle : N ≤ 2000000 := by rw [hN.out]; exact hs.blocks
 rw [← hN.out, ← hnp.out] at hf ⊢
 rw [← hN.out] at hm2
 rw [← hnp.out] at hm1
 obtain ⟨W, hW, hwW, hWs, hx, hy⟩ := boxes2 w #[.string f.name, .slice A1 np k1, .int .i64 f.ret, .slice A2 N k2] #[.int .i64 0, .int .i64 0, .int .i64 0, .int .i64 0] 32 58
 have q0 : ∀ w', Below W.heap.size W w' → w'.cell? ⟨w.heap.size, 0, none⟩ = some (.string f.name) := hx 0 _ rfl
 have q1 : ∀ w', Below W.heap.size W w' → w'.cell? ⟨w.heap.size, 1, none⟩ = some (.slice A1 np k1) := hx 1 _ rfl
 have q2 : ∀ w', Below W.heap.size W w' → w'.cell? ⟨w.heap.size, 2, none⟩ = some (.int .i64 f.ret) := hx 2 _ rfl
 have q3 : ∀ w', Below W.heap.size W w' → w'.cell? ⟨w.heap.size, 3, none⟩ = some (.slice A2 N k2) := hx 3 _ rfl
 obtain ⟨R, hRd⟩ : ∃ R, Hid (R = w.heap.size + 1) := ⟨_, hide rfl⟩
 have hR : Hid (W.heap[R]? = some (.cells #[.int .i64 0, .int .i64 0, .int .i64 0, .int .i64 0] 58 (0, 0))) := hide (by
  rw [hRd.out, ← hW]
  have := box_top (w.alloc (.cells #[.string f.name, .slice A1 np k1, .int .i64 f.ret, .slice A2 N k2] 32)) (.cells #[.int .i64 0, .int .i64 0, .int .i64 0, .int .i64 0] 58)
  simpa using this)
 have hRW : R < W.heap.size := by have := hRd.out; omega
 have hRw : Hid (w.heap.size ≤ R) := hide (by have := hRd.out; omega)
 clear hx hy
 have hws : w.heap.size ≤ W.heap.size := by omega
 have hwX : Hid (∀ w', Below W.heap.size W w' → Below w.heap.size w w') := hide (fun w' h => hwW.trans (h.mono hws))
 have hF : Hid (∀ w', Below W.heap.size W w' → RFun.rep w' w'.heap.size [.string f.name, .slice A1 np k1, .int .i64 f.ret, .slice A2 N k2] f) := hide (fun w' h => RFun.later hf ((hwX.out w' h).mono hB) (Nat.le_trans hB (hwX.out w' h).size))
 have hCo : Hid (∀ w', Below W.heap.size W w' → Calls Try.prog 30 #[f.v (.slice A1 np k1) (.slice A2 N k2)] w' (CodePost f w')) := hide (fun w' h => code_any f _ _ w' w'.heap.size (Nat.le_refl _) (fun_open (hF.out w' h)).1 (fun_open (hF.out w' h)).2 (by have := flat_len f; omega))
 have hzb : Hid (∀ x, x ∈ f.blocks → x.length ≤ 2000000) := hide (fun x hx => (hs.code x hx).1)
 replace hs := hide hs
 replace hf := hide hf
 replace hWs := hide hWs
 have hself := Below.refl W.heap.size W
 replace hW := hide hW
 replace hwW := hide hwW
 go_enter Try.func45, Try.ntmps45
 go_upto_region 1 with (fail)
 rw [hW.out, ← hRd.out]
 clear hW
 go_wp2_with (fail)
 refine (hCo.out _ hself).mono ?_
 rintro e V0 ⟨vl, vp, rfl, hb0, hl, hpl⟩
 obtain ⟨A3, k3, h3, hm3, gl⟩ := Rp.slice_open hl
 obtain ⟨A4, k4, h4, hm4, gpl⟩ := Rp.slice_open hpl
 cases h3; cases h4
 have hpp : (beforeP f.blocks f.blocks.length 0).length = f.blocks.flatten.length := by rw [beforeP_length _ _ (.inl rfl) (Nat.le_refl _), before_end]
 have hbV0 := hself.trans (hb0.mono hself.size)
 replace gl := hide gl
 replace gpl := hide gpl
 obtain ⟨l, hll⟩ : ∃ l : List Ins, Hid (l = f.blocks.flatten) := ⟨_, hide rfl⟩
 obtain ⟨pl, hpll⟩ : ∃ pl : List Plc, Hid (pl = beforeP f.blocks f.blocks.length 0) := ⟨_, hide rfl⟩
 rw [← hll.out] at gl hpp hm3 ⊢
 rw [← hpll.out] at gpl hpp hm4 ⊢
 obtain ⟨nl, hnl⟩ : ∃ nl, Hid (nl = l.length) := ⟨_, hide rfl⟩
 rw [hpp, ← hnl.out] at gpl hm4 ⊢
 rw [← hnl.out] at gl hm3
 have hpl2 : Hid (pl.length = nl) := hide (by rw [hpp, hnl.out])
 clear hl hpl hpp hb0
 have hfl : f.blocks.flatten.length = nl := by rw [hnl.out, hll.out]
 have hfl := hide hfl
 have hnl2 : nl ≤ 2000000 := by have := flat_len f; have := hfl.out; omega
 have hbel := hbV0
 clear hself
 by_cases g1 : 1 ≤ N
 case neg =>
  have a1 : (N : Int) < 1 := by omega
  have hfx : Hid ((6 : Int) = 0 ↔ BlocksOk f.blocks) := hide ⟨fun h => by omega, fun h => absurd h.1.1 (by rw [← hN.out]; exact g1)⟩
  go_wp2_with (fail)
  refine (at08_any _ _ _ _ _).mono ?_
  rintro e X9 ⟨rfl, hb9⟩
  have hk9 : Below W.heap.size W X9 := hbel.trans (hb9.mono hbel.size)
  have hR9 : X9.heap[R]? = _ := (hk9.block R hRW).trans hR.out
  obtain ⟨z0, z1, z2, z3⟩ := four9 hR9
  obtain ⟨f0, f1, f2, f3⟩ := four9_free hR9
  go_wp2
  refine fault_ret (c := 6) (k := (n)) (b := 0) (i := 0) ?_ (by rfl) hfx.out (below9 (hwX.out X9 hk9) hRw.out)
  obtain ⟨y0, y1, y2, y3⟩ := fault9 (u0 := .int .i64 (6)) (u1 := .int .i64 (n)) (u2 := .int .i64 (0)) (u3 := .int .i64 (0)) hR9
  simp [results, Try.results45, go_sem, y0, y1, y2, y3]
 by_cases g2 : N ≤ 64
 case neg =>
  have a1 : ¬ (N : Int) < 1 := by omega
  have a2 : (N : Int) > 64 := by omega
  have hfx : Hid ((6 : Int) = 0 ↔ BlocksOk f.blocks) := hide ⟨fun h => by omega, fun h => absurd h.1.2.1 (by rw [← hN.out]; exact g2)⟩
  go_wp2_with (fail)
  refine (at08_any _ _ _ _ _).mono ?_
  rintro e X9 ⟨rfl, hb9⟩
  have hk9 : Below W.heap.size W X9 := hbel.trans (hb9.mono hbel.size)
  have hR9 : X9.heap[R]? = _ := (hk9.block R hRW).trans hR.out
  obtain ⟨z0, z1, z2, z3⟩ := four9 hR9
  obtain ⟨f0, f1, f2, f3⟩ := four9_free hR9
  go_wp2
  refine fault_ret (c := 6) (k := (n)) (b := 0) (i := 0) ?_ (by rfl) hfx.out (below9 (hwX.out X9 hk9) hRw.out)
  obtain ⟨y0, y1, y2, y3⟩ := fault9 (u0 := .int .i64 (6)) (u1 := .int .i64 (n)) (u2 := .int .i64 (0)) (u3 := .int .i64 (0)) hR9
  simp [results, Try.results45, go_sem, y0, y1, y2, y3]
 by_cases g3 : nl ≤ 400
 case neg =>
  have a1 : ¬ (N : Int) < 1 := by omega
  have a2 : ¬ (N : Int) > 64 := by omega
  have a3 : (nl : Int) > 400 := by omega
  have hfx : Hid ((6 : Int) = 0 ↔ BlocksOk f.blocks) := hide ⟨fun h => by omega, fun h => absurd h.1.2.2 (by rw [hfl.out]; exact g3)⟩
  go_wp2_with (fail)
  refine (at08_any _ _ _ _ _).mono ?_
  rintro e X9 ⟨rfl, hb9⟩
  have hk9 : Below W.heap.size W X9 := hbel.trans (hb9.mono hbel.size)
  have hR9 : X9.heap[R]? = _ := (hk9.block R hRW).trans hR.out
  obtain ⟨z0, z1, z2, z3⟩ := four9 hR9
  obtain ⟨f0, f1, f2, f3⟩ := four9_free hR9
  go_wp2
  refine fault_ret (c := 6) (k := (n)) (b := 0) (i := 0) ?_ (by rfl) hfx.out (below9 (hwX.out X9 hk9) hRw.out)
  obtain ⟨y0, y1, y2, y3⟩ := fault9 (u0 := .int .i64 (6)) (u1 := .int .i64 (n)) (u2 := .int .i64 (0)) (u3 := .int .i64 (0)) hR9
  simp [results, Try.results45, go_sem, y0, y1, y2, y3]
 have a1 : ¬ (N : Int) < 1 := by omega
 have a2 : ¬ (N : Int) > 64 := by omega
 have a3 : ¬ (nl : Int) > 400 := by omega
 have hok0 : Hid (∀ (b : Nat) x, b < 0 → f.blocks[b]? = some x → BlkOk N x) := hide (fun b x h => by omega)
 have hself := hbel
 clear hbel hbV0
 go_wp2
 go_loopw [7, 8, 9, 10, 11, 12, 13] (fun s7 _ _ _ _ _ _ wr => ∃ b : Nat, s7 = .int .i64 b ∧ b ≤ N ∧ Hid (∀ (c : Nat) x, c < b → f.blocks[c]? = some x → BlkOk N x) ∧ Below W.heap.size W wr) (fun s7 _ _ _ _ _ _ _ => N - (intOf s7).toNat)
 case atStart => exact ⟨0, rfl, Nat.zero_le _, hok0, hself⟩
 case round =>
  clear hok0 hself
  rename World => V
  obtain ⟨b, rfl, hb9, hok, hbel⟩ := hrel
  have hVs := hbel.size
  have q3V := q3 V hbel
  by_cases hlt : b < N
  ·have hbi : (b : Int) < (N : Int) := by omega
   obtain ⟨x, hx⟩ := get_ex (l := f.blocks) (k := b) (by rw [← hN.out]; exact hlt)
   have hxl : x.length ≤ 2000000 := hzb.out x (List.mem_of_getElem? hx.out)
   obtain ⟨b1, o1, hA2, he1⟩ := gb.out (by rw [← hN.out]; omega)
   subst hA2
   obtain ⟨d1, hr1, hd1⟩ := he1 b x hx.out
   obtain ⟨A5, c5, h5, hm5, ga⟩ := Rp.slice_open hr1
   cases h5
   replace ga := hide ga
   have hd1' : ∀ w', Below W.heap.size W w' → w'.cell? ⟨b1, o1 + b, none⟩ = some (.slice A5 x.length c5) := fun w' h => hd1 w' (hwX.out w' h)
   have d1V := hd1' V hbel
   obtain ⟨lx, hlx⟩ : ∃ lx, Hid (lx = x.length) := ⟨_, hide rfl⟩
   rw [← hlx.out] at hxl d1V hd1' hm5
   clear hd1 hr1 he1
   by_cases h0 : lx = 0
   ·have e0 : ((lx : Int) == 0) = true := by rw [h0]; rfl
    have hfx : Hid ((9 : Int) = 0 ↔ BlocksOk f.blocks) := hide ⟨fun h => by omega, fun h => by
     obtain ⟨y, hy, -⟩ := h.2 b x hx.out
     have := (List.getElem?_eq_some_iff.1 hy).1
     have := hlx.out
     omega⟩
    replace h0 := hide h0
    go_wp2_with (fail)
    refine (at08_any _ _ _ _ _).mono ?_
    rintro e X9 ⟨rfl, hb9⟩
    have hk9 : Below W.heap.size W X9 := hbel.trans (hb9.mono hbel.size)
    have hR9 : X9.heap[R]? = _ := (hk9.block R hRW).trans hR.out
    obtain ⟨z0, z1, z2, z3⟩ := four9 hR9
    obtain ⟨f0, f1, f2, f3⟩ := four9_free hR9
    go_wp2
    refine fault_ret (c := 9) (k := (n)) (b := b) (i := 0) ?_ (by rfl) hfx.out (below9 (hwX.out X9 hk9) hRw.out)
    obtain ⟨y0, y1, y2, y3⟩ := fault9 (u0 := .int .i64 (9)) (u1 := .int .i64 (n)) (u2 := .int .i64 (b)) (u3 := .int .i64 (0)) hR9
    simp [results, Try.results45, go_sem, y0, y1, y2, y3]
   ·have e0 : ((lx : Int) == 0) = false := by rw [beq_eq_false_iff_ne]; omega
    obtain ⟨m, hm⟩ : ∃ m, Hid (lx = m + 1) := ⟨lx - 1, hide (by omega)⟩
    have hmi : (lx : Int) - 1 = (m : Int) := by have := hm.out; omega
    have hml : m < lx := by have := hm.out; omega
    have hmi2 : (m : Int) < (lx : Int) := by omega
    obtain ⟨y, hy⟩ := get_ex (l := x) (k := m) (by rw [← hlx.out]; exact hml)
    have hyl : Hid (x[x.length - 1]? = some y) := hide (by rw [show x.length - 1 = m by have := hm.out; have := hlx.out; omega]; exact hy.out)
    obtain ⟨b3, o3, hA5, he3⟩ := ga.out (by rw [← hlx.out]; omega)
    subst hA5
    obtain ⟨_, _, ⟨a1', a2', rfl, ha, hto, -, hokr, -⟩, hc⟩ := he3 m y hy.out
    obtain ⟨A6, k6, h6, hm6, gt⟩ := Rp.slice1_open hto
    cases h6
    replace gt := hide gt
    obtain ⟨e0', -, -, -, -, -, e6'⟩ := hc.seven
    have e0' : ∀ w', Below W.heap.size W w' → w'.cell? ⟨b3, o3 + m * 7, none⟩ = some (.int .i64 y.op) := fun w' h => e0' w' (hwX.out w' h)
    have e6' : ∀ w', Below W.heap.size W w' → w'.cell? ⟨b3, o3 + m * 7 + 6, none⟩ = some (.slice A6 y.to.length k6) := fun w' h => e6' w' (hwX.out w' h)
    have he3 := hide he3
    clear ha hto hc hokr
    obtain ⟨nt, hnt⟩ : ∃ nt, Hid (nt = y.to.length) := ⟨_, hide rfl⟩
    rw [← hnt.out] at e6' hm6
    replace h0 := hide h0
    have e0V := e0' V hbel
    go_wp2_with (fail)
    refine (rends_any y.op _).mono ?_
    rintro e w9 ⟨rfl, hw9⟩
    subst hw9
    cases hen : iends y.op with
    | false =>
     have hfx : Hid ((9 : Int) = 0 ↔ BlocksOk f.blocks) := hide ⟨fun h => by omega, fun h => by
      obtain ⟨z, hz, h9, -⟩ := h.2 b x hx.out
      rw [hyl.out] at hz
      cases hz
      rw [hen] at h9
      cases h9⟩
     replace hen := hide hen
     go_wp2_with (fail)
     refine (at08_any _ _ _ _ _).mono ?_
     rintro e X9 ⟨rfl, hb9⟩
     have hk9 : Below W.heap.size W X9 := hbel.trans (hb9.mono hbel.size)
     have hR9 : X9.heap[R]? = _ := (hk9.block R hRW).trans hR.out
     obtain ⟨z0, z1, z2, z3⟩ := four9 hR9
     obtain ⟨f0, f1, f2, f3⟩ := four9_free hR9
     go_wp2
     refine fault_ret (c := 9) (k := (n)) (b := b) (i := 0) ?_ (by rfl) hfx.out (below9 (hwX.out X9 hk9) hRw.out)
     obtain ⟨y0, y1, y2, y3⟩ := fault9 (u0 := .int .i64 (9)) (u1 := .int .i64 (n)) (u2 := .int .i64 (b)) (u3 := .int .i64 (0)) hR9
     simp [results, Try.results45, go_sem, y0, y1, y2, y3]
    | true =>
     have hself := hbel
     have hea0 : Hid (∀ (i : Nat) z, i < 0 → x[i]? = some z → iends z.op = false) := hide (fun i z h => by omega)
     go_wp2
     go_loopw [10, 11] (fun s10 s11 wr => ∃ i : Nat, s10 = .int .i64 i ∧ i ≤ m ∧ Hid (∀ (j : Nat) z, j < i → x[j]? = some z → iends z.op = false) ∧ Below W.heap.size W wr) (fun s10 _ _ => m - (intOf s10).toNat)
     case atStart => exact ⟨0, rfl, Nat.zero_le _, hea0, hself⟩
     case round =>
      clear hea0 hself
      rename World => Y
      obtain ⟨i, rfl, hi, hea, hbY⟩ := hrel
      have hYs := hbY.size
      by_cases hlti : i < m
      ·have hii : (i : Int) < (m : Int) := by omega
       have hii2 : (i : Int) < (lx : Int) := by omega
       obtain ⟨z, hz⟩ := get_ex (l := x) (k := i) (by rw [← hlx.out]; omega)
       obtain ⟨_, _, ⟨a1', a2', rfl, ha, hto, -, hokr, -⟩, hc⟩ := he3.out i z hz.out
       obtain ⟨t0, -⟩ := hc.seven
       have t0V := t0 Y (hwX.out Y hbY)
       clear ha hto hc hokr t0
       go_wp2_with (fail)
       refine (rends_any z.op _).mono ?_
       rintro e w9 ⟨rfl, hw9⟩
       subst hw9
       cases hez : iends z.op with
       | true =>
        have hfx : Hid ((9 : Int) = 0 ↔ BlocksOk f.blocks) := hide ⟨fun h => by omega, fun h => by
         obtain ⟨_, -, -, h9, -⟩ := h.2 b x hx.out
         have := h9 i z (by have := hm.out; have := hlx.out; omega) hz.out
         rw [hez] at this
         cases this⟩
        replace hez := hide hez
        go_wp2_with (fail)
        refine (at08_any _ _ _ _ _).mono ?_
        rintro e X9 ⟨rfl, hb9⟩
        have hk9 : Below W.heap.size W X9 := hbY.trans (hb9.mono hbY.size)
        have hR9 : X9.heap[R]? = _ := (hk9.block R hRW).trans hR.out
        obtain ⟨z0, z1, z2, z3⟩ := four9 hR9
        obtain ⟨f0, f1, f2, f3⟩ := four9_free hR9
        go_wp2
        refine fault_ret (c := 9) (k := (n)) (b := b) (i := i) ?_ (by rfl) hfx.out (below9 (hwX.out X9 hk9) hRw.out)
        obtain ⟨y0, y1, y2, y3⟩ := fault9 (u0 := .int .i64 (9)) (u1 := .int .i64 (n)) (u2 := .int .i64 (b)) (u3 := .int .i64 (i)) hR9
        simp [results, Try.results45, go_sem, y0, y1, y2, y3]
       | false =>
        have hnx : Hid (∀ (j : Nat) z, j < i + 1 → x[j]? = some z → iends z.op = false) := hide (fun j u hj hu => by
         rcases Nat.lt_succ_iff_lt_or_eq.1 hj with h | h
         ·exact hea.out j u h hu
         ·subst h
          rw [hz.out] at hu
          cases hu
          exact hez)
        replace hez := hide hez
        go_wp2
        go_roundw
        case rel => exact ⟨i + 1, by go_num, hlti, hnx, hbY⟩
        case measure => simp [intOf]; omega
      ·have hall : Hid (∀ (j : Nat) z, j + 1 < x.length → x[j]? = some z → iends z.op = false) := hide (fun j u hj hu => hea.out j u (by have := hm.out; have := hlx.out; omega) hu)
       have hself := hbY
       have e6V := e6' Y hbY
       have hto0 : Hid (∀ t, t ∈ y.to.take 0 → 1 ≤ t ∧ t < (N : Int)) := hide (by simp)
       obtain rfl : i = m := by omega
       go_wp2
       go_loopw [13] (fun s13 wr => ∃ k : Nat, s13 = .int .i64 k ∧ k ≤ nt ∧ Hid (∀ t, t ∈ y.to.take k → 1 ≤ t ∧ t < (N : Int)) ∧ Below W.heap.size W wr) (fun s13 _ => nt - (intOf s13).toNat)
       case atStart => exact ⟨0, rfl, Nat.zero_le _, hto0, hself⟩
       case round =>
        clear hto0 hself
        rename World => U
        obtain ⟨k, rfl, hk, htk, hbU⟩ := hrel
        have hUs := hbU.size
        have q3U := q3 U hbU
        by_cases hltk : k < nt
        ·have hkk : (k : Int) < (nt : Int) := by omega
         obtain ⟨t, ht⟩ := get_ex (l := y.to) (k := k) (by rw [← hnt.out]; exact hltk)
         obtain ⟨b6, o6, hA6, he6⟩ := gt.out (by rw [← hnt.out]; omega)
         subst hA6
         obtain ⟨c, hc, r1⟩ := he6 k t ht.out
         have hc := hc.1
         cases hc
         have r1 : ∀ w', Below W.heap.size W w' → w'.cell? ⟨b6, o6 + k, none⟩ = some (.int .i64 t) := fun w' h => r1 w' (hwX.out w' h)
         have r1U := r1 U hbU
         clear he6
         by_cases ht1 : 1 ≤ t
         ·have s1 : ¬ t < 1 := by omega
          have s1' : decide (t < 1) = false := decide_eq_false s1
          by_cases ht2 : t < (N : Int)
          ·have s2 : ¬ t ≥ (N : Int) := by omega
           have s2' : decide ((N : Int) ≤ t) = false := decide_eq_false s2
           have hnx : Hid (∀ t, t ∈ y.to.take (k + 1) → 1 ≤ t ∧ t < (N : Int)) := hide (by
            rw [take_snoc ht.out]
            intro u hu
            rcases List.mem_append.1 hu with h | h
            ·exact htk.out u h
            ·rw [List.mem_singleton.1 h]; exact ⟨ht1, ht2⟩)
           go_upto_region 23 with (fail)
           go_quiet (fail)
           have hbZ : Below W.heap.size W _ := below_drewN hbU nq
           go_wp2
           go_roundw
           case rel => exact ⟨k + 1, by go_num, hltk, hnx, hbZ⟩
           case measure => simp [intOf]; omega
          ·have s2 : t ≥ (N : Int) := by omega
           have s2' : decide ((N : Int) ≤ t) = true := decide_eq_true s2
           have hfx : Hid ((8 : Int) = 0 ↔ BlocksOk f.blocks) := hide ⟨fun h => by omega, fun h => by
            obtain ⟨z, hz, -, -, h9⟩ := h.2 b x hx.out
            rw [hyl.out] at hz
            cases hz
            exact absurd (h9 t (List.mem_of_getElem? ht.out)).2 (by rw [← hN.out]; exact ht2)⟩
           go_upto_region 23 with (fail)
           go_quiet (fail)
           have hbZ : Below W.heap.size W _ := below_drewN hbU nq
           go_wp2_with (fail)
           refine (at08_any _ _ _ _ _).mono ?_
           rintro e X9 ⟨rfl, hb9⟩
           have hk9 : Below W.heap.size W X9 := hbZ.trans (hb9.mono hbZ.size)
           have hR9 : X9.heap[R]? = _ := (hk9.block R hRW).trans hR.out
           obtain ⟨z0, z1, z2, z3⟩ := four9 hR9
           obtain ⟨f0, f1, f2, f3⟩ := four9_free hR9
           go_wp2
           refine fault_ret (c := 8) (k := (n)) (b := b) (i := i) ?_ (by rfl) hfx.out (below9 (hwX.out X9 hk9) hRw.out)
           obtain ⟨y0, y1, y2, y3⟩ := fault9 (u0 := .int .i64 (8)) (u1 := .int .i64 (n)) (u2 := .int .i64 (b)) (u3 := .int .i64 (i)) hR9
           simp [results, Try.results45, go_sem, y0, y1, y2, y3]
         ·have s1 : t < 1 := by omega
          have s1' : decide (t < 1) = true := decide_eq_true s1
          have hfx : Hid ((8 : Int) = 0 ↔ BlocksOk f.blocks) := hide ⟨fun h => by omega, fun h => by
           obtain ⟨z, hz, -, -, h9⟩ := h.2 b x hx.out
           rw [hyl.out] at hz
           cases hz
           exact absurd (h9 t (List.mem_of_getElem? ht.out)).1 ht1⟩
          go_upto_region 23 with (fail)
          go_quiet (fail)
          have hbZ : Below W.heap.size W _ := below_drewN hbU nq
          go_wp2_with (fail)
          refine (at08_any _ _ _ _ _).mono ?_
          rintro e X9 ⟨rfl, hb9⟩
          have hk9 : Below W.heap.size W X9 := hbZ.trans (hb9.mono hbZ.size)
          have hR9 : X9.heap[R]? = _ := (hk9.block R hRW).trans hR.out
          obtain ⟨z0, z1, z2, z3⟩ := four9 hR9
          obtain ⟨f0, f1, f2, f3⟩ := four9_free hR9
          go_wp2
          refine fault_ret (c := 8) (k := (n)) (b := b) (i := i) ?_ (by rfl) hfx.out (below9 (hwX.out X9 hk9) hRw.out)
          obtain ⟨y0, y1, y2, y3⟩ := fault9 (u0 := .int .i64 (8)) (u1 := .int .i64 (n)) (u2 := .int .i64 (b)) (u3 := .int .i64 (i)) hR9
          simp [results, Try.results45, go_sem, y0, y1, y2, y3]
        ·have hnx : Hid (∀ (c : Nat) x, c < b + 1 → f.blocks[c]? = some x → BlkOk N x) := hide (fun c u hc hu => by
          rcases Nat.lt_succ_iff_lt_or_eq.1 hc with h | h
          ·exact hok.out c u h hu
          ·subst h
           rw [hx.out] at hu
           cases hu
           refine ⟨y, hyl.out, hen, hall.out, fun t ht => ?_⟩
           have h9 := htk.out
           rw [List.take_of_length_le (by rw [← hnt.out]; omega)] at h9
           exact h9 t ht)
         go_wp2
         go_roundw
         case rel => exact ⟨b + 1, by go_num, hlt, hnx, hbU⟩
         case measure => simp [intOf]; omega
  ·have hfx : Hid (BlocksOk f.blocks) := hide ⟨by rw [← hN.out, hfl.out]; exact ⟨g1, g2, g3⟩, fun c x hx => by rw [← hN.out]; exact hok.out c x (by have := (List.getElem?_eq_some_iff.1 hx).1; have := hN.out; omega) hx⟩
   have hR9 : V.heap[R]? = _ := (hbel.block R hRW).trans hR.out
   obtain ⟨z0, z1, z2, z3⟩ := four9 hR9
   obtain ⟨f0, f1, f2, f3⟩ := four9_free hR9
   go_wp2
   refine fault_ret (c := 0) (k := (0)) (b := 0) (i := 0) ?_ (by rfl) ⟨fun _ => hfx.out, fun _ => rfl⟩ (below9 (hwX.out V hbel) hRw.out)
   obtain ⟨y0, y1, y2, y3⟩ := fault9 (u0 := .int .i64 (0)) (u1 := .int .i64 (0)) (u2 := .int .i64 (0)) (u3 := .int .i64 (0)) hR9
   simp [results, Try.results45, go_sem, y0, y1, y2, y3]
end Go.Proofs.Ytamjcafjdioidaa
namespace Go.Proofs.Ytamjcafjdioidaa
open Go.RowKit
set_option linter.unusedSimpArgs false
set_option linter.unusedVariables false
def convB (op : Int) : Bool := op == 20 || op == 21 || op == 22
theorem ret_pair8 {r : Int × Int} {a b : Int} (h : r = (a, b)) : Ending.returned (.tuple #[.int .i64 a, .int .i64 b]) = .returned (.tuple #[.int .i64 r.1, .int .i64 r.2]) := by rw [h]
def manyS (ret : Int) (x : Ins) : Int × Int :=
 if x.op = 23 then (3, 0) else if x.op = 25 then (x.args.length, x.args.length) else if x.op = 30 then (x.args.length, 0) else if x.op = 26 ∨ x.op = 34 then (0, 0) else if x.op = 31 then (0, 1) else if x.op = 32 then (1, 2)
 else if x.op = 20 ∨ x.op = 21 ∨ x.op = 22 ∨ x.op = 24 ∨ x.op = 27 then (1, 0) else if x.op = 33 then (if ret = 0 then (0, 0) else (1, 0)) else if 1 ≤ x.op ∧ x.op ≤ 29 then (2, 0) else (-1, -1)
theorem conversion_any (op : Int) (w : World) : Calls Try.prog 95 #[.int .i64 op] w fun e w' => e = .returned (.bool (convB op)) ∧ w = w' := by
 go_enter Try.func95, Try.ntmps95
 go_wp2
 all_goals go_ret
 all_goals
  refine ⟨?_, rfl⟩
  simp [convB, *]
set_option maxRecDepth 100000 in
set_option maxHeartbeats 6400000 in
theorem many_any (f : Fun) (x : Ins) (A1 A2 A5 A6 : Option Addr) (np k1 N k2 k5 k6 : Nat) (w : World) :
  Calls Try.prog 94 #[f.v (.slice A1 np k1) (.slice A2 N k2), x.v (.slice A5 x.args.length k5) (.slice A6 x.to.length k6)] w fun e w' => e = .returned (.tuple #[.int .i64 (manyS f.ret x).1, .int .i64 (manyS f.ret x).2]) ∧ Below w.heap.size w w' := by
 obtain ⟨W, hW, hwW, hWs, hx, hy⟩ := boxes2 w #[.string f.name, .slice A1 np k1, .int .i64 f.ret, .slice A2 N k2] #[.int .i64 x.op, .int .i64 x.reg, .int .i64 x.ty, .int .i64 x.num, .int .i64 x.flags, .slice A5 x.args.length k5, .slice A6 x.to.length k6] 32 39
 have q2 := hx 2 _ rfl W (Below.refl _ _)
 have y0 := hy 0 _ rfl W (Below.refl _ _)
 have y5 := hy 5 _ rfl W (Below.refl _ _)
 clear hx hy
 replace hWs := hide hWs
 replace hW := hide hW
 replace hwW := hide hwW
 obtain ⟨op, hop⟩ : ∃ op, Hid (op = x.op) := ⟨_, hide rfl⟩
 have hm : Hid (manyS f.ret x = if op = 23 then (3, 0) else if op = 25 then ((x.args.length : Int), (x.args.length : Int)) else if op = 30 then ((x.args.length : Int), 0) else if op = 26 ∨ op = 34 then (0, 0) else if op = 31 then (0, 1) else if op = 32 then (1, 2)
  else if op = 20 ∨ op = 21 ∨ op = 22 ∨ op = 24 ∨ op = 27 then (1, 0) else if op = 33 then (if f.ret = 0 then (0, 0) else (1, 0)) else if 1 ≤ op ∧ op ≤ 29 then (2, 0) else (-1, -1)) := hide (by rw [hop.out]; rfl)
 obtain ⟨r, hr⟩ : ∃ r, Hid (r = manyS f.ret x) := ⟨_, hide rfl⟩
 rw [← hr.out] at hm ⊢
 rw [← hop.out] at y0
 have hself : True := trivial
 go_enter Try.func94, Try.ntmps94
 go_upto_region 1 with (fail)
 rw [hW.out]
 clear hW
 go_wp2
 all_goals go_ret2
 all_goals refine ⟨ret_pair8 ?_, hwW.out⟩
 all_goals
  have h := hm.out
  clear hm hr hop hwW hWs hself
  rw [h]
  try simp at *
  (repeat' split) <;> first | rfl | omega | (exfalso; omega)
end Go.Proofs.Ytamjcafjdioidaa
namespace Go.Proofs.Ytamjcafjdioidaa
open Go.RowKit
set_option linter.unusedSimpArgs false
set_option linter.unusedVariables false
def lateB (x : Ins) (b : Int) : Bool := if x.op = 26 then decide (b = 0 ∧ x.ty = 65 ∧ 1 ≤ x.num ∧ x.num ≤ 64) else if x.op = 29 then x.ty == 65 else if x.op = 31 ∨ x.op = 32 ∨ x.op = 34 then x.ty == 0 else true
def formedB (ret : Int) (x : Ins) (b : Int) : Bool :=
 decide ((manyS ret x).1 = x.args.length ∧ (manyS ret x).2 = x.to.length) && decide (iresult x.op x.ty = 0 ↔ x.reg = -1) && decide (x.num = 0 ∨ convB x.op = true ∨ x.op = 26 ∨ x.op = 30) && lateB x b
set_option maxRecDepth 100000 in
set_option maxHeartbeats 6400000 in
theorem formed_any (f : Fun) (x : Ins) (b : Int) (A1 A2 A5 A6 : Option Addr) (np k1 N k2 k5 k6 : Nat) (w : World) :
  Calls Try.prog 70 #[f.v (.slice A1 np k1) (.slice A2 N k2), x.v (.slice A5 x.args.length k5) (.slice A6 x.to.length k6), .int .i64 b] w (RetB (formedB f.ret x b) w) := by
 obtain ⟨ans, hans⟩ : ∃ ans, Hid (ans = formedB f.ret x b) := ⟨_, hide rfl⟩
 rw [← hans.out]
 obtain ⟨W, hW, hwW, hWs, hx, hy⟩ := boxes2 w #[.string f.name, .slice A1 np k1, .int .i64 f.ret, .slice A2 N k2] #[.int .i64 x.op, .int .i64 x.reg, .int .i64 x.ty, .int .i64 x.num, .int .i64 x.flags, .slice A5 x.args.length k5, .slice A6 x.to.length k6] 32 39
 have q0 : ∀ w', Below W.heap.size W w' → w'.cell? ⟨w.heap.size, 0, none⟩ = some (.string f.name) := hx 0 _ rfl
 have q1 : ∀ w', Below W.heap.size W w' → w'.cell? ⟨w.heap.size, 1, none⟩ = some (.slice A1 np k1) := hx 1 _ rfl
 have q2 : ∀ w', Below W.heap.size W w' → w'.cell? ⟨w.heap.size, 2, none⟩ = some (.int .i64 f.ret) := hx 2 _ rfl
 have q3 : ∀ w', Below W.heap.size W w' → w'.cell? ⟨w.heap.size, 3, none⟩ = some (.slice A2 N k2) := hx 3 _ rfl
 have y0 : ∀ w', Below W.heap.size W w' → w'.cell? ⟨w.heap.size + 1, 0, none⟩ = some (.int .i64 x.op) := hy 0 _ rfl
 have y1 : ∀ w', Below W.heap.size W w' → w'.cell? ⟨w.heap.size + 1, 1, none⟩ = some (.int .i64 x.reg) := hy 1 _ rfl
 have y2 : ∀ w', Below W.heap.size W w' → w'.cell? ⟨w.heap.size + 1, 2, none⟩ = some (.int .i64 x.ty) := hy 2 _ rfl
 have y3 : ∀ w', Below W.heap.size W w' → w'.cell? ⟨w.heap.size + 1, 3, none⟩ = some (.int .i64 x.num) := hy 3 _ rfl
 have y4 : ∀ w', Below W.heap.size W w' → w'.cell? ⟨w.heap.size + 1, 4, none⟩ = some (.int .i64 x.flags) := hy 4 _ rfl
 have y5 : ∀ w', Below W.heap.size W w' → w'.cell? ⟨w.heap.size + 1, 5, none⟩ = some (.slice A5 x.args.length k5) := hy 5 _ rfl
 have y6 : ∀ w', Below W.heap.size W w' → w'.cell? ⟨w.heap.size + 1, 6, none⟩ = some (.slice A6 x.to.length k6) := hy 6 _ rfl
 clear hx hy
 have hself := Below.refl W.heap.size W
 have hws : w.heap.size ≤ W.heap.size := by omega
 replace hWs := hide hWs
 replace hW := hide hW
 replace hwW := hide hwW
 have cM : Hid (∀ w', Below W.heap.size W w' → Calls Try.prog 94 #[f.v (.slice A1 np k1) (.slice A2 N k2), x.v (.slice A5 x.args.length k5) (.slice A6 x.to.length k6)] w' fun e w'' => e = .returned (.tuple #[.int .i64 (manyS f.ret x).1, .int .i64 (manyS f.ret x).2]) ∧ Below w'.heap.size w' w'') := hide (fun w' _ => many_any f x A1 A2 A5 A6 np k1 N k2 k5 k6 w')
 have cR : Hid (∀ w', Below W.heap.size W w' → Calls Try.prog 73 #[x.v (.slice A5 x.args.length k5) (.slice A6 x.to.length k6)] w' fun e w'' => e = .returned (.int .i64 (iresult x.op x.ty)) ∧ Below w'.heap.size w' w'') := hide (fun w' _ => rresult_any x _ _ w')
 obtain ⟨r1, hr1⟩ : ∃ r1, Hid (r1 = (manyS f.ret x).1) := ⟨_, hide rfl⟩
 obtain ⟨r2, hr2⟩ : ∃ r2, Hid (r2 = (manyS f.ret x).2) := ⟨_, hide rfl⟩
 obtain ⟨rs, hrs⟩ : ∃ rs, Hid (rs = iresult x.op x.ty) := ⟨_, hide rfl⟩
 rw [← hr1.out, ← hr2.out] at cM
 rw [← hrs.out] at cR
 have hA : Hid (ans = (decide (r1 = x.args.length ∧ r2 = x.to.length) && decide (rs = 0 ↔ x.reg = -1) && decide (x.num = 0 ∨ convB x.op = true ∨ x.op = 26 ∨ x.op = 30) && lateB x b)) := hide (by rw [hans.out, hr1.out, hr2.out, hrs.out]; rfl)
 go_enter Try.func70, Try.ntmps70
 go_upto_region 1 with (fail)
 rw [hW.out]
 clear hW
 go_wp2_with (fail)
 refine (cM.out _ hself).mono ?_
 rintro e V ⟨rfl, hb1⟩
 have hfin := hide (hwW.out.trans (hb1.mono hws))
 by_cases h1 : r1 = x.args.length
 case neg =>
  have a1 : (r1 != (x.args.length : Int)) = true := by simpa using h1
  have hfx : Hid (ans = false) := hide (by rw [hA.out]; simp [h1])
  replace h1 := hide h1
  go_wp2
  go_ret
  exact ⟨by rw [hfx.out]; rfl, hfin.out⟩
 have a1 : (r1 != (x.args.length : Int)) = false := by rw [h1]; simp
 by_cases h2 : r2 = x.to.length
 case neg =>
  have a2 : (r2 != (x.to.length : Int)) = true := by simpa using h2
  have hfx : Hid (ans = false) := hide (by rw [hA.out]; simp [h2])
  replace h1 := hide h1
  replace h2 := hide h2
  go_wp2
  go_ret
  exact ⟨by rw [hfx.out]; rfl, hfin.out⟩
 have a2 : (r2 != (x.to.length : Int)) = false := by rw [h2]; simp
 have hA2 : Hid (ans = (decide (rs = 0 ↔ x.reg = -1) && decide (x.num = 0 ∨ convB x.op = true ∨ x.op = 26 ∨ x.op = 30) && lateB x b)) := hide (by rw [hA.out]; simp [h1, h2])
 replace h1 := hide h1
 replace h2 := hide h2
 clear hA
 obtain ⟨tb, htb⟩ : ∃ tb, Hid (tb = !((rs == 0) == (x.reg == -1))) := ⟨_, hide rfl⟩
 have htb2 : Hid (decide (rs = 0 ↔ x.reg = -1) = !tb) := hide (by
  rw [htb.out, Bool.not_not, Bool.eq_iff_iff, decide_eq_true_eq, beq_iff_eq, Bool.eq_iff_iff, beq_iff_eq, beq_iff_eq])
 go_upto_region 4 with (fail)
 refine region_below (by kernel_rfl) (by kernel_rfl) hb1 ?_
 repeat (first
  | go_big_quiet_skip
  | (go_big_quiet_want; go_big_quiet_op; go_big_quiet_on)
  | (go_big_quiet_want
     apply Exists.intro
     refine ⟨fun w9 hw9 => ?_, ?_⟩
     ·go_simp
      first
       | with_reducible exact (ret_class (cR.out _ hw9) hw9)
       | rfl
     go_simp
     go_big_quiet_on))
 refine wpQuiet_nil ?_
 intro w9 hw9
 rw [← htb.out]
 have hfin := hide (hwW.out.trans (hw9.mono hws))
 rw [htb2.out] at hA2
 cases tb with
 | true =>
  have hfx : Hid (ans = false) := hide (by rw [hA2.out]; rfl)
  go_wp2
  go_ret
  exact ⟨by rw [hfx.out]; rfl, hfin.out⟩
 | false =>
  obtain ⟨cb, hcb⟩ : ∃ cb, Hid (convB x.op = cb) := ⟨_, hide rfl⟩
  go_wp2_with (fail)
  refine (conversion_any x.op _).mono ?_
  rintro e w8 ⟨rfl, hw8⟩
  subst hw8
  rw [hcb.out]
  have hA3 : Hid (ans = (decide (x.num = 0 ∨ cb = true ∨ x.op = 26 ∨ x.op = 30) && lateB x b)) := hide (by rw [hA2.out, hcb.out]; rfl)
  have z0 := y0 w9 hw9
  have z2 := y2 w9 hw9
  have z3 := y3 w9 hw9
  clear y0 y1 y2 y3 y4 y5 y6 q0 q1 q2 q3 hb1 hw9 hself
  obtain ⟨op, hop⟩ : ∃ op, Hid (op = x.op) := ⟨_, hide rfl⟩
  obtain ⟨nm, hnm⟩ : ∃ nm, Hid (nm = x.num) := ⟨_, hide rfl⟩
  obtain ⟨ty, hty⟩ : ∃ ty, Hid (ty = x.ty) := ⟨_, hide rfl⟩
  have hA4 : Hid (ans = (decide (nm = 0 ∨ cb = true ∨ op = 26 ∨ op = 30) && (if op = 26 then decide (b = 0 ∧ ty = 65 ∧ 1 ≤ nm ∧ nm ≤ 64) else if op = 29 then ty == 65 else if op = 31 ∨ op = 32 ∨ op = 34 then ty == 0 else true))) := hide (by rw [hA3.out, hop.out, hnm.out, hty.out]; rfl)
  rw [← hop.out] at z0
  rw [← hty.out] at z2
  rw [← hnm.out] at z3
  clear hA2 hA3
  cases cb with
  | true =>
   go_wp2
   all_goals go_ret
   all_goals refine ⟨ret_bool ?_, hfin.out⟩
   all_goals
    have h := hA4.out
    clear hA4 hop hnm hty hcb hans hrs hr1 hr2 htb2 htb cM cR hfin z0 z2 z3
    rw [h, Bool.eq_iff_iff]
    try simp at *
    try ((repeat' split) <;> first | rfl | omega | (simp; omega) | (exfalso; omega))
  | false =>
   go_wp2
   all_goals go_ret
   all_goals refine ⟨ret_bool ?_, hfin.out⟩
   all_goals
    have h := hA4.out
    clear hA4 hop hnm hty hcb hans hrs hr1 hr2 htb2 htb cM cR hfin z0 z2 z3
    rw [h, Bool.eq_iff_iff]
    try simp at *
    try ((repeat' split) <;> first | rfl | omega | (simp; omega) | (exfalso; omega))
end Go.Proofs.Ytamjcafjdioidaa
