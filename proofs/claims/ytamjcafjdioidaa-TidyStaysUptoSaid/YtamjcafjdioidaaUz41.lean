/- Texts of the chain, without what is not wanted: GrY, VrP. No condition but sizes. -/
import Derived.WalkKit
import Derived.Deep.Slices
import Derived.Deep.Draws
import Derived.ChangeSame
import Derived.ChangeOld
import Derived.OwnWalk
import Derived.Laws.OwnMore
import Derived.Deep.AppendLies
import Derived.Test.YtamjcafjdioidaaRows
import Derived.ProofKit
import Derived.OpenShut
import Derived.JoinedCond
import Derived.WalkSpells
import Derived.WalkLawsBesides
import Derived.Deep.RegionHeld3
import Derived.Deep.LoopGhost
import Derived.Deep.QuietTactic
import Derived.BigQuiet
import Derived.Deep.DeepCutAuto
import Derived.Deep.CutBlock
import Derived.StillTailTactics
import Derived.Deep.RegionLaw
import Derived.Laws.Externs
import Derived.Laws.Bits64b
import Derived.Lib.Mul64
import Derived.Lib.SliceRun
import Derived.Test.YtamjcafjdioidaaUz01
import Derived.Test.YtamjcafjdioidaaUz02
import Derived.Test.YtamjcafjdioidaaUz04
import Derived.Test.YtamjcafjdioidaaUz05
import Derived.Test.YtamjcafjdioidaaUz06
import Derived.Test.YtamjcafjdioidaaUz14
import Derived.Test.YtamjcafjdioidaaUz15
import Derived.Test.YtamjcafjdioidaaUz33
import Derived.Test.YtamjcafjdioidaaUz34
import Derived.Test.YtamjcafjdioidaaUz35
import Derived.Test.YtamjcafjdioidaaUz36
import Derived.Test.YtamjcafjdioidaaUz37
import Derived.Test.YtamjcafjdioidaaUz38
import Derived.Test.YtamjcafjdioidaaUz39
import Derived.Test.YtamjcafjdioidaaUz40
namespace Go.Proofs.Ytamjcafjdioidaa
open Go.RowKit
set_option linter.unusedSimpArgs false
set_option linter.unusedVariables false
theorem OwnL.kept {w w' : World} {B : Nat} {no : Option Nat} {v : Value} {ls : List (List Int)} {cs : List Value} (h : OwnL w B no v ls cs) (hk : ∀ k, B ≤ k → k < w.heap.size → w'.heap[k]? = w.heap[k]?) : OwnL w' B no v ls cs :=
 ⟨row_kept h.row fun k hv => hk k (row_lt h.row hv).1 (row_lt h.row hv).2.1, fun i c l hc hl => (h.inn i c l hc hl).kept hk, h.apart, h.far⟩
end Go.Proofs.Ytamjcafjdioidaa

namespace Go.Proofs.Ytamjcafjdioidaa
open Go.RowKit
set_option linter.unusedSimpArgs false
set_option linter.unusedVariables false
def OpdsAt (m : Mod) (f : Fun) (x : Ins) (p : Plc) : Prop := ∀ (k : Nat) v, x.args[k]? = some v → OpdOk m f v (wantedS m x k)
def OpdsOk (m : Mod) (f : Fun) : Prop := AllAt f (OpdsAt m f)
set_option maxRecDepth 100000 in
set_option maxHeartbeats 6400000 in
theorem operands08_any (m : Mod) (f : Fun) (n : Int) (m1 m2 m3 c1 c2 : Value) (w : World) (B : Nat) (hB : B ≤ w.heap.size) (ha : RMod.rep w B [m1, m2, m3] m) (hf : RFun.rep w B [.string f.name, c1, .int .i64 f.ret, c2] f) (hsz : funSz f ≤ 2000000) (hfo : FormsOk m f) :
  Calls Try.prog 48 #[m.v m1 m2 m3, f.v c1 c2, .int .i64 n] w (FaultPost (OpdsOk m f) w) := by
 have hs : Small f := small_of hsz
 obtain ⟨PP, hPP⟩ : ∃ PP : Prop, Hid (PP = OpdsOk m f) := ⟨_, hide rfl⟩
 rw [← hPP.out]
 have hv1m : ∀ M1 v1 j1, m1 = .slice M1 v1 j1 → v1 = m.vars.length := fun M1 v1 j1 h => by
  obtain ⟨A, k, e1, -, -⟩ := Rp.slice_open (mod_open ha).1
  rw [h] at e1
  cases e1; rfl
 obtain ⟨hp, hb⟩ := fun_open (RFun.later hf (Below.refl _ _) hB)
 obtain ⟨A1, k1, h1, hm1, gp⟩ := Rp.slice1_open hp
 obtain ⟨A2, k2, h2, hm2, gb⟩ := Rp.slice1_open hb
 cases h1; cases h2
 replace gp := hide gp
 replace gb := hide gb
 clear hp hb
 obtain ⟨M1, v1, j1, M2, v2, j2, M3, v3, j3, hmf⟩ := mod_forms ha
 obtain ⟨e1, e2, e3⟩ := hmf
 subst e1 e2 e3
 obtain ⟨N, hN⟩ : ∃ N, Hid (N = f.blocks.length) := ⟨_, hide rfl⟩
 obtain ⟨np, hnp⟩ : ∃ np, Hid (np = f.params.length) := ⟨_, hide rfl⟩
 have hNle : N ≤ 2000000 := by rw [hN.out]; exact hs.blocks
 rw [← hN.out, ← hnp.out] at hf ⊢
 rw [← hN.out] at hm2
 rw [← hnp.out] at hm1
 obtain ⟨W, hW, hwW, hWs, hu, hx, hy⟩ := boxes3 w #[.slice M1 v1 j1, .slice M2 v2 j2, .slice M3 v3 j3] #[.string f.name, .slice A1 np k1, .int .i64 f.ret, .slice A2 N k2] #[.int .i64 0, .int .i64 0, .int .i64 0, .int .i64 0] 26 32 58
 have p0 : ∀ w', Below W.heap.size W w' → w'.cell? ⟨w.heap.size, 0, none⟩ = some (.slice M1 v1 j1) := hu 0 _ rfl
 have p1 : ∀ w', Below W.heap.size W w' → w'.cell? ⟨w.heap.size, 1, none⟩ = some (.slice M2 v2 j2) := hu 1 _ rfl
 have p2 : ∀ w', Below W.heap.size W w' → w'.cell? ⟨w.heap.size, 2, none⟩ = some (.slice M3 v3 j3) := hu 2 _ rfl
 have q0 : ∀ w', Below W.heap.size W w' → w'.cell? ⟨w.heap.size + 1, 0, none⟩ = some (.string f.name) := hx 0 _ rfl
 have q1 : ∀ w', Below W.heap.size W w' → w'.cell? ⟨w.heap.size + 1, 1, none⟩ = some (.slice A1 np k1) := hx 1 _ rfl
 have q2 : ∀ w', Below W.heap.size W w' → w'.cell? ⟨w.heap.size + 1, 2, none⟩ = some (.int .i64 f.ret) := hx 2 _ rfl
 have q3 : ∀ w', Below W.heap.size W w' → w'.cell? ⟨w.heap.size + 1, 3, none⟩ = some (.slice A2 N k2) := hx 3 _ rfl
 obtain ⟨R, hRd⟩ : ∃ R, Hid (R = w.heap.size + 1 + 1) := ⟨_, hide rfl⟩
 have hR : Hid (W.heap[R]? = some (.cells #[.int .i64 0, .int .i64 0, .int .i64 0, .int .i64 0] 58 (0, 0))) := hide (by
  rw [hRd.out, ← hW]
  have := box_top ((w.alloc (.cells #[.slice M1 v1 j1, .slice M2 v2 j2, .slice M3 v3 j3] 26)).alloc (.cells #[.string f.name, .slice A1 np k1, .int .i64 f.ret, .slice A2 N k2] 32)) (.cells #[.int .i64 0, .int .i64 0, .int .i64 0, .int .i64 0] 58)
  simpa using this)
 have hRW : R < W.heap.size := by have := hRd.out; omega
 have hRw : Hid (w.heap.size ≤ R) := hide (by have := hRd.out; omega)
 clear hu hx hy
 have hws : w.heap.size ≤ W.heap.size := by omega
 have hwX : Hid (∀ w', Below W.heap.size W w' → Below w.heap.size w w') := hide (fun w' h => hwW.trans (h.mono hws))
 have hF : Hid (∀ w', Below W.heap.size W w' → RFun.rep w' w'.heap.size [.string f.name, .slice A1 np k1, .int .i64 f.ret, .slice A2 N k2] f) := hide (fun w' h => RFun.later hf ((hwX.out w' h).mono hB) (Nat.le_trans hB (hwX.out w' h).size))
 have hMo : Hid (∀ w', Below W.heap.size W w' → RMod.rep w' w'.heap.size [.slice M1 v1 j1, .slice M2 v2 j2, .slice M3 v3 j3] m) := hide (fun w' h => RMod.later ha ((hwX.out w' h).mono hB) (Nat.le_trans hB (hwX.out w' h).size))
 replace ha := hide ha
 have hv1 : Hid (v1 = m.vars.length) := hide (hv1m _ _ _ rfl)
 clear hv1m
 have hCo : Hid (∀ w', Below W.heap.size W w' → Calls Try.prog 30 #[f.v (.slice A1 np k1) (.slice A2 N k2)] w' (CodePost f w')) := hide (fun w' h => code_any f _ _ w' w'.heap.size (Nat.le_refl _) (fun_open (hF.out w' h)).1 (fun_open (hF.out w' h)).2 (by have := flat_len f; omega))
 have hzb : Hid (∀ x, x ∈ f.blocks → x.length ≤ 2000000) := hide (fun x hx => (hs.code x hx).1)
 replace hs := hide hs
 replace hf := hide hf
 replace hWs := hide hWs
 have hself := Below.refl W.heap.size W
 replace hW := hide hW
 replace hwW := hide hwW
 go_enter Try.func48, Try.ntmps48
 go_upto_region 1 with (fail)
 rw [hW.out, ← hRd.out]
 clear hW
 go_wp2_with (fail)
 refine (hCo.out _ hself).mono ?_
 rintro e V0 ⟨vl, vp, rfl, hb0, hl, hpl⟩
 obtain ⟨A3, k3, h3, hm3, gl⟩ := Rp.slice_open hl
 obtain ⟨A4, k4, h4, hm4, gpl⟩ := Rp.slice_open hpl
 cases h3; cases h4
 have hpp : (beforeP f.blocks f.blocks.length 0).length = f.blocks.flatten.length := by rw [beforeP_length _ _ (.inl rfl) (Nat.le_refl _), before_end]
 have hbV0 := hself.trans (hb0.mono hself.size)
 replace gl := hide gl
 replace gpl := hide gpl
 obtain ⟨l, hll⟩ : ∃ l : List Ins, Hid (l = f.blocks.flatten) := ⟨_, hide rfl⟩
 obtain ⟨pl, hpll⟩ : ∃ pl : List Plc, Hid (pl = beforeP f.blocks f.blocks.length 0) := ⟨_, hide rfl⟩
 rw [← hll.out] at gl hpp hm3 ⊢
 rw [← hpll.out] at gpl hpp hm4 ⊢
 obtain ⟨nl, hnl⟩ : ∃ nl, Hid (nl = l.length) := ⟨_, hide rfl⟩
 rw [hpp, ← hnl.out] at gpl hm4 ⊢
 rw [← hnl.out] at gl hm3
 have hpl2 : Hid (pl.length = nl) := hide (by rw [hpp, hnl.out])
 clear hl hpl hpp hb0
 have hPP : Hid (PP = ∀ (i : Nat) x p, l[i]? = some x → pl[i]? = some p → OpdsAt m f x p) := hide (by rw [hPP.out, hll.out, hpll.out]; rfl)
 have hfo : Hid (∀ (i : Nat) x p, l[i]? = some x → pl[i]? = some p → FormOk m f.ret x p.blk) := hide (by rw [hll.out, hpll.out]; exact hfo)
 have hnl2 : nl ≤ 2000000 := by have h1 := flat_len f; rw [hnl.out, hll.out]; omega
 have hself0 := Below.refl V0.heap.size V0
 have hok0 : Hid (∀ (j : Nat) x p, j < 0 → l[j]? = some x → pl[j]? = some p → OpdsAt m f x p) := hide (fun j x p h => by omega)
 have h0W : Hid (∀ w', Below V0.heap.size V0 w' → Below W.heap.size W w') := hide (fun w' h => hbV0.trans (h.mono hbV0.size))
 have pp0 : ∀ w', Below V0.heap.size V0 w' → w'.cell? ⟨w.heap.size, 0, none⟩ = some (.slice M1 v1 j1) := fun w' h => p0 w' (h0W.out w' h)
 have pp1 : ∀ w', Below V0.heap.size V0 w' → w'.cell? ⟨w.heap.size, 1, none⟩ = some (.slice M2 v2 j2) := fun w' h => p1 w' (h0W.out w' h)
 have pp2 : ∀ w', Below V0.heap.size V0 w' → w'.cell? ⟨w.heap.size, 2, none⟩ = some (.slice M3 v3 j3) := fun w' h => p2 w' (h0W.out w' h)
 have qq0 : ∀ w', Below V0.heap.size V0 w' → w'.cell? ⟨w.heap.size + 1, 0, none⟩ = some (.string f.name) := fun w' h => q0 w' (h0W.out w' h)
 have qq1 : ∀ w', Below V0.heap.size V0 w' → w'.cell? ⟨w.heap.size + 1, 1, none⟩ = some (.slice A1 np k1) := fun w' h => q1 w' (h0W.out w' h)
 have qq2 : ∀ w', Below V0.heap.size V0 w' → w'.cell? ⟨w.heap.size + 1, 2, none⟩ = some (.int .i64 f.ret) := fun w' h => q2 w' (h0W.out w' h)
 have qq3 : ∀ w', Below V0.heap.size V0 w' → w'.cell? ⟨w.heap.size + 1, 3, none⟩ = some (.slice A2 N k2) := fun w' h => q3 w' (h0W.out w' h)
 clear p0 p1 p2 q0 q1 q2 q3 hself hbV0
 go_wp2
 go_loopw [9, 10, 11] (fun s9 _ _ wr => ∃ i : Nat, s9 = .int .i64 i ∧ i ≤ nl ∧ Hid (∀ (j : Nat) x p, j < i → l[j]? = some x → pl[j]? = some p → OpdsAt m f x p) ∧ Below V0.heap.size V0 wr) (fun s9 _ _ _ => nl - (intOf s9).toNat)
 case atStart => exact ⟨0, rfl, Nat.zero_le _, hok0, hself0⟩
 case round =>
  clear hok0 hself0
  rename World => V
  obtain ⟨i, rfl, hi, hok, hbel0⟩ := hrel
  have hVs := hbel0.size
  by_cases hlt : i < nl
  ·have hii : (i : Int) < (nl : Int) := by omega
   obtain ⟨x, hx⟩ := get_ex (l := l) (k := i) (by rw [← hnl.out]; exact hlt)
   obtain ⟨p, hp⟩ := get_ex (l := pl) (k := i) (by rw [hpl2.out]; exact hlt)
   obtain ⟨b3, o3, hA3, he3⟩ := gl.out (by omega)
   subst hA3
   obtain ⟨b4, o4, hA4, he4⟩ := gpl.out (by omega)
   subst hA4
   obtain ⟨_, _, ⟨a1', a2', rfl, hra, hrt, -, hI2, hI3, hI4, hI5⟩, hcx⟩ := he3 i x hx.out
   obtain ⟨A5, k5, h5, hm5, ga⟩ := Rp.slice_open hra
   obtain ⟨A6, k6, h6, hm6, gt⟩ := Rp.slice1_open hrt
   cases h5; cases h6
   replace ga := hide ga
   replace gt := hide gt
   obtain ⟨es4, hel4, hr4, hcp⟩ := he4 i p hp.out
   have hr4 := hr4.1
   subst hr4
   obtain ⟨x0, x1, x2, x3, x4, x5, x6⟩ := hcx.seven
   obtain ⟨t0, t1, t2⟩ := hcp.three
   clear he3 he4 hcx hcp hra hrt hel4
   obtain ⟨na, hna⟩ : ∃ na, Hid (na = x.args.length) := ⟨_, hide rfl⟩
   obtain ⟨nt, hnt⟩ : ∃ nt, Hid (nt = x.to.length) := ⟨_, hide rfl⟩
   rw [← hna.out] at hm5 x5
   rw [← hnt.out] at hm6 x6
   have hcal : Hid (∀ k : Nat, k < na → x.op = 30 → k < (calleeS m x.num).1.length) := hide (fun k hk ho => by
    obtain ⟨-, -, h9⟩ := hfo.out i x p hx.out hp.out
    unfold TypedOk at h9
    rw [if_neg (by unfold convB; rw [ho]; simp), if_pos ho] at h9
    rw [h9.2.2, ← hna.out]
    exact hk)
   have hselfi := hbel0
   have hoki : Hid (∀ (j : Nat) v, j < 0 → x.args[j]? = some v → OpdOk m f v (wantedS m x j)) := hide (fun j v h => by omega)
   clear hbel0 hVs
   go_wp2
   go_loopw [10, 11] (fun s10 _ wr => ∃ k : Nat, s10 = .int .i64 k ∧ k ≤ na ∧ Hid (∀ (j : Nat) v, j < k → x.args[j]? = some v → OpdOk m f v (wantedS m x j)) ∧ Below V0.heap.size V0 wr) (fun s10 _ _ => na - (intOf s10).toNat)
   case atStart => exact ⟨0, rfl, Nat.zero_le _, hoki, hselfi⟩
   case round =>
    clear hoki hselfi
    rename World => Y
    obtain ⟨k, rfl, hk, hokk, hbY⟩ := hrel
    have hYs := hbY.size
    have hbYW := h0W.out Y hbY
    by_cases hltk : k < na
    ·have hkk : (k : Int) < (na : Int) := by omega
     obtain ⟨v, hv⟩ := get_ex (l := x.args) (k := k) (by rw [← hna.out]; exact hltk)
     obtain ⟨b5, o5, hA5, he5⟩ := ga.out (by rw [← hna.out]; omega)
     subst hA5
     obtain ⟨es5, hel5, hr5, hc5⟩ := he5 k v hv.out
     have hr5 := hr5.1
     subst hr5
     obtain ⟨s0, s1, s2⟩ := hc5.three
     clear he5 hc5 hel5
     obtain ⟨want, hwt⟩ : ∃ want, Hid (wantedS m x k = want) := ⟨_, hide rfl⟩
     have cWa : Hid (∀ w', Below V0.heap.size V0 w' → Calls Try.prog 76 #[m.v (.slice M1 v1 j1) (.slice M2 v2 j2) (.slice M3 v3 j3), x.v (.slice (some ⟨b5, o5, none⟩) na k5) (.slice A6 nt k6), .int .i64 k] w' fun e w'' => e = .returned (.int .i64 want) ∧ Below w'.heap.size w' w'') := hide (fun w' h => by
      have := wanted_any m x k M1 M2 M3 (some ⟨b5, o5, none⟩) A6 v1 v2 v3 j1 j2 j3 na nt k5 k6 w' w'.heap.size (Nat.le_refl _) (hMo.out w' (h0W.out w' h)) (i64_in8 hI4) (hcal.out k hltk)
      rwa [hwt.out] at this)
     have cOp : Hid (∀ w', Below V0.heap.size V0 w' → Calls Try.prog 75 #[m.v (.slice M1 v1 j1) (.slice M2 v2 j2) (.slice M3 v3 j3), f.v (.slice A1 np k1) (.slice A2 N k2), .agg #[.int .i64 v.kind, .int .i64 v.num, .int .u64 v.bits], .int .i64 want] w' (CodePost8 (OpdOk m f v want) w')) := hide (fun w' h => operand_any m f v want M1 M2 M3 A1 A2 v1 v2 v3 j1 j2 j3 np k1 N k2 w' w'.heap.size (Nat.le_refl _) hv1.out (hF.out w' (h0W.out w' h)) hsz)
     have hno : Hid (¬ OpdOk m f v want → ¬ PP) := hide (fun h1 h2 => h1 (by rw [hPP.out] at h2; rw [← hwt.out]; exact h2 i x p hx.out hp.out k v hv.out))
     have hbd := hbY.drew
     go_upto_region 8 with (fail)
     go_region_held3 (fun w' => Below V0.heap.size V0 w') (first | (with_reducible assumption) | exact hbd)
      (first
       | (go_at_call 75; refine (cOp.out _ hk1).mono ?_; rintro e X2 ⟨ec, rfl, hec, hb⟩; have hk2 : Below V0.heap.size V0 X2 := hk1.trans (hb.mono hk1.size); clear hb)
       | (go_at_call 76; refine (cWa.out _ hbd).mono ?_; rintro e X1 ⟨rfl, hb⟩; have hk1 : Below V0.heap.size V0 X1 := hbd.trans (hb.mono hbd.size); clear hb))
     have hbel2 := h0W.out X2 hk2
     by_cases hc0 : ec = 0
     ·have e1 : (ec != 0) = false := by rw [hc0]; rfl
      have hnx : Hid (∀ (j : Nat) v, j < k + 1 → x.args[j]? = some v → OpdOk m f v (wantedS m x j)) := hide (fun j u hj hu => by
       rcases Nat.lt_succ_iff_lt_or_eq.1 hj with h | h
       ·exact hokk.out j u h hu
       ·subst h
        rw [hv.out] at hu
        cases hu
        rw [hwt.out]
        exact hec.1 hc0)
      replace hc0 := hide hc0
      replace hec := hide hec
      go_wp2
      go_roundw
      case rel => exact ⟨k + 1, by go_num, hltk, hnx, hk2⟩
      case measure => simp [intOf]; omega
     ·have e1 : (ec != 0) = true := by simpa using hc0
      have hfx : Hid (ec = 0 ↔ PP) := hide ⟨fun h => absurd h hc0, fun h => absurd h (hno.out fun h9 => hc0 (hec.2 h9))⟩
      replace hc0 := hide hc0
      replace hec := hide hec
      go_upto_region 10 with (fail)
      have hbe := hbel2.drew
      go_still_tail 12, (by kernel_rfl)
      change wpList _ _ _ _ _ X2.drew
      go_wp2_with (fail)
      refine (at08_any _ _ _ _ _).mono ?_
      rintro e X9 ⟨rfl, hb9⟩
      have hk9 : Below W.heap.size W X9 := hbe.trans (hb9.mono hbe.size)
      have hR9 : X9.heap[R]? = _ := (hk9.block R hRW).trans hR.out
      obtain ⟨z0, z1, z2, z3⟩ := four9 hR9
      obtain ⟨f0, f1, f2, f3⟩ := four9_free hR9
      go_wp2
      refine fault_ret (c := ec) (k := (n)) (b := p.blk) (i := p.pos) ?_ (by rfl) hfx.out (below9 (hwX.out X9 hk9) hRw.out)
      obtain ⟨y0, y1, y2, y3⟩ := fault9 (u0 := .int .i64 (ec)) (u1 := .int .i64 (n)) (u2 := .int .i64 (p.blk)) (u3 := .int .i64 (p.pos)) hR9
      simp [results, Try.results48, go_sem, y0, y1, y2, y3]
    ·have hnx : Hid (∀ (j : Nat) x p, j < i + 1 → l[j]? = some x → pl[j]? = some p → OpdsAt m f x p) := hide (fun j y q hj hy hq => by
      rcases Nat.lt_succ_iff_lt_or_eq.1 hj with h | h
      ·exact hok.out j y q h hy hq
      ·subst h
       rw [hx.out] at hy
       rw [hp.out] at hq
       cases hy; cases hq
       exact fun k' v hv => hokk.out k' v (by have := (List.getElem?_eq_some_iff.1 hv).1; have := hna.out; omega) hv)
     go_wp2
     go_roundw
     case rel => exact ⟨i + 1, by go_num, hlt, hnx, hbY⟩
     case measure => simp [intOf]; omega
  ·have hbel := h0W.out V hbel0
   have hfx : Hid PP := hide (by rw [hPP.out]; exact fun j x p hx hp => hok.out j x p (by have := (List.getElem?_eq_some_iff.1 hx).1; have := hnl.out; omega) hx hp)
   have hR9 : V.heap[R]? = _ := (hbel.block R hRW).trans hR.out
   obtain ⟨z0, z1, z2, z3⟩ := four9 hR9
   obtain ⟨f0, f1, f2, f3⟩ := four9_free hR9
   go_wp2
   refine fault_ret (c := 0) (k := (0)) (b := 0) (i := 0) ?_ (by rfl) ⟨fun _ => hfx.out, fun _ => rfl⟩ (below9 (hwX.out V hbel) hRw.out)
   obtain ⟨y0, y1, y2, y3⟩ := fault9 (u0 := .int .i64 (0)) (u1 := .int .i64 (0)) (u2 := .int .i64 (0)) (u3 := .int .i64 (0)) hR9
   simp [results, Try.results48, go_sem, y0, y1, y2, y3]
end Go.Proofs.Ytamjcafjdioidaa
namespace Go.Proofs.Ytamjcafjdioidaa
open Go.RowKit
set_option linter.unusedSimpArgs false
set_option linter.unusedVariables false
def AheadOk (f : Fun) (b k : Nat) : Prop := ∀ blk, f.blocks[b]? = some blk → ∀ (i : Nat) y, i < k → blk[i]? = some y → y.op = 25
def PhiAt (f : Fun) (x : Ins) (p : Plc) : Prop := x.op = 25 → ∀ b j : Nat, p = ⟨0, b, j⟩ → b ≠ 0 ∧ (predsL (succsF f.blocks) f.blocks.length)[b]? = some x.to ∧ AheadOk f b j
def PhisOk (f : Fun) : Prop := AllAt f (PhiAt f)
open Classical in
noncomputable def dec8 (P : Prop) : Bool := decide P
theorem dec8_iff {P : Prop} : dec8 P = true ↔ P := by unfold dec8; exact @decide_eq_true_iff _ (Classical.propDecidable _)
theorem row_cell9 {X : World} {B g n : Nat} {no : Option Nat} {ls : List (List Int)} {cs : List Value} {t : Nat} {c : Value} (h : OwnL X B no (.slice (some ⟨g, 0, none⟩) n n) ls cs) (hn : ls.length = n) (hc : cs[t]? = some c) : X.cell? ⟨g, t, none⟩ = some c := by
 subst hn
 have hl : t < ls.length := by rw [← h.len]; exact (List.getElem?_eq_some_iff.1 hc).1
 rw [World.ownsRow.cellAt h.row t (by omega)]
 exact hc
set_option maxRecDepth 100000 in
set_option maxHeartbeats 6400000 in
theorem phis08_any (f : Fun) (n : Int) (c1 c2 : Value) (w : World) (B : Nat) (hB : B ≤ w.heap.size) (hf : RFun.rep w B [.string f.name, c1, .int .i64 f.ret, c2] f) (hsz : funSz f ≤ 2000000) :
  Calls Try.prog 49 #[f.v c1 c2, .int .i64 n] w (FaultPost (PhisOk f) w) := by
 have hs : Small f := small_of hsz
 obtain ⟨PP, hPP⟩ : ∃ PP : Prop, Hid (PP = PhisOk f) := ⟨_, hide rfl⟩
 rw [← hPP.out]
 obtain ⟨hp, hb⟩ := fun_open (RFun.later hf (Below.refl _ _) hB)
 obtain ⟨A1, k1, h1, hm1, gp⟩ := Rp.slice1_open hp
 obtain ⟨A2, k2, h2, hm2, gb⟩ := Rp.slice1_open hb
 cases h1; cases h2
 replace gp := hide gp
 replace gb := hide gb
 clear hp hb
 obtain ⟨N, hN⟩ : ∃ N, Hid (N = f.blocks.length) := ⟨_, hide rfl⟩
 obtain ⟨np, hnp⟩ : ∃ np, Hid (np = f.params.length) := ⟨_, hide rfl⟩
 have hNle : N ≤ 2000000 := by rw [hN.out]; exact hs.blocks
 rw [← hN.out, ← hnp.out] at hf ⊢
 rw [← hN.out] at hm2
 rw [← hnp.out] at hm1
 obtain ⟨W, hW, hwW, hWs, hx, hy⟩ := boxes2 w #[.string f.name, .slice A1 np k1, .int .i64 f.ret, .slice A2 N k2] #[.int .i64 0, .int .i64 0, .int .i64 0, .int .i64 0] 32 58
 have q0 : ∀ w', Below W.heap.size W w' → w'.cell? ⟨w.heap.size, 0, none⟩ = some (.string f.name) := hx 0 _ rfl
 have q1 : ∀ w', Below W.heap.size W w' → w'.cell? ⟨w.heap.size, 1, none⟩ = some (.slice A1 np k1) := hx 1 _ rfl
 have q2 : ∀ w', Below W.heap.size W w' → w'.cell? ⟨w.heap.size, 2, none⟩ = some (.int .i64 f.ret) := hx 2 _ rfl
 have q3 : ∀ w', Below W.heap.size W w' → w'.cell? ⟨w.heap.size, 3, none⟩ = some (.slice A2 N k2) := hx 3 _ rfl
 obtain ⟨R, hRd⟩ : ∃ R, Hid (R = w.heap.size + 1) := ⟨_, hide rfl⟩
 have hR : Hid (W.heap[R]? = some (.cells #[.int .i64 0, .int .i64 0, .int .i64 0, .int .i64 0] 58 (0, 0))) := hide (by
  rw [hRd.out, ← hW]
  have := box_top (w.alloc (.cells #[.string f.name, .slice A1 np k1, .int .i64 f.ret, .slice A2 N k2] 32)) (.cells #[.int .i64 0, .int .i64 0, .int .i64 0, .int .i64 0] 58)
  simpa using this)
 have hRW : R < W.heap.size := by have := hRd.out; omega
 have hRw : Hid (w.heap.size ≤ R) := hide (by have := hRd.out; omega)
 clear hx hy
 have hws : w.heap.size ≤ W.heap.size := by omega
 have hwX : Hid (∀ w', Below W.heap.size W w' → Below w.heap.size w w') := hide (fun w' h => hwW.trans (h.mono hws))
 have hF : Hid (∀ w', Below W.heap.size W w' → RFun.rep w' w'.heap.size [.string f.name, .slice A1 np k1, .int .i64 f.ret, .slice A2 N k2] f) := hide (fun w' h => RFun.later hf ((hwX.out w' h).mono hB) (Nat.le_trans hB (hwX.out w' h).size))
 have hCo : Hid (∀ w', Below W.heap.size W w' → Calls Try.prog 30 #[f.v (.slice A1 np k1) (.slice A2 N k2)] w' (CodePost f w')) := hide (fun w' h => code_any f _ _ w' w'.heap.size (Nat.le_refl _) (fun_open (hF.out w' h)).1 (fun_open (hF.out w' h)).2 (by have := flat_len f; omega))
 obtain ⟨P, hP⟩ : ∃ P, Hid (P = predsL (succsF f.blocks) N) := ⟨_, hide rfl⟩
 have hPl : P.length = N := by rw [hP.out, predsL_len]
 have cP : Hid (∀ w', Below W.heap.size W w' → Calls Try.prog 77 #[f.v (.slice A1 np k1) (.slice A2 N k2)] w' (PredPost N P w')) := hide (fun w' h => by
  have := rpreds_any f (.slice A1 np k1) (.slice A2 N k2) w' w'.heap.size (Nat.le_refl _) (hF.out w' h) hs
  rwa [← hN.out, ← hP.out] at this)
 have hzb : Hid (∀ x, x ∈ f.blocks → x.length ≤ 2000000) := hide (fun x hx => (hs.code x hx).1)
 replace hs := hide hs
 replace hf := hide hf
 replace hWs := hide hWs
 have hself := Below.refl W.heap.size W
 replace hW := hide hW
 replace hwW := hide hwW
 go_enter Try.func49, Try.ntmps49
 go_upto_region 1 with (fail)
 rw [hW.out, ← hRd.out]
 clear hW
 go_wp2_with (fail)
 refine (cP.out _ hself).mono ?_
 rintro e X0 ⟨gP, csP, rfl, hLP, hbX0⟩
 replace hLP := hide hLP
 go_wp2_with (fail)
 refine (hCo.out _ hbX0).mono ?_
 rintro e V0 ⟨vl, vp, rfl, hb0, hl, hpl⟩
 obtain ⟨A3, k3, h3, hm3, gl⟩ := Rp.slice_open hl
 obtain ⟨A4, k4, h4, hm4, gpl⟩ := Rp.slice_open hpl
 cases h3; cases h4
 have hpp : (beforeP f.blocks f.blocks.length 0).length = f.blocks.flatten.length := by rw [beforeP_length _ _ (.inl rfl) (Nat.le_refl _), before_end]
 have hbV0 := hbX0.trans (hb0.mono hbX0.size)
 replace gl := hide gl
 replace gpl := hide gpl
 obtain ⟨l, hll⟩ : ∃ l : List Ins, Hid (l = f.blocks.flatten) := ⟨_, hide rfl⟩
 obtain ⟨pl, hpll⟩ : ∃ pl : List Plc, Hid (pl = beforeP f.blocks f.blocks.length 0) := ⟨_, hide rfl⟩
 rw [← hll.out] at gl hpp hm3 ⊢
 rw [← hpll.out] at gpl hpp hm4 ⊢
 obtain ⟨nl, hnl⟩ : ∃ nl, Hid (nl = l.length) := ⟨_, hide rfl⟩
 rw [hpp, ← hnl.out] at gpl hm4 ⊢
 rw [← hnl.out] at gl hm3
 have hpl2 : Hid (pl.length = nl) := hide (by rw [hpp, hnl.out])
 have hb0' := fun q hq => hb0.block q hq
 clear hl hpl hpp hb0
 have hrP := hide (rows_reads (hLP.out.kept (w' := V0) (fun q _ hq => (hb0' q hq))) hPl)
 have hPP : Hid (PP = ∀ (i : Nat) x p, l[i]? = some x → pl[i]? = some p → PhiAt f x p) := hide (by rw [hPP.out, hll.out, hpll.out]; rfl)
 have hnl2 : nl ≤ 2000000 := by have h1 := flat_len f; rw [hnl.out, hll.out]; omega
 have hself0 := Below.refl V0.heap.size V0
 have hok0 : Hid (∀ (j : Nat) x p, j < 0 → l[j]? = some x → pl[j]? = some p → PhiAt f x p) := hide (fun j x p h => by omega)
 have h0W : Hid (∀ w', Below V0.heap.size V0 w' → Below W.heap.size W w') := hide (fun w' h => hbV0.trans (h.mono hbV0.size))
 have qq0 : ∀ w', Below V0.heap.size V0 w' → w'.cell? ⟨w.heap.size, 0, none⟩ = some (.string f.name) := fun w' h => q0 w' (h0W.out w' h)
 have qq1 : ∀ w', Below V0.heap.size V0 w' → w'.cell? ⟨w.heap.size, 1, none⟩ = some (.slice A1 np k1) := fun w' h => q1 w' (h0W.out w' h)
 have qq2 : ∀ w', Below V0.heap.size V0 w' → w'.cell? ⟨w.heap.size, 2, none⟩ = some (.int .i64 f.ret) := fun w' h => q2 w' (h0W.out w' h)
 have qq3 : ∀ w', Below V0.heap.size V0 w' → w'.cell? ⟨w.heap.size, 3, none⟩ = some (.slice A2 N k2) := fun w' h => q3 w' (h0W.out w' h)
 clear q0 q1 q2 q3 hself hbV0
 go_wp2
 go_loopw [8, 9, 10, 11] (fun s8 _ _ _ wr => ∃ i : Nat, s8 = .int .i64 i ∧ i ≤ nl ∧ Hid (∀ (j : Nat) x p, j < i → l[j]? = some x → pl[j]? = some p → PhiAt f x p) ∧ Below V0.heap.size V0 wr) (fun s8 _ _ _ _ => nl - (intOf s8).toNat)
 case atStart => exact ⟨0, rfl, Nat.zero_le _, hok0, hself0⟩
 case round =>
  clear hok0 hself0
  rename World => V
  obtain ⟨i, rfl, hi, hok, hbel0⟩ := hrel
  have hbel := h0W.out V hbel0
  have hVs := hbel0.size
  by_cases hlt : i < nl
  ·have hii : (i : Int) < (nl : Int) := by omega
   obtain ⟨x, hx⟩ := get_ex (l := l) (k := i) (by rw [← hnl.out]; exact hlt)
   obtain ⟨p, hp⟩ := get_ex (l := pl) (k := i) (by rw [hpl2.out]; exact hlt)
   obtain ⟨b3, o3, hA3, he3⟩ := gl.out (by omega)
   subst hA3
   obtain ⟨b4, o4, hA4, he4⟩ := gpl.out (by omega)
   subst hA4
   obtain ⟨_, _, ⟨a1', a2', rfl, hra, hrt, -, hI2, hI3, hI4, hI5⟩, hcx⟩ := he3 i x hx.out
   obtain ⟨A5, k5, h5, hm5, ga⟩ := Rp.slice_open hra
   obtain ⟨A6, k6, h6, hm6, gt⟩ := Rp.slice1_open hrt
   cases h5; cases h6
   replace ga := hide ga
   replace gt := hide gt
   obtain ⟨es4, hel4, hr4, hcp⟩ := he4 i p hp.out
   have hr4 := hr4.1
   subst hr4
   obtain ⟨x0, x1, x2, x3, x4, x5, x6⟩ := hcx.seven
   obtain ⟨t0, t1, t2⟩ := hcp.three
   have hrt9 := hide hrt
   clear he3 he4 hcx hcp hra hrt hel4
   obtain ⟨pb, pj, blk, hpe, hpbn, hpblk, hpx⟩ := place8_of (bs := f.blocks) (Nat.le_refl _) (by rw [before_end, ← hll.out]; exact hx.out) (by rw [← hpll.out]; exact hp.out)
   subst hpe
   replace hpblk := hide hpblk
   replace hpx := hide hpx
   have hno : Hid (¬ PhiAt f x ⟨0, pb, pj⟩ → ¬ PP) := hide (fun h1 h2 => h1 (by rw [hPP.out] at h2; exact h2 i x _ hx.out hp.out))
   have hstep : Hid (PhiAt f x ⟨0, pb, pj⟩ → ∀ (j : Nat) x p, j < i + 1 → l[j]? = some x → pl[j]? = some p → PhiAt f x p) := hide (fun hr j y q hj hy hq => by
    rcases Nat.lt_succ_iff_lt_or_eq.1 hj with h | h
    ·exact hok.out j y q h hy hq
    ·subst h
     rw [hx.out] at hy
     rw [hp.out] at hq
     cases hy; cases hq
     exact hr)
   obtain ⟨na, hna⟩ : ∃ na, Hid (na = x.args.length) := ⟨_, hide rfl⟩
   obtain ⟨nt, hnt⟩ : ∃ nt, Hid (nt = x.to.length) := ⟨_, hide rfl⟩
   rw [← hna.out] at hm5 x5
   rw [← hnt.out] at hm6 x6 hrt9
   by_cases h25 : x.op = 25
   case neg =>
    have e0 : (x.op != 25) = true := by simpa using h25
    have hnx := hide (hstep.out (fun h => absurd h h25))
    replace h25 := hide h25
    go_wp2
    go_roundw
    case rel => exact ⟨i + 1, by go_num, hlt, hnx, hbel0⟩
    case measure => simp [intOf]; omega
   have e0 : (x.op != 25) = false := by rw [h25]; rfl
   replace h25 := hide h25
   have hpbN : pb < N := by rw [hN.out]; exact hpbn
   have hpbi : (pb : Int) < (N : Int) := by omega
   have hjl := (List.getElem?_eq_some_iff.1 hpx.out).1
   obtain ⟨p, hpp⟩ := get_ex (l := P) (k := pb) (by omega)
   obtain ⟨Ap, Cp, ht1, -⟩ := hrP.out pb p hpp.out
   obtain ⟨o0, ho0⟩ : ∃ o0 : Bool, Hid (o0 = (decide (pb ≠ 0) && (x.to == p))) := ⟨_, hide rfl⟩
   have hal : Hid (PhiAt f x ⟨0, pb, pj⟩ ↔ o0 = true ∧ AheadOk f pb pj) := hide (by
    rw [ho0.out, Bool.and_eq_true, decide_eq_true_eq, beq_iff_eq]
    constructor
    ·intro h
     obtain ⟨h1, h2, h3⟩ := h h25.out pb pj rfl
     rw [← hN.out, ← hP.out, hpp.out] at h2
     exact ⟨⟨h1, (Option.some.inj h2).symm⟩, h3⟩
    ·rintro ⟨⟨h1, h2⟩, h3⟩ - b j hbj
     have e1 : b = pb ∧ j = pj := by
      have h9 := hbj
      simp only [Plc.mk.injEq] at h9
      omega
     rw [e1.1, e1.2]
     refine ⟨h1, ?_, h3⟩
     rw [← hN.out, ← hP.out, hpp.out, h2])
   go_upto_region 8 with (fail)
   go_cut [10] (fun s wx => s = .bool o0 ∧ Below V0.heap.size V0 wx)
   case first =>
    by_cases hb0 : pb = 0
    ·have d0 : ((pb : Int) != 0) = false := by rw [hb0]; rfl
     have hr : Hid (o0 = false) := hide (by rw [ho0.out, hb0]; rfl)
     replace hb0 := hide hb0
     go_quiet (fail)
     have hbQ := below_drewN hbel0 nq
     go_wp2
     go_meet
     exact ⟨by rw [hr.out], hbQ⟩
    ·have d0 : ((pb : Int) != 0) = true := bne_iff_ne.2 (by omega)
     have hr : Hid (o0 = (x.to == p)) := hide (by rw [ho0.out, decide_eq_true hb0]; rfl)
     obtain ⟨lq, hlq⟩ : ∃ lq, Hid (lq = p.length) := ⟨_, hide rfl⟩
     rw [← hlq.out] at ht1
     have cI : Hid (∀ w', Below V0.heap.size V0 w' → Calls Try.prog 32 #[.slice A6 nt k6, .slice Ap lq Cp] w' fun e w'' => e = .returned (.bool (x.to == p)) ∧ Below w'.heap.size w' w'') := hide (fun w' h => by
      have hp2 : RInts.rep w' w'.heap.size [.slice Ap lq Cp] p := by
       obtain ⟨c, hc, hI⟩ := (hLP.out.kept (w' := V0) (fun q _ hq => (hb0' q hq))).at_ hpp.out
       have h1 : c = .slice Ap lq Cp := by
        have h2 := ht1 V0 (Below.refl _ _)
        have h3 := row_cell9 (hLP.out.kept (w' := V0) (fun q _ hq => (hb0' q hq))) hPl hc
        rw [h3] at h2
        exact Option.some.inj h2
       rw [← h1]
       exact (hI.kept (w' := w') (fun q _ hq => h.block q hq)).rep
      exact rints_any _ _ x.to p w' w'.heap.size (Nat.le_refl _) (RInts.later hrt9.out h h.size) hp2)
     have hbd := hbel0.drew
     replace hb0 := hide hb0
     go_region_held3 (fun w' => Below V0.heap.size V0 w') (first | (with_reducible assumption) | exact hbd)
      (first
       | (go_at_call 32; refine (cI.out _ hbd).mono ?_; rintro e X1 ⟨rfl, hb⟩; have hk1 : Below V0.heap.size V0 X1 := hbd.trans (hb.mono hbd.size); clear hb))
     go_wp2
     go_meet
     exact ⟨by rw [hr.out], hk1⟩
   case rest =>
    obtain ⟨rfl, hbC⟩ := hcut
    have hbCW := h0W.out _ hbC
    obtain ⟨b1, o1, hA2, he1⟩ := gb.out (by rw [← hN.out]; omega)
    subst hA2
    obtain ⟨d1, hr1, hd1⟩ := he1 pb blk hpblk.out
    obtain ⟨A8, c8, h8, hm8, ga8⟩ := Rp.slice_open hr1
    cases h8
    replace ga8 := hide ga8
    obtain ⟨lx, hlx⟩ : ∃ lx, Hid (lx = blk.length) := ⟨_, hide rfl⟩
    have hd1' : ∀ w', Below V0.heap.size V0 w' → w'.cell? ⟨b1, o1 + pb, none⟩ = some (.slice A8 lx c8) := fun w' h => by rw [hlx.out]; exact hd1 w' (hwX.out w' (h0W.out w' h))
    rw [← hlx.out] at hm8
    have hpjl : pj < lx := by rw [hlx.out]; exact hjl
    clear hd1 hr1 he1
    have hah0 : Hid (o0 = true ↔ o0 = true ∧ AheadOk f pb 0) := hide ⟨fun h => ⟨h, fun blk hb i y hi => by omega⟩, fun h => h.1⟩
    go_wp2
    go_loopw [10, 11] (fun s10 s11 wr => ∃ (o : Bool) (k : Nat), s10 = .bool o ∧ s11 = .int .i64 k ∧ k ≤ pj ∧ Hid (o = true ↔ o0 = true ∧ AheadOk f pb k) ∧ Below V0.heap.size V0 wr) (fun _ s11 _ => pj - (intOf s11).toNat)
    case atStart => exact ⟨o0, 0, rfl, rfl, Nat.zero_le _, hah0, hbC⟩
    case round =>
     clear hah0 hbC hbCW
     rename World => Y
     obtain ⟨o, k, rfl, rfl, hk, hah, hbY⟩ := hrel
     have hYs := hbY.size
     have hbYW := h0W.out Y hbY
     have t2Y := t2 Y hbY
     by_cases hltk : k < pj
     ·have hkk : (k : Int) < (pj : Int) := by omega
      have hkl : k < lx := by omega
      have hkli : (k : Int) < (lx : Int) := by omega
      obtain ⟨y, hy⟩ := get_ex (l := blk) (k := k) (by rw [← hlx.out]; exact hkl)
      have hnx : Hid (AheadOk f pb (k + 1) ↔ AheadOk f pb k ∧ y.op = 25) := hide (by
       constructor
       ·exact fun h => ⟨fun b hb i z hi hz => h b hb i z (by omega) hz, h blk hpblk.out k y (Nat.lt_succ_self k) hy.out⟩
       ·rintro ⟨h1, h2⟩ b hb i z hi hz
        rcases Nat.lt_succ_iff_lt_or_eq.1 hi with h | h
        ·exact h1 b hb i z h hz
        ·subst h
         rw [hpblk.out] at hb
         cases hb
         rw [hy.out] at hz
         cases hz
         exact h2)
      cases o with
      | false =>
       have hn2 : Hid (false = true ↔ o0 = true ∧ AheadOk f pb (k + 1)) := hide ⟨(fun h => by cases h), fun h => hah.out.2 ⟨h.1, (hnx.out.1 h.2).1⟩⟩
       go_wp2
       go_roundw
       case rel => exact ⟨false, k + 1, rfl, by go_num, hltk, hn2, hbY⟩
       case measure => simp [intOf]; omega
      | true =>
       obtain ⟨b8, o8, hA8, he8⟩ := ga8.out (by rw [← hlx.out]; omega)
       subst hA8
       obtain ⟨_, _, ⟨e1, e2, rfl, -, -, -⟩, hcy⟩ := he8 k y hy.out
       obtain ⟨s0, -⟩ := hcy.seven
       have s0Y := s0 Y (hwX.out Y hbYW)
       have hn2 : Hid ((y.op == 25) = true ↔ o0 = true ∧ AheadOk f pb (k + 1)) := hide (by
        rw [beq_iff_eq, hnx.out]
        have h1 := hah.out.1 rfl
        exact ⟨fun h => ⟨h1.1, h1.2, h⟩, fun h => h.2.2⟩)
       clear he8 hcy s0
       go_wp2
       go_roundw
       case rel => exact ⟨_, k + 1, rfl, by go_num, hltk, hn2, hbY⟩
       case measure => simp [intOf]; omega
     ·obtain rfl : k = pj := by omega
      cases o with
      | true =>
       have hnx := hide (hstep.out (hal.out.2 (hah.out.1 rfl)))
       go_wp2
       go_roundw
       case rel => exact ⟨i + 1, by go_num, hlt, hnx, hbY⟩
       case measure => simp [intOf]; omega
      | false =>
       have hfx : Hid ((12 : Int) = 0 ↔ PP) := hide ⟨fun h => by omega, fun h => absurd h (hno.out fun h9 => by have := hah.out.2 (hal.out.1 h9); cases this)⟩
       go_wp2_with (fail)
       refine (at08_any _ _ _ _ _).mono ?_
       rintro e X9 ⟨rfl, hb9⟩
       have hk9 : Below W.heap.size W X9 := hbYW.trans (hb9.mono hbYW.size)
       have hR9 : X9.heap[R]? = _ := (hk9.block R hRW).trans hR.out
       obtain ⟨z0, z1, z2, z3⟩ := four9 hR9
       obtain ⟨f0, f1, f2, f3⟩ := four9_free hR9
       go_wp2
       refine fault_ret (c := 12) (k := (n)) (b := pb) (i := k) ?_ (by rfl) hfx.out (below9 (hwX.out X9 hk9) hRw.out)
       obtain ⟨y0, y1, y2, y3⟩ := fault9 (u0 := .int .i64 (12)) (u1 := .int .i64 (n)) (u2 := .int .i64 (pb)) (u3 := .int .i64 (k)) hR9
       simp [results, Try.results49, go_sem, y0, y1, y2, y3]

  ·have hfx : Hid PP := hide (by rw [hPP.out]; exact fun j x p hx hp => hok.out j x p (by have := (List.getElem?_eq_some_iff.1 hx).1; have := hnl.out; omega) hx hp)
   have hR9 : V.heap[R]? = _ := (hbel.block R hRW).trans hR.out
   obtain ⟨z0, z1, z2, z3⟩ := four9 hR9
   obtain ⟨f0, f1, f2, f3⟩ := four9_free hR9
   go_wp2
   refine fault_ret (c := 0) (k := (0)) (b := 0) (i := 0) ?_ (by rfl) ⟨fun _ => hfx.out, fun _ => rfl⟩ (below9 (hwX.out V hbel) hRw.out)
   obtain ⟨y0, y1, y2, y3⟩ := fault9 (u0 := .int .i64 (0)) (u1 := .int .i64 (0)) (u2 := .int .i64 (0)) (u3 := .int .i64 (0)) hR9
   simp [results, Try.results49, go_sem, y0, y1, y2, y3]
end Go.Proofs.Ytamjcafjdioidaa
