/- Texts of the chain, without what is not wanted: TdSf. No condition but sizes. -/
import Derived.WalkKit
import Derived.Deep.Slices
import Derived.Deep.Draws
import Derived.ChangeSame
import Derived.ChangeOld
import Derived.OwnWalk
import Derived.Laws.OwnMore
import Derived.Deep.AppendLies
import Derived.Test.YtamjcafjdioidaaRows
import Derived.ProofKit
import Derived.OpenShut
import Derived.JoinedCond
import Derived.WalkSpells
import Derived.WalkLawsBesides
import Derived.Deep.RegionHeld3
import Derived.Deep.LoopGhost
import Derived.Deep.QuietTactic
import Derived.BigQuiet
import Derived.Deep.DeepCutAuto
import Derived.Deep.CutBlock
import Derived.StillTailTactics
import Derived.Deep.RegionLaw
import Derived.Lib.SliceRun
import Derived.Laws.IdiomCopy
import Derived.Deep.MidRow
import Derived.Lib.Overlaps
import Derived.RegionTactic
import Derived.Deep.RegionLawGrows
import Derived.Laws.Externs
import Derived.Laws.Bits64b
import Derived.Lib.Mul64
import Derived.Test.YtamjcafjdioidaaUz01
import Derived.Test.YtamjcafjdioidaaUz02
import Derived.Test.YtamjcafjdioidaaUz03
import Derived.Test.YtamjcafjdioidaaUz04
import Derived.Test.YtamjcafjdioidaaUz05
import Derived.Test.YtamjcafjdioidaaUz06
import Derived.Test.YtamjcafjdioidaaUz07
import Derived.Test.YtamjcafjdioidaaUz08
import Derived.Test.YtamjcafjdioidaaUz09
import Derived.Test.YtamjcafjdioidaaUz10
import Derived.Test.YtamjcafjdioidaaUz11
import Derived.Test.YtamjcafjdioidaaUz12
import Derived.Test.YtamjcafjdioidaaUz13
import Derived.Test.YtamjcafjdioidaaUz14
import Derived.Test.YtamjcafjdioidaaUz15
import Derived.Test.YtamjcafjdioidaaUz16
import Derived.Test.YtamjcafjdioidaaUz17
import Derived.Test.YtamjcafjdioidaaUz18
import Derived.Test.YtamjcafjdioidaaUz19
import Derived.Test.YtamjcafjdioidaaUz20
import Derived.Test.YtamjcafjdioidaaUz21
import Derived.Test.YtamjcafjdioidaaUz22
import Derived.Test.YtamjcafjdioidaaUz23
import Derived.Test.YtamjcafjdioidaaUz24
import Derived.Test.YtamjcafjdioidaaUz25
import Derived.Test.YtamjcafjdioidaaUz26
import Derived.Test.YtamjcafjdioidaaUz27
import Derived.Test.YtamjcafjdioidaaUz28
import Derived.Test.YtamjcafjdioidaaUz29
import Derived.Test.YtamjcafjdioidaaUz30
import Derived.Test.YtamjcafjdioidaaUz31
import Derived.Test.YtamjcafjdioidaaUz32
import Derived.Test.YtamjcafjdioidaaUz33
import Derived.Test.YtamjcafjdioidaaUz34
import Derived.Test.YtamjcafjdioidaaUz35
import Derived.Test.YtamjcafjdioidaaUz36
import Derived.Test.YtamjcafjdioidaaUz37
import Derived.Test.YtamjcafjdioidaaUz38
import Derived.Test.YtamjcafjdioidaaUz39
import Derived.Test.YtamjcafjdioidaaUz40
import Derived.Test.YtamjcafjdioidaaUz41
import Derived.Test.YtamjcafjdioidaaUz42
import Derived.Test.YtamjcafjdioidaaUz43
import Derived.Test.YtamjcafjdioidaaUz44
import Derived.Test.YtamjcafjdioidaaUz45
namespace Go.Proofs.Ytamjcafjdioidaa
open Go.RowKit
set_option linter.unusedSimpArgs false
set_option linter.unusedVariables false
def StepP (R : Fun) (w : World) (e : Ending) (w' : World) : Prop := ∃ c d, e = .returned (.tuple #[.agg #[.string R.name, c, .int .i64 R.ret, d], .bool false]) ∧ RFun.rep w' w'.heap.size [.string R.name, c, .int .i64 R.ret, d] R ∧ Below w.heap.size w w'
theorem StepPost.p {R : Fun} {w w' : World} {e : Ending} (h : StepPost R w e w') (hs : stepS R.blocks = none) : StepP R w e w' := by
 obtain ⟨T, N, c, d, h1, h2, -, -, -, h3⟩ := h
 rw [hs] at h1 h2
 exact ⟨c, d, h1, h2.rep, h3⟩
set_option maxRecDepth 100000 in
set_option maxHeartbeats 6400000 in
theorem law_tidy_stays (m : Mod) (m1 m2 m3 : Value) (w : World) (ha : RMod.rep w w.heap.size [m1, m2, m3] m) (hsz : ∀ f, f ∈ m.funcs → funSz f ≤ 1900000) :
  Calls Try.prog 6 #[m.v m1 m2 m3] w (RetB true w) := by
 obtain ⟨M1, v1, j1, M2, v2, j2, M3, v3, j3, hmf⟩ := mod_forms ha
 obtain ⟨e1, e2, e3⟩ := hmf
 subst e1 e2 e3
 obtain ⟨A5, k5, hM3, hl5, gf⟩ := funs_at (mod_open (RMod.later ha (Below.refl _ _) (Nat.le_refl _))).2.2
 have hv3 : v3 = m.funcs.length := by cases hM3; rfl
 have hM3' : M3 = A5 ∧ j3 = k5 := by cases hM3; exact ⟨rfl, rfl⟩
 obtain ⟨e1, e2⟩ := hM3'
 subst e1 e2
 clear hM3
 rw [← hv3] at hl5 gf
 replace gf := hide gf
 replace hv3 := hide hv3
 obtain ⟨W, hW, hwW, hWs, hx⟩ := boxes1 w #[.slice M1 v1 j1, .slice M2 v2 j2, .slice M3 v3 j3] 26
 have p0 : ∀ w', Below W.heap.size W w' → w'.cell? ⟨w.heap.size, 0, none⟩ = some (.slice M1 v1 j1) := hx 0 _ rfl
 have p1 : ∀ w', Below W.heap.size W w' → w'.cell? ⟨w.heap.size, 1, none⟩ = some (.slice M2 v2 j2) := hx 1 _ rfl
 have p2 : ∀ w', Below W.heap.size W w' → w'.cell? ⟨w.heap.size, 2, none⟩ = some (.slice M3 v3 j3) := hx 2 _ rfl
 clear hx
 have hws : w.heap.size ≤ W.heap.size := by omega
 replace hsz := hide hsz
 have hself := Below.refl W.heap.size W
 have hwX : Hid (∀ w', Below W.heap.size W w' → Below w.heap.size w w') := hide (fun w' h => hwW.trans (h.mono hws))
 obtain ⟨rb, hrb⟩ : ∃ rb, Hid (rb = rightB m) := ⟨_, hide rfl⟩
 have cR : Hid (∀ w', Below W.heap.size W w' → Calls Try.prog 8 #[m.v (.slice M1 v1 j1) (.slice M2 v2 j2) (.slice M3 v3 j3)] w' (RetB rb w')) := hide (fun w' h => by
  rw [hrb.out]
  exact right_any m _ _ _ w' w'.heap.size (Nat.le_refl _) (RMod.later ha (hwX.out w' h) (hwX.out w' h).size) (fun f hf => by have := hsz.out f hf; omega))
 have cL : Hid (∀ w', Below W.heap.size W w' → Calls Try.prog 16 #[m.v (.slice M1 v1 j1) (.slice M2 v2 j2) (.slice M3 v3 j3)] w' (SomeBit w')) := hide (fun w' h => long16_any m _ _ _ w' (RMod.later ha (hwX.out w' h) (hwX.out w' h).size) (fun f hf => by have := hsz.out f hf; omega))
 replace ha := hide ha
 replace hWs := hide hWs
 replace hW := hide hW
 replace hwW := hide hwW
 go_enter Try.func6, Try.ntmps6
 go_upto_region 1 with (fail)
 rw [hW.out]
 clear hW
 go_wp2_with (fail)
 refine (lives17_any _).mono ?_
 rintro e w1 ⟨rfl, hb1⟩
 have hk1 := hself.trans (hb1.mono hself.size)
 clear hb1 hself
 go_wp2_with (fail)
 refine (cL.out _ hk1).mono ?_
 rintro e w2 ⟨lb, rfl, hb2⟩
 have hk2 := hk1.trans (hb2.mono hk1.size)
 clear hb2 cL hk1
 cases lb with
 | true =>
  have hfin := hide (hwX.out _ hk2)
  go_wp2
  go_ret
  exact ⟨rfl, hfin.out⟩
 | false =>
 go_wp2_with (fail)
 refine (cR.out _ hk2).mono ?_
 rintro e w3 ⟨rfl, hb3⟩
 have hk3 := hk2.trans (hb3.mono hk2.size)
 clear hb3 cR hk2
 cases rb with
 | false =>
  have hfin := hide (hwX.out _ hk3)
  go_wp2
  go_ret
  exact ⟨rfl, hfin.out⟩
 | true =>
  have hright : Hid (∀ f, f ∈ m.funcs → FunRight m f) := hide (fun f hf => right_fun17 hrb.out.symm hf)
  go_wp2
  go_loopw [26] (fun s wr => ∃ i : Nat, s = .int .i64 i ∧ i ≤ v3 ∧ Below W.heap.size W wr) (fun s _ => v3 - (intOf s).toNat)
  case atStart => exact ⟨0, rfl, Nat.zero_le _, hk3⟩
  case round =>
   clear hk3
   rename World => V
   obtain ⟨i, rfl, hi, hbel⟩ := hrel
   have hVs := hbel.size
   by_cases hlt : i < v3
   ·have hii : (i : Int) < (v3 : Int) := by omega
    obtain ⟨f, hf⟩ := get_ex (l := m.funcs) (k := i) (by rw [← hv3.out]; exact hlt)
    obtain ⟨b1, o1, hA1, he⟩ := gf.out (by omega)
    subst hA1
    obtain ⟨cp, ep, hra, hc⟩ := he i f hf.out
    obtain ⟨hrp, hrb'⟩ := fun_open hra
    obtain ⟨A1, k1, h1, hnp, -⟩ := Rp.slice1_open hrp
    obtain ⟨A2, k2, h2, hmb, -⟩ := Rp.slice1_open hrb'
    cases h1; cases h2
    have hfz := hide (hsz.out f (List.mem_of_getElem? hf.out))
    have hsm : Hid (Small f) := hide (small_of (by have := hfz.out; omega))
    have hti := hide (fun_tinv (hright.out f (List.mem_of_getElem? hf.out)) hsm.out)
    obtain ⟨np, hnpe⟩ : ∃ np, Hid (np = f.params.length) := ⟨_, hide rfl⟩
    obtain ⟨n, hn⟩ : ∃ n, Hid (n = f.blocks.length) := ⟨_, hide rfl⟩
    have hmzf : Hid (mz f.blocks + 2 ≤ 2000000) := hide (by
     obtain ⟨⟨⟨h1, h2, h3⟩, -⟩, -⟩ := hright.out f (List.mem_of_getElem? hf.out)
     have := mz_flat f.blocks
     omega)
    have hn2 : n ≤ 2000000 := by rw [hn.out]; exact hsm.out.blocks
    rw [← hnpe.out, ← hn.out] at hra hc
    rw [← hnpe.out] at hnp
    rw [← hn.out] at hmb
    obtain ⟨s0, s1, s2, s3⟩ := hc.four
    have s0 := s0 V (hwX.out V hbel)
    have s1 := s1 V (hwX.out V hbel)
    have s2 := s2 V (hwX.out V hbel)
    have s3 := s3 V (hwX.out V hbel)
    obtain ⟨Z, hZ, hwZ, hZs, hzc⟩ := boxes1 V #[.string f.name, .slice A1 np k1, .int .i64 f.ret, .slice A2 n k2] 32
    have t0 : ∀ w', Below Z.heap.size Z w' → w'.cell? ⟨V.heap.size, 0, none⟩ = some (.string f.name) := hzc 0 _ rfl
    have t1 : ∀ w', Below Z.heap.size Z w' → w'.cell? ⟨V.heap.size, 1, none⟩ = some (.slice A1 np k1) := hzc 1 _ rfl
    have t2 : ∀ w', Below Z.heap.size Z w' → w'.cell? ⟨V.heap.size, 2, none⟩ = some (.int .i64 f.ret) := hzc 2 _ rfl
    have t3 : ∀ w', Below Z.heap.size Z w' → w'.cell? ⟨V.heap.size, 3, none⟩ = some (.slice A2 n k2) := hzc 3 _ rfl
    have T0 := hide t0
    have T1 := hide t1
    have T2 := hide t2
    have T3 := hide t3
    have hbZ : Below W.heap.size W Z := hbel.trans (hwZ.mono hVs)
    have hZW : Hid (∀ w', Below Z.heap.size Z w' → Below W.heap.size W w') := hide (fun w' h => hbZ.trans (h.mono hbZ.size))
    have hZw : Hid (∀ w', Below Z.heap.size Z w' → Below w.heap.size w w') := hide (fun w' h => hwX.out w' (hZW.out w' h))
    have hF : Hid (∀ w', Below Z.heap.size Z w' → RFun.rep w' w'.heap.size [.string f.name, .slice A1 np k1, .int .i64 f.ret, .slice A2 n k2] f) := hide (fun w' h => RFun.later hra (hZw.out w' h) (hZw.out w' h).size)
    have hselfZ := Below.refl Z.heap.size Z
    have cSzf : Hid (∀ w', Below Z.heap.size Z w' → Calls Try.prog 17 #[f.v (.slice A1 np k1) (.slice A2 n k2)] w' fun e w'' => e = .returned (.int .i64 (f.blocks.flatten.length : Int)) ∧ Below w'.heap.size w' w'') := hide (fun w' h => by
     obtain ⟨g1, g2⟩ := fun_open (hF.out w' h)
     refine isz_any f _ _ w' w'.heap.size (Nat.le_refl _) g1 g2 ?_
     have h1 := flat_len f
     have h2 := hfz.out
     omega)
    obtain ⟨R, hR⟩ : ∃ R, Hid (R = setBlocks f (allS f.blocks)) := ⟨_, hide rfl⟩
    have hinv := TInv.inv (f := f) hsm.out.params
    obtain ⟨hTR, hSR, hst⟩ := sall (f := f) hsm.out.params (mz f.blocks) f.blocks hti.out (fun_sinv (hright.out f (List.mem_of_getElem? hf.out)) hti.out) (Nat.le_refl _)
    obtain ⟨hle1, hle2⟩ := all_le (f := f) hsm.out.params (mz f.blocks) f.blocks hti.out (Nat.le_refl _)
    have hRb : R.blocks = allS f.blocks := by rw [hR.out]; rfl
    have hsmR : Hid (Small R) := hide (by rw [hR.out]; exact hinv.small _ hTR)
    have hwfR : Hid (Wf R.blocks ∧ ∀ l, l ∈ R.blocks → Fronts l) := hide (by rw [hRb]; exact ⟨hinv.wf _ hTR, hinv.fr _ hTR⟩)
    have hstR : Hid (stepS R.blocks = none) := hide (by rw [hRb]; exact hst)
    have hTRh : Hid (TInv R.blocks) := hide (by rw [hRb]; exact hTR)
    have hstay := stays hTR hSR hst
    rw [← hRb] at hstay hle1 hle2
    obtain ⟨hreach, hins9⟩ := hstay
    replace hreach := hide hreach
    replace hins9 := hide hins9
    have hfl : Hid (R.blocks.flatten.length ≤ f.blocks.flatten.length) := hide (by rw [fl_flat, fl_flat]; exact hle2)
    obtain ⟨q, hq⟩ : ∃ q, Hid (q = R.blocks.length) := ⟨_, hide rfl⟩
    have hq0 : 0 < q := by rw [hq.out]; exact hTRh.out.pos
    have hqn : q ≤ n := by rw [hq.out, hn.out]; exact hle1
    obtain ⟨sg, hsg⟩ : ∃ sg, Hid (sg = R.blocks.flatten.length) := ⟨_, hide rfl⟩
    obtain ⟨sf, hsf⟩ : ∃ sf, Hid (sf = f.blocks.flatten.length) := ⟨_, hide rfl⟩
    have hsgf : sg ≤ sf := by rw [hsg.out, hsf.out]; exact hfl.out
    rw [← hsf.out] at cSzf
    replace hle1 := hide hle1
    replace hle2 := hide hle2
    replace hTR := hide hTR
    replace hSR := hide hSR
    replace hst := hide hst
    replace hinv := hide hinv
    replace hRb := hide hRb
    have cA : Hid (Calls Try.prog 19 #[f.v (.slice A1 np k1) (.slice A2 n k2)] Z (AllP R Z)) := hide (by
     rw [hR.out]
     exact (tall_any f (TInv.inv hsm.out.params) hti.out _ _ Z Z.heap.size (Nat.le_refl _) (hF.out Z hselfZ)).mono fun e w'' hp => hp.p)
    have cSt : Hid (∀ c d w', RFun.rep w' w'.heap.size [.string R.name, c, .int .i64 R.ret, d] R → Calls Try.prog 20 #[.agg #[.string R.name, c, .int .i64 R.ret, d]] w' (StepP R w')) := hide (fun c d w' h =>
     (tstep_any R c d w' w'.heap.size (Nat.le_refl _) h hsmR.out hwfR.out.1 hwfR.out.2).mono fun e w'' hp => hp.p hstR.out)
    have cSg : Hid (∀ c d w', RFun.rep w' w'.heap.size [.string R.name, c, .int .i64 R.ret, d] R → Calls Try.prog 17 #[.agg #[.string R.name, c, .int .i64 R.ret, d]] w' fun e w'' => e = .returned (.int .i64 (sg : Int)) ∧ Below w'.heap.size w' w'') := hide (fun c d w' h => by
     obtain ⟨g1, g2⟩ := fun_open h
     rw [hsg.out]
     refine isz_any R _ _ w' w'.heap.size (Nat.le_refl _) g1 g2 ?_
     have h1 := flat_len f
     have h2 := hfz.out
     have h3 := hfl.out
     omega)
    have cSame : Hid (∀ c d c' d' w', RFun.rep w' w'.heap.size [.string R.name, c, .int .i64 R.ret, d] R → RFun.rep w' w'.heap.size [.string R.name, c', .int .i64 R.ret, d'] R → Calls Try.prog 21 #[.agg #[.string R.name, c, .int .i64 R.ret, d], .agg #[.string R.name, c', .int .i64 R.ret, d']] w' (RetB true w')) := hide (fun c d c' d' w' h h' => by
     have h9 := same_func R R c d c' d' w' w'.heap.size (Nat.le_refl _) h h'
     rw [decide_eq_true (rfl : R = R)] at h9
     exact h9)
    have cRe : Hid (∀ c d w', RFun.rep w' w'.heap.size [.string R.name, c, .int .i64 R.ret, d] R → Calls Try.prog 22 #[.agg #[.string R.name, c, .int .i64 R.ret, d]] w' (ReachPost q (reachF R.blocks) w')) := hide (fun c d w' h => by
     have h9 := reach_any R c d w' w'.heap.size (Nat.le_refl _) h hsmR.out
     rwa [← hq.out] at h9)
    replace hra := hide hra
    replace hrp := hide hrp
    replace hrb' := hide hrb'
    replace hwZ := hide hwZ
    replace hZs := hide hZs
    replace hZ := hide hZ
    clear he hc hzc
    go_upto_region 8 with (fail)
    rw [hZ.out]
    clear hZ s0 s1 s2 s3
    go_wp2_with (fail)
    refine cA.out.mono ?_
    rintro e U ⟨c, d, rfl, hrU, hbU⟩
    obtain ⟨gpU, gbU⟩ := fun_open hrU
    obtain ⟨Ac, Cc, hcf, -, -⟩ := Rp.slice1_open gpU
    obtain ⟨Ad, Cd, hdf, -, -⟩ := Rp.slice1_open gbU
    cases hcf
    cases hdf
    obtain ⟨nq, hnq⟩ : ∃ nq, Hid (nq = R.params.length) := ⟨_, hide rfl⟩
    rw [← hnq.out, ← hq.out] at hrU ⊢
    have hUs := hbU.size
    obtain ⟨Y, hY, hwY, hYs, hyc⟩ := boxes1 U #[.string R.name, .slice Ac nq Cc, .int .i64 R.ret, .slice Ad q Cd] 32
    have u0 : ∀ w', Below Y.heap.size Y w' → w'.cell? ⟨U.heap.size, 0, none⟩ = some (.string R.name) := hyc 0 _ rfl
    have u1 : ∀ w', Below Y.heap.size Y w' → w'.cell? ⟨U.heap.size, 1, none⟩ = some (.slice Ac nq Cc) := hyc 1 _ rfl
    have u2 : ∀ w', Below Y.heap.size Y w' → w'.cell? ⟨U.heap.size, 2, none⟩ = some (.int .i64 R.ret) := hyc 2 _ rfl
    have u3 : ∀ w', Below Y.heap.size Y w' → w'.cell? ⟨U.heap.size, 3, none⟩ = some (.slice Ad q Cd) := hyc 3 _ rfl
    have hrY : Hid (∀ w', Below Y.heap.size Y w' → RFun.rep w' w'.heap.size [.string R.name, .slice Ac nq Cc, .int .i64 R.ret, .slice Ad q Cd] R) := hide (fun w' h => RFun.later hrU (hwY.trans (h.mono (by omega))) (Nat.le_trans (by omega) h.size))
    have hbY : Hid (Below Z.heap.size Z Y) := hide (hbU.trans (hwY.mono hUs))
    have hYZ : Hid (∀ w', Below Y.heap.size Y w' → Below Z.heap.size Z w') := hide (fun w' h => hbY.out.trans (h.mono hbY.out.size))
    have hselfY := Below.refl Y.heap.size Y
    have cS1 : Hid (Calls Try.prog 20 #[.agg #[.string R.name, .slice Ac nq Cc, .int .i64 R.ret, .slice Ad q Cd]] Y (StepP R Y)) := hide (cSt.out _ _ Y (hrY.out Y hselfY))
    replace hrU := hide hrU
    replace gpU := hide gpU
    replace gbU := hide gbU
    replace hbU := hide hbU
    replace hwY := hide hwY
    replace hYs := hide hYs
    replace hY := hide hY
    clear cA cSt hyc
    go_upto_region 9 with (fail)
    rw [hY.out]
    go_wp2_with (fail)
    refine cS1.out.mono ?_
    rintro e S ⟨c, d, rfl, hrS, hbS⟩
    obtain ⟨gpS, gbS⟩ := fun_open hrS
    obtain ⟨As, Cs, hcf, -, -⟩ := Rp.slice1_open gpS
    obtain ⟨Bs, Ds, hdf, -, -⟩ := Rp.slice1_open gbS
    cases hcf
    cases hdf
    rw [← hnq.out, ← hq.out] at hrS ⊢
    have hSs := hbS.size
    obtain ⟨X, hX, hwX9, hXs, hxc⟩ := boxes1 S #[.string R.name, .slice As nq Cs, .int .i64 R.ret, .slice Bs q Ds] 32
    have v0 : ∀ w', Below X.heap.size X w' → w'.cell? ⟨S.heap.size, 0, none⟩ = some (.string R.name) := hxc 0 _ rfl
    have v1' : ∀ w', Below X.heap.size X w' → w'.cell? ⟨S.heap.size, 1, none⟩ = some (.slice As nq Cs) := hxc 1 _ rfl
    have v2' : ∀ w', Below X.heap.size X w' → w'.cell? ⟨S.heap.size, 2, none⟩ = some (.int .i64 R.ret) := hxc 2 _ rfl
    have v3' : ∀ w', Below X.heap.size X w' → w'.cell? ⟨S.heap.size, 3, none⟩ = some (.slice Bs q Ds) := hxc 3 _ rfl
    have hrX : Hid (∀ w', Below X.heap.size X w' → RFun.rep w' w'.heap.size [.string R.name, .slice As nq Cs, .int .i64 R.ret, .slice Bs q Ds] R) := hide (fun w' h => RFun.later hrS (hwX9.trans (h.mono (by omega))) (Nat.le_trans (by omega) h.size))
    have hbX : Hid (Below Y.heap.size Y X) := hide (hbS.trans (hwX9.mono hSs))
    have hXY : Hid (∀ w', Below X.heap.size X w' → Below Y.heap.size Y w') := hide (fun w' h => hbX.out.trans (h.mono hbX.out.size))
    have hXw : Hid (∀ w', Below X.heap.size X w' → Below W.heap.size W w') := hide (fun w' h => hZW.out w' (hYZ.out w' (hXY.out w' h)))
    have u0' : ∀ w', Below X.heap.size X w' → w'.cell? ⟨U.heap.size, 0, none⟩ = some (.string R.name) := fun w' h => u0 w' (hXY.out w' h)
    have u1' : ∀ w', Below X.heap.size X w' → w'.cell? ⟨U.heap.size, 1, none⟩ = some (.slice Ac nq Cc) := fun w' h => u1 w' (hXY.out w' h)
    have u2' : ∀ w', Below X.heap.size X w' → w'.cell? ⟨U.heap.size, 2, none⟩ = some (.int .i64 R.ret) := fun w' h => u2 w' (hXY.out w' h)
    have u3' : ∀ w', Below X.heap.size X w' → w'.cell? ⟨U.heap.size, 3, none⟩ = some (.slice Ad q Cd) := fun w' h => u3 w' (hXY.out w' h)
    have t0' : ∀ w', Below X.heap.size X w' → w'.cell? ⟨V.heap.size, 0, none⟩ = some (.string f.name) := fun w' h => t0 w' (hYZ.out w' (hXY.out w' h))
    have t1' : ∀ w', Below X.heap.size X w' → w'.cell? ⟨V.heap.size, 1, none⟩ = some (.slice A1 np k1) := fun w' h => t1 w' (hYZ.out w' (hXY.out w' h))
    have t2' : ∀ w', Below X.heap.size X w' → w'.cell? ⟨V.heap.size, 2, none⟩ = some (.int .i64 f.ret) := fun w' h => t2 w' (hYZ.out w' (hXY.out w' h))
    have t3' : ∀ w', Below X.heap.size X w' → w'.cell? ⟨V.heap.size, 3, none⟩ = some (.slice A2 n k2) := fun w' h => t3 w' (hYZ.out w' (hXY.out w' h))
    have hrG : Hid (∀ w', Below X.heap.size X w' → RFun.rep w' w'.heap.size [.string R.name, .slice Ac nq Cc, .int .i64 R.ret, .slice Ad q Cd] R) := hide (fun w' h => hrY.out w' (hXY.out w' h))
    have cSzf' : Hid (∀ w', Below X.heap.size X w' → Calls Try.prog 17 #[f.v (.slice A1 np k1) (.slice A2 n k2)] w' fun e w'' => e = .returned (.int .i64 (sf : Int)) ∧ Below w'.heap.size w' w'') := hide (fun w' h => cSzf.out w' (hYZ.out w' (hXY.out w' h)))
    have hc1 : decide ((q : Int) > (n : Int)) = false := decide_eq_false (by omega)
    have hc2 : decide ((sg : Int) > (sf : Int)) = false := decide_eq_false (by omega)
    have hc3 : ((q : Int) == 0) = false := by rw [beq_eq_false_iff_ne]; omega
    have hc4 : ¬ (n < q) := by omega
    have hc5 : ¬ ((n : Int) < (q : Int)) := by omega
    have hc6 : ¬ (sf < sg) := by omega
    have hc7 : ¬ ((sf : Int) < (sg : Int)) := by omega
    have hc8 : ¬ (q = 0) := by omega
    have hc9 : ¬ ((q : Int) = 0) := by omega
    replace hrS := hide hrS
    replace gpS := hide gpS
    replace gbS := hide gbS
    replace hbS := hide hbS
    replace hwX9 := hide hwX9
    replace hXs := hide hXs
    replace hX := hide hX
    clear cS1 hxc u0 u1 u2 u3 t0 t1 t2 t3 hselfY hselfZ cSzf
    go_upto_region 10 with (fail)
    rw [hX.out]
    refine wp_region_U (S := fun u => Below X.heap.size X u) (T := fun j => decide (j < 29)) (by kernel_rfl) ?_
    obtain ⟨K0, hK0⟩ : ∃ K0, Hid (X.drew = K0) := ⟨_, hide rfl⟩
    have hS0 : Hid (Below X.heap.size X K0) := hide (by rw [← hK0.out]; exact (Below.refl _ _).drew)
    rw [hK0.out]
    refine wpAnyU_take (i := 0) (v := ?_) (by simp only [List.getElem?_toArray, List.getElem?_cons_succ, List.getElem?_cons_zero]; rfl) (by kernel_rfl) (by kernel_rfl) (by kernel_rfl) (by kernel_rfl) (by exact fun _ _ _ h => h) (Or.inl ⟨by rfl, ?_⟩) (by exact hS0.out) ?_
    rotate_left
    ·intro w9 hSw
     go_simp
     all_goals with_reducible rfl
    try simp only [Act.put, List.setIfInBounds_toArray, List.set_cons_zero, List.set_cons_succ]
    refine wpAnyU_take (i := 1) (v := ?_) (by simp only [List.getElem?_toArray, List.getElem?_cons_succ, List.getElem?_cons_zero]; rfl) (by kernel_rfl) (by kernel_rfl) (by kernel_rfl) (by kernel_rfl) (by exact fun _ _ _ h => h) (Or.inl ⟨by rfl, ?_⟩) (by exact hS0.out) ?_
    rotate_left
    ·intro w9 hSw
     go_simp
     all_goals with_reducible rfl
    try simp only [Act.put, List.setIfInBounds_toArray, List.set_cons_zero, List.set_cons_succ]
    refine wpAnyU_take (i := 2) (v := ?_) (by simp only [List.getElem?_toArray, List.getElem?_cons_succ, List.getElem?_cons_zero]; rfl) (by kernel_rfl) (by kernel_rfl) (by kernel_rfl) (by kernel_rfl) (by exact fun _ _ _ h => h) (Or.inl ⟨by rfl, ?_⟩) (by exact hS0.out) ?_
    rotate_left
    ·intro w9 hSw
     go_simp
     all_goals with_reducible rfl
    try simp only [Act.put, List.setIfInBounds_toArray, List.set_cons_zero, List.set_cons_succ]
    refine wpAnyU_take (i := 3) (v := ?_) (by simp only [List.getElem?_toArray, List.getElem?_cons_succ, List.getElem?_cons_zero]; rfl) (by kernel_rfl) (by kernel_rfl) (by kernel_rfl) (by kernel_rfl) (by exact fun _ _ _ h => h) (Or.inl ⟨by rfl, ?_⟩) (by exact hS0.out) ?_
    rotate_left
    ·intro w9 hSw
     go_simp
     all_goals with_reducible rfl
    try simp only [Act.put, List.setIfInBounds_toArray, List.set_cons_zero, List.set_cons_succ]
    refine wpAnyU_ready (rs := [4]) (by kernel_rfl) (by simp) ?_
    refine AllReadyU.cons (by simp only [List.getElem?_toArray, List.getElem?_cons_succ, List.getElem?_cons_zero]; rfl) (fun K hK => ?_) AllReadyU.nil
    (try go_simp)
    go_at_call 21
    refine (cSame.out _ _ _ _ _ (hrG.out _ hS0.out) (hrX.out _ hS0.out)).mono ?_
    rintro e K1 ⟨rfl, hb1⟩
    have hS1 : Hid (Below X.heap.size X K1) := hide (hS0.out.trans (hb1.mono hS0.out.size))
    clear hb1
    refine hK.out _ _ (fun _ => hS1.out) ?_
    clear hK K
    try simp only [Act.put, List.setIfInBounds_toArray, List.set_cons_zero, List.set_cons_succ]
    refine wpAnyU_take (i := 5) (v := ?_) (by simp only [List.getElem?_toArray, List.getElem?_cons_succ, List.getElem?_cons_zero]; rfl) (by kernel_rfl) (by kernel_rfl) (by kernel_rfl) (by kernel_rfl) (by exact fun _ _ _ h => h) (Or.inl ⟨by rfl, ?_⟩) (by exact hS1.out) ?_
    rotate_left
    ·intro w9 hSw
     go_simp
     all_goals with_reducible rfl
    try simp only [Act.put, List.setIfInBounds_toArray, List.set_cons_zero, List.set_cons_succ]
    refine wpAnyU_take (i := 6) (v := ?_) (by simp only [List.getElem?_toArray, List.getElem?_cons_succ, List.getElem?_cons_zero]; rfl) (by kernel_rfl) (by kernel_rfl) (by kernel_rfl) (by kernel_rfl) (by exact fun _ _ _ h => h) (Or.inl ⟨by rfl, ?_⟩) (by exact hS1.out) ?_
    rotate_left
    ·intro w9 hSw
     go_simp
     all_goals with_reducible rfl
    try simp only [Act.put, List.setIfInBounds_toArray, List.set_cons_zero, List.set_cons_succ]
    refine wpAnyU_take (i := 7) (v := ?_) (by simp only [List.getElem?_toArray, List.getElem?_cons_succ, List.getElem?_cons_zero]; rfl) (by kernel_rfl) (by kernel_rfl) (by kernel_rfl) (by kernel_rfl) (by exact fun _ _ _ h => h) (Or.inl ⟨by rfl, ?_⟩) (by exact hS1.out) ?_
    rotate_left
    ·intro w9 hSw
     go_simp
     all_goals with_reducible rfl
    try simp only [Act.put, List.setIfInBounds_toArray, List.set_cons_zero, List.set_cons_succ]
    refine wpAnyU_take (i := 8) (v := ?_) (by simp only [List.getElem?_toArray, List.getElem?_cons_succ, List.getElem?_cons_zero]; rfl) (by kernel_rfl) (by kernel_rfl) (by kernel_rfl) (by kernel_rfl) (by exact fun _ _ _ h => h) (Or.inl ⟨by rfl, ?_⟩) (by exact hS1.out) ?_
    rotate_left
    ·intro w9 hSw
     go_simp
     all_goals with_reducible rfl
    try simp only [Act.put, List.setIfInBounds_toArray, List.set_cons_zero, List.set_cons_succ]
    refine wpAnyU_take (i := 9) (v := ?_) (by simp only [List.getElem?_toArray, List.getElem?_cons_succ, List.getElem?_cons_zero]; rfl) (by kernel_rfl) (by kernel_rfl) (by kernel_rfl) (by kernel_rfl) (by exact fun _ _ _ h => h) (Or.inl ⟨by rfl, ?_⟩) (by exact hS1.out) ?_
    rotate_left
    ·intro w9 hSw
     go_simp
     all_goals with_reducible rfl
    try simp only [Act.put, List.setIfInBounds_toArray, List.set_cons_zero, List.set_cons_succ]
    refine wpAnyU_take (i := 10) (v := ?_) (by simp only [List.getElem?_toArray, List.getElem?_cons_succ, List.getElem?_cons_zero]; rfl) (by kernel_rfl) (by kernel_rfl) (by kernel_rfl) (by kernel_rfl) (by exact fun _ _ _ h => h) (Or.inl ⟨by rfl, ?_⟩) (by exact hS1.out) ?_
    rotate_left
    ·intro w9 hSw
     go_simp
     all_goals with_reducible rfl
    try simp only [Act.put, List.setIfInBounds_toArray, List.set_cons_zero, List.set_cons_succ]
    refine wpAnyU_take (i := 11) (v := ?_) (by simp only [List.getElem?_toArray, List.getElem?_cons_succ, List.getElem?_cons_zero]; rfl) (by kernel_rfl) (by kernel_rfl) (by kernel_rfl) (by kernel_rfl) (by exact fun _ _ _ h => h) (Or.inl ⟨by rfl, ?_⟩) (by exact hS1.out) ?_
    rotate_left
    ·intro w9 hSw
     go_simp
     all_goals with_reducible rfl
    try simp only [Act.put, List.setIfInBounds_toArray, List.set_cons_zero, List.set_cons_succ]
    refine wpAnyU_take (i := 12) (v := ?_) (by simp only [List.getElem?_toArray, List.getElem?_cons_succ, List.getElem?_cons_zero]; rfl) (by kernel_rfl) (by kernel_rfl) (by kernel_rfl) (by kernel_rfl) (by exact fun _ _ _ h => h) (Or.inl ⟨by rfl, ?_⟩) (by exact hS1.out) ?_
    rotate_left
    ·intro w9 hSw
     go_simp
     all_goals with_reducible rfl
    try simp only [Act.put, List.setIfInBounds_toArray, List.set_cons_zero, List.set_cons_succ]
    refine wpAnyU_take (i := 13) (v := ?_) (by simp only [List.getElem?_toArray, List.getElem?_cons_succ, List.getElem?_cons_zero]; rfl) (by kernel_rfl) (by kernel_rfl) (by kernel_rfl) (by kernel_rfl) (by exact fun _ _ _ h => h) (Or.inl ⟨by rfl, ?_⟩) (by exact hS1.out) ?_
    rotate_left
    ·intro w9 hSw
     go_simp
     all_goals with_reducible rfl
    try simp only [Act.put, List.setIfInBounds_toArray, List.set_cons_zero, List.set_cons_succ]
    refine wpAnyU_take (i := 14) (v := ?_) (by simp only [List.getElem?_toArray, List.getElem?_cons_succ, List.getElem?_cons_zero]; rfl) (by kernel_rfl) (by kernel_rfl) (by kernel_rfl) (by kernel_rfl) (by exact fun _ _ _ h => h) (Or.inl ⟨by rfl, ?_⟩) (by exact hS1.out) ?_
    rotate_left
    ·intro w9 hSw
     go_simp
     all_goals with_reducible rfl
    try simp only [Act.put, List.setIfInBounds_toArray, List.set_cons_zero, List.set_cons_succ]
    refine wpAnyU_take (i := 15) (v := ?_) (by simp only [List.getElem?_toArray, List.getElem?_cons_succ, List.getElem?_cons_zero]; rfl) (by kernel_rfl) (by kernel_rfl) (by kernel_rfl) (by kernel_rfl) (by exact fun _ _ _ h => h) (Or.inl ⟨by rfl, ?_⟩) (by exact hS1.out) ?_
    rotate_left
    ·intro w9 hSw
     go_simp
     all_goals with_reducible rfl
    try simp only [Act.put, List.setIfInBounds_toArray, List.set_cons_zero, List.set_cons_succ]
    refine wpAnyU_take (i := 16) (v := ?_) (by simp only [List.getElem?_toArray, List.getElem?_cons_succ, List.getElem?_cons_zero]; rfl) (by kernel_rfl) (by kernel_rfl) (by kernel_rfl) (by kernel_rfl) (by exact fun _ _ _ h => h) (Or.inl ⟨by rfl, ?_⟩) (by exact hS1.out) ?_
    rotate_left
    ·intro w9 hSw
     go_simp
     all_goals with_reducible rfl
    try simp only [Act.put, List.setIfInBounds_toArray, List.set_cons_zero, List.set_cons_succ]
    refine wpAnyU_take (i := 17) (v := ?_) (by simp only [List.getElem?_toArray, List.getElem?_cons_succ, List.getElem?_cons_zero]; rfl) (by kernel_rfl) (by kernel_rfl) (by kernel_rfl) (by kernel_rfl) (by exact fun _ _ _ h => h) (Or.inl ⟨by rfl, ?_⟩) (by exact hS1.out) ?_
    rotate_left
    ·intro w9 hSw
     go_simp
     all_goals with_reducible rfl
    try simp only [Act.put, List.setIfInBounds_toArray, List.set_cons_zero, List.set_cons_succ]
    refine wpAnyU_take (i := 19) (v := ?_) (by simp only [List.getElem?_toArray, List.getElem?_cons_succ, List.getElem?_cons_zero]; rfl) (by kernel_rfl) (by kernel_rfl) (by kernel_rfl) (by kernel_rfl) (by exact fun _ _ _ h => h) (Or.inl ⟨by rfl, ?_⟩) (by exact hS1.out) ?_
    rotate_left
    ·intro w9 hSw
     go_simp
     all_goals with_reducible rfl
    try simp only [Act.put, List.setIfInBounds_toArray, List.set_cons_zero, List.set_cons_succ]
    refine wpAnyU_ready (rs := [18]) (by kernel_rfl) (by simp) ?_
    refine AllReadyU.cons (by simp only [List.getElem?_toArray, List.getElem?_cons_succ, List.getElem?_cons_zero]; rfl) (fun K hK => ?_) AllReadyU.nil
    (try go_simp)
    go_at_call 17
    refine (cSg.out _ _ _ (hrG.out _ hS1.out)).mono ?_
    rintro e K2 ⟨rfl, hb2⟩
    have hS2 : Hid (Below X.heap.size X K2) := hide (hS1.out.trans (hb2.mono hS1.out.size))
    clear hb2
    refine hK.out _ _ (fun _ => hS2.out) ?_
    clear hK K
    try simp only [Act.put, List.setIfInBounds_toArray, List.set_cons_zero, List.set_cons_succ]
    refine wpAnyU_ready (rs := [20]) (by kernel_rfl) (by simp) ?_
    refine AllReadyU.cons (by simp only [List.getElem?_toArray, List.getElem?_cons_succ, List.getElem?_cons_zero]; rfl) (fun K hK => ?_) AllReadyU.nil
    (try go_simp)
    go_at_call 17
    refine (cSzf'.out _ hS2.out).mono ?_
    rintro e K3 ⟨rfl, hb3⟩
    have hS3 : Hid (Below X.heap.size X K3) := hide (hS2.out.trans (hb3.mono hS2.out.size))
    clear hb3
    refine hK.out _ _ (fun _ => hS3.out) ?_
    clear hK K
    try simp only [Act.put, List.setIfInBounds_toArray, List.set_cons_zero, List.set_cons_succ]
    refine wpAnyU_take (i := 21) (v := ?_) (by simp only [List.getElem?_toArray, List.getElem?_cons_succ, List.getElem?_cons_zero]; rfl) (by kernel_rfl) (by kernel_rfl) (by kernel_rfl) (by kernel_rfl) (by exact fun _ _ _ h => h) (Or.inl ⟨by rfl, ?_⟩) (by exact hS3.out) ?_
    rotate_left
    ·intro w9 hSw
     go_simp
     all_goals with_reducible rfl
    try simp only [Act.put, List.setIfInBounds_toArray, List.set_cons_zero, List.set_cons_succ]
    refine wpAnyU_take (i := 22) (v := ?_) (by simp only [List.getElem?_toArray, List.getElem?_cons_succ, List.getElem?_cons_zero]; rfl) (by kernel_rfl) (by kernel_rfl) (by kernel_rfl) (by kernel_rfl) (by exact fun _ _ _ h => h) (Or.inl ⟨by rfl, ?_⟩) (by exact hS3.out) ?_
    rotate_left
    ·intro w9 hSw
     go_simp
     all_goals with_reducible rfl
    try simp only [Act.put, List.setIfInBounds_toArray, List.set_cons_zero, List.set_cons_succ]
    refine wpAnyU_take (i := 23) (v := ?_) (by simp only [List.getElem?_toArray, List.getElem?_cons_succ, List.getElem?_cons_zero]; rfl) (by kernel_rfl) (by kernel_rfl) (by kernel_rfl) (by kernel_rfl) (by exact fun _ _ _ h => h) (Or.inl ⟨by rfl, ?_⟩) (by exact hS3.out) ?_
    rotate_left
    ·intro w9 hSw
     go_simp
     all_goals with_reducible rfl
    try simp only [Act.put, List.setIfInBounds_toArray, List.set_cons_zero, List.set_cons_succ]
    refine wpAnyU_take (i := 24) (v := ?_) (by simp only [List.getElem?_toArray, List.getElem?_cons_succ, List.getElem?_cons_zero]; rfl) (by kernel_rfl) (by kernel_rfl) (by kernel_rfl) (by kernel_rfl) (by exact fun _ _ _ h => h) (Or.inl ⟨by rfl, ?_⟩) (by exact hS3.out) ?_
    rotate_left
    ·intro w9 hSw
     go_simp
     all_goals with_reducible rfl
    try simp only [Act.put, List.setIfInBounds_toArray, List.set_cons_zero, List.set_cons_succ]
    refine wpAnyU_take (i := 25) (v := ?_) (by simp only [List.getElem?_toArray, List.getElem?_cons_succ, List.getElem?_cons_zero]; rfl) (by kernel_rfl) (by kernel_rfl) (by kernel_rfl) (by kernel_rfl) (by exact fun _ _ _ h => h) (Or.inl ⟨by rfl, ?_⟩) (by exact hS3.out) ?_
    rotate_left
    ·intro w9 hSw
     go_simp
     all_goals with_reducible rfl
    try simp only [Act.put, List.setIfInBounds_toArray, List.set_cons_zero, List.set_cons_succ]
    refine wpAnyU_take (i := 26) (v := ?_) (by simp only [List.getElem?_toArray, List.getElem?_cons_succ, List.getElem?_cons_zero]; rfl) (by kernel_rfl) (by kernel_rfl) (by kernel_rfl) (by kernel_rfl) (by exact fun _ _ _ h => h) (Or.inl ⟨by rfl, ?_⟩) (by exact hS3.out) ?_
    rotate_left
    ·intro w9 hSw
     go_simp
     all_goals with_reducible rfl
    try simp only [Act.put, List.setIfInBounds_toArray, List.set_cons_zero, List.set_cons_succ]
    refine wpAnyU_take (i := 27) (v := ?_) (by simp only [List.getElem?_toArray, List.getElem?_cons_succ, List.getElem?_cons_zero]; rfl) (by kernel_rfl) (by kernel_rfl) (by kernel_rfl) (by kernel_rfl) (by exact fun _ _ _ h => h) (Or.inl ⟨by rfl, ?_⟩) (by exact hS3.out) ?_
    rotate_left
    ·intro w9 hSw
     go_simp
     all_goals with_reducible rfl
    try simp only [Act.put, List.setIfInBounds_toArray, List.set_cons_zero, List.set_cons_succ]
    refine wpAnyU_take (i := 28) (v := ?_) (by simp only [List.getElem?_toArray, List.getElem?_cons_succ, List.getElem?_cons_zero]; rfl) (by kernel_rfl) (by kernel_rfl) (by kernel_rfl) (by kernel_rfl) (by exact fun _ _ _ h => h) (Or.inl ⟨by rfl, ?_⟩) (by exact hS3.out) ?_
    rotate_left
    ·intro w9 hSw
     go_simp
     all_goals with_reducible rfl
    try simp only [Act.put, List.setIfInBounds_toArray, List.set_cons_zero, List.set_cons_succ]
    refine wpAnyU_done (by kernel_rfl) ?_ _
    replace hS0 := hide hS3.out
    have hrR := hrG.out K3 hS3.out
    have cR9 : Hid (Calls Try.prog 22 #[.agg #[.string R.name, .slice Ac nq Cc, .int .i64 R.ret, .slice Ad q Cd]] K3 (ReachPost q (reachF R.blocks) K3)) := hide (cRe.out _ _ K3 hrR)
    have w0' := u0' K3 hS3.out
    have w1' := u1' K3 hS3.out
    have w2' := u2' K3 hS3.out
    have w3' := u3' K3 hS3.out
    replace hrR := hide hrR
    go_wp2_with (fail)
    refine cR9.out.mono ?_
    rintro e K4 ⟨gr, rfl, hrr, hb4⟩
    obtain ⟨-, hrd⟩ := bool_reads hrr
    have hS4 : Below X.heap.size X K4 := hS3.out.trans (hb4.mono hS3.out.size)
    have hself4 := Below.refl K4.heap.size K4
    have h4X : Hid (∀ w', Below K4.heap.size K4 w' → Below X.heap.size X w') := hide (fun w' h => hS4.trans (h.mono hS4.size))
    have hq64 : q ≤ 2000000 := by omega
    replace hrr := hide hrr
    replace hrd := hide hrd
    replace hb4 := hide hb4
    clear w0' w1' w2' w3' cR9
    go_wp2
    go_loopw [69] (fun s wr => ∃ b : Nat, s = .int .i64 b ∧ b ≤ q ∧ Below K4.heap.size K4 wr) (fun s _ => q - (intOf s).toNat)
    case atStart => exact ⟨0, rfl, Nat.zero_le _, hself4⟩
    case round =>
     clear hself4
     rename World => V5
     obtain ⟨b, rfl, hb, hb5⟩ := hrel
     by_cases hltb : b < q
     ·have hbi : (b : Int) < (q : Int) := by omega
      have rr := hrd.out b true (hreach.out b (by rw [← hq.out]; exact hltb)) V5 hb5
      go_wp2
      go_roundw
      case rel => exact ⟨b + 1, by go_num, hltb, hb5⟩
      case measure => simp [intOf]; omega
     ·have hX5 := h4X.out V5 hb5
      have w3' := u3' V5 hX5
      have hself5 := Below.refl V5.heap.size V5
      have h5X : Hid (∀ w', Below V5.heap.size V5 w' → Below X.heap.size X w') := hide (fun w' h => hX5.trans (h.mono hX5.size))
      obtain ⟨-, gb5⟩ := fun_open (hrG.out V5 hX5)
      obtain ⟨A9, C9, h9, -, gb⟩ := Rp.slice1_open gb5
      obtain ⟨h91, h92, h93⟩ := Value.slice.inj (List.cons.inj h9).1
      subst h91
      clear h9 h92 h93
      replace gb := hide gb
      replace gb5 := hide gb5
      go_wp2
      clear w3'
      go_loopw [79] (fun s wr => ∃ k : Nat, s = .int .i64 k ∧ k ≤ q ∧ Below V5.heap.size V5 wr) (fun s _ => q - (intOf s).toNat)
      case atStart => exact ⟨0, rfl, Nat.zero_le _, hself5⟩
      case round =>
       clear hself5
       rename World => V6
       obtain ⟨k, rfl, hk, hb6⟩ := hrel
       have hV6s := hb6.size
       by_cases hltk : k < q
       ·have hki : (k : Int) < (q : Int) := by omega
        obtain ⟨x, hx⟩ := get_ex (l := R.blocks) (k := k) (by rw [← hq.out]; exact hltk)
        obtain ⟨b2, o2, hA2, he1⟩ := gb.out (by rw [← hq.out]; omega)
        subst hA2
        obtain ⟨d1, hr1, hd1⟩ := he1 k x hx.out
        obtain ⟨A3, c3, h3, hm3, ga⟩ := Rp.slice_open hr1
        cases h3
        replace ga := hide ga
        have hd1V := hd1 V6 hb6
        obtain ⟨lx, hlx⟩ : ∃ lx, Hid (lx = x.length) := ⟨_, hide rfl⟩
        rw [← hlx.out] at hd1V hm3
        clear hd1 hr1 he1
        have hb60 : Below V5.heap.size V5 (V6.alloc (.cells #[.slice A3 lx c3] 36)) := hb6.alloc hV6s _
        go_wp2
        go_loopw [86] (fun s wr => ∃ j : Nat, s = .int .i64 j ∧ j ≤ lx ∧ Below V5.heap.size V5 wr) (fun s _ => lx - (intOf s).toNat)
        case atStart => exact ⟨0, rfl, Nat.zero_le _, hb60⟩
        case round =>
         clear hb60
         rename World => V7
         obtain ⟨j, rfl, hj, hb7⟩ := hrel
         have hV7s := hb7.size
         by_cases hltj : j < lx
         ·have hjj : (j : Int) < (lx : Int) := by omega
          obtain ⟨b3, o3, hA3, he3⟩ := ga.out (by rw [← hlx.out]; omega)
          subst hA3
          obtain ⟨ins, hins⟩ := get_ex (l := x) (k := j) (by rw [← hlx.out]; exact hltj)
          obtain ⟨_, _, ⟨a1, a2, rfl, ha, hto, -, hokr, -⟩, hc⟩ := he3 j ins hins.out
          obtain ⟨A7, k7, h7, hm7, gg⟩ := Rp.slice_open ha
          obtain ⟨A8, k8, h8, hm8, -⟩ := Rp.slice1_open hto
          cases h7; cases h8
          replace gg := hide gg
          obtain ⟨e0, e1, e2, e3, e4, e5, e6⟩ := hc.seven
          replace e0 := e0 V7 hb7
          replace e1 := e1 V7 hb7
          replace e2 := e2 V7 hb7
          replace e3 := e3 V7 hb7
          replace e4 := e4 V7 hb7
          replace e5 := e5 V7 hb7
          replace e6 := e6 V7 hb7
          clear he3 ha hto hc hokr
          obtain ⟨na, hna⟩ : ∃ na, Hid (na = ins.args.length) := ⟨_, hide rfl⟩
          rw [← hna.out] at e5 hm7
          have hxm := List.mem_of_getElem? hx.out
          have him := List.mem_of_getElem? hins.out
          obtain ⟨g32, g25⟩ := hins9.out x hxm ins him
          have hbrif := ((hTRh.out.loc k x hx.out).wf.brif ins him)
          obtain ⟨P, hP, hwP, hPs, hpc⟩ := boxes1 V7 #[.int .i64 ins.op, .int .i64 ins.reg, .int .i64 ins.ty, .int .i64 ins.num, .int .i64 ins.flags, .slice A7 na k7, .slice A8 ins.to.length k8] 39
          have z0 := hpc 0 _ rfl P (Below.refl _ _)
          have z5 := hpc 5 _ rfl P (Below.refl _ _)
          have hbP : Below V5.heap.size V5 P := hb7.trans (hwP.mono hV7s)
          replace hwP := hide hwP
          replace hPs := hide hPs
          replace hP := hide hP
          clear hpc
          go_upto_region 24 with (fail)
          rw [hP.out]
          clear e0 e1 e2 e3 e4 e5 e6
          by_cases h32 : ins.op = 32
          ·have hn1 := (hbrif h32).2
           have hk2 := g32 h32
           obtain ⟨z, hz⟩ := get_ex (l := ins.args) (k := 0) (by omega)
           obtain ⟨b4, o4, hA4, he4⟩ := gg.out (by omega)
           subst hA4
           obtain ⟨es4, hel4, hr4, hc4⟩ := he4 0 z hz.out
           have hes4 : es4 = [.int .i64 z.kind, .int .i64 z.num, .int .u64 z.bits] := hr4.1
           subst hes4
           obtain ⟨l0, -, -⟩ := hc4.three
           have p00 := l0 P hbP
           rw [Nat.zero_mul, Nat.add_zero] at p00
           clear l0 hc4 hr4 hel4
           have hzk : z.kind ≠ 2 := by
            rw [List.getD_eq_getElem?_getD, hz.out] at hk2
            exact hk2
           have g1 : (ins.op == 32) = true := by rw [h32]; rfl
           have g2 : ((na : Int) == 1) = true := by rw [hna.out, hn1]; rfl
           have g3 : (z.kind == 2) = false := by rw [beq_eq_false_iff_ne]; exact hzk
           have g4 : (ins.op == 25) = false := by rw [h32]; rfl
           have hna1 : na = 1 := by rw [hna.out]; exact hn1
           have hna0 : (0 : Int) < (na : Int) := by omega
           replace hna1 := hide hna1
           replace h32 := hide h32
           replace hn1 := hide hn1
           replace hk2 := hide hk2
           replace hzk := hide hzk
           replace g32 := hide g32
           replace g25 := hide g25
           replace hbrif := hide hbrif
           clear he4
           go_wp2
           go_roundw
           case rel => exact ⟨j + 1, by go_num, hltj, hbP⟩
           case measure => simp [intOf]; omega
          ·have g1 : (ins.op == 32) = false := by rw [beq_eq_false_iff_ne]; exact h32
           by_cases h25 : ins.op = 25
           ·have hn2 := g25 h25
            have g4 : (ins.op == 25) = true := by rw [h25]; rfl
            have g5 : decide ((na : Int) < 2) = false := decide_eq_false (by have := hna.out; omega)
            have g6 : ¬ ((na : Int) < 2) := by have := hna.out; omega
            replace h32 := hide h32
            replace h25 := hide h25
            replace hn2 := hide hn2
            replace g32 := hide g32
            replace g25 := hide g25
            replace hbrif := hide hbrif
            go_wp2
            go_roundw
            case rel => exact ⟨j + 1, by go_num, hltj, hbP⟩
            case measure => simp [intOf]; omega
           ·have g4 : (ins.op == 25) = false := by rw [beq_eq_false_iff_ne]; exact h25
            replace h32 := hide h32
            replace h25 := hide h25
            replace g32 := hide g32
            replace g25 := hide g25
            replace hbrif := hide hbrif
            go_wp2
            go_roundw
            case rel => exact ⟨j + 1, by go_num, hltj, hbP⟩
            case measure => simp [intOf]; omega
         ·go_wp2
          go_roundw
          case rel => exact ⟨k + 1, by go_num, hltk, hb7⟩
          case measure => simp [intOf]; omega
       ·have hfx := hXw.out V6 (h5X.out V6 hb6)
        go_wp2
        go_roundw
        case rel => exact ⟨i + 1, by go_num, hlt, hfx⟩
        case measure => simp [intOf]; omega
   ·have hfin : Hid (Below w.heap.size w V) := hide (hwX.out V hbel)
    go_wp2
    go_ret
    exact ⟨rfl, hfin.out⟩
end Go.Proofs.Ytamjcafjdioidaa
