/- Texts of the chain, without what is not wanted: TdZ. No condition but sizes. -/
import Derived.WalkKit
import Derived.Deep.Slices
import Derived.Deep.Draws
import Derived.ChangeSame
import Derived.ChangeOld
import Derived.OwnWalk
import Derived.Laws.OwnMore
import Derived.Deep.AppendLies
import Derived.Test.YtamjcafjdioidaaRows
import Derived.ProofKit
import Derived.OpenShut
import Derived.JoinedCond
import Derived.WalkSpells
import Derived.WalkLawsBesides
import Derived.Deep.RegionHeld3
import Derived.Deep.LoopGhost
import Derived.Deep.QuietTactic
import Derived.BigQuiet
import Derived.Deep.DeepCutAuto
import Derived.Deep.CutBlock
import Derived.StillTailTactics
import Derived.Deep.RegionLaw
import Derived.Lib.SliceRun
import Derived.Laws.IdiomCopy
import Derived.Deep.MidRow
import Derived.Lib.Overlaps
import Derived.RegionTactic
import Derived.Deep.RegionLawGrows
import Derived.Laws.Externs
import Derived.Laws.Bits64b
import Derived.Lib.Mul64
import Derived.Test.YtamjcafjdioidaaUm01
import Derived.Test.YtamjcafjdioidaaUm02
import Derived.Test.YtamjcafjdioidaaUm03
import Derived.Test.YtamjcafjdioidaaUm04
import Derived.Test.YtamjcafjdioidaaUm05
import Derived.Test.YtamjcafjdioidaaUm06
import Derived.Test.YtamjcafjdioidaaUm07
import Derived.Test.YtamjcafjdioidaaUm08
import Derived.Test.YtamjcafjdioidaaUm09
import Derived.Test.YtamjcafjdioidaaUm10
import Derived.Test.YtamjcafjdioidaaUm11
import Derived.Test.YtamjcafjdioidaaUm12
import Derived.Test.YtamjcafjdioidaaUm13
import Derived.Test.YtamjcafjdioidaaUm14
import Derived.Test.YtamjcafjdioidaaUm15
import Derived.Test.YtamjcafjdioidaaUm16
import Derived.Test.YtamjcafjdioidaaUm17
import Derived.Test.YtamjcafjdioidaaUm18
import Derived.Test.YtamjcafjdioidaaUm19
import Derived.Test.YtamjcafjdioidaaUm20
import Derived.Test.YtamjcafjdioidaaUm21
import Derived.Test.YtamjcafjdioidaaUm22
import Derived.Test.YtamjcafjdioidaaUm23
import Derived.Test.YtamjcafjdioidaaUm24
import Derived.Test.YtamjcafjdioidaaUm25
import Derived.Test.YtamjcafjdioidaaUm26
import Derived.Test.YtamjcafjdioidaaUm27
import Derived.Test.YtamjcafjdioidaaUm28
import Derived.Test.YtamjcafjdioidaaUm29
import Derived.Test.YtamjcafjdioidaaUm30
import Derived.Test.YtamjcafjdioidaaUm31
import Derived.Test.YtamjcafjdioidaaUm32
import Derived.Test.YtamjcafjdioidaaUm33
import Derived.Test.YtamjcafjdioidaaUm34
import Derived.Test.YtamjcafjdioidaaUm35
import Derived.Test.YtamjcafjdioidaaUm36
import Derived.Test.YtamjcafjdioidaaUm37
import Derived.Test.YtamjcafjdioidaaUm38
import Derived.Test.YtamjcafjdioidaaUm39
import Derived.Test.YtamjcafjdioidaaUm40
import Derived.Test.YtamjcafjdioidaaUm41
import Derived.Test.YtamjcafjdioidaaUm42
import Derived.Test.YtamjcafjdioidaaUm43
import Derived.Test.YtamjcafjdioidaaUm44
import Derived.Test.YtamjcafjdioidaaUm45
import Derived.Test.YtamjcafjdioidaaUm46
import Derived.Test.YtamjcafjdioidaaUm47
import Derived.Test.YtamjcafjdioidaaUm48
import Derived.Test.YtamjcafjdioidaaUm49
import Derived.Test.YtamjcafjdioidaaUm50
import Derived.Test.YtamjcafjdioidaaUm51
namespace Go.Proofs.Ytamjcafjdioidaa
open Go.RowKit
set_option linter.unusedSimpArgs false
set_option linter.unusedVariables false
theorem right_fun17 {m : Mod} {f : Fun} (h : rightB m = true) (hf : f ∈ m.funcs) : FunRight m f := by
 obtain ⟨i, hi⟩ := List.mem_iff_getElem?.1 hf
 exact (dec8_iff.1 h).2 i f hi
def AllP (R : Fun) (w : World) (e : Ending) (w' : World) : Prop := ∃ c d, e = .returned (.agg #[.string R.name, c, .int .i64 R.ret, d]) ∧ RFun.rep w' w'.heap.size [.string R.name, c, .int .i64 R.ret, d] R ∧ Below w.heap.size w w'
theorem box_apart {w : World} {N : Nat} {cs : Array Value} {d : Value} {bs : List (List Ins)} {xs : List Value} {ess : List (List (Value × Value))} (h : OwnKd w 0 d bs xs ess) (hN : w.heap[N]? = some (.cells cs 32 (0, 0))) : ¬ TB d xs ess N := by
 have tN : ∃ c, w.heap[N]? = some (.cells c 32 (0, 0)) := ⟨_, hN⟩
 rintro (h1 | ⟨x, hx, h1⟩ | ⟨es, e, he, hee, h1⟩)
 ·exact ty_ne (row_lt h.row h1).2.2 tN (by decide) rfl
 ·obtain ⟨i, hi⟩ := List.mem_iff_getElem?.1 hx
  obtain ⟨b, es, -, -, hc⟩ := h.code_at hi
  exact ty_ne (row_lt hc.row h1).2.2 tN (by decide) rfl
 ·obtain ⟨i, hi⟩ := List.mem_iff_getElem?.1 he
  obtain ⟨j, hj⟩ := List.mem_iff_getElem?.1 hee
  have hil := (List.getElem?_eq_some_iff.1 hi).1
  have l1 := h.lenx
  have l2 := h.lene
  have hc := h.inn i _ _ es (List.getElem?_eq_getElem (by omega)) (List.getElem?_eq_getElem (by omega)) hi
  have hjl := (List.getElem?_eq_some_iff.1 hj).1
  have l3 := hc.len
  obtain ⟨g1, g2, -⟩ := hc.inn j _ e (List.getElem?_eq_getElem (by omega)) hj
  rcases h1 with h1 | h1
  ·exact ty_ne (row_lt g1.row h1).2.2 tN (by decide) rfl
  ·exact ty_ne (row_lt g2.row h1).2.2 tN (by decide) rfl
theorem OwnK2.boxed {w w' : World} {B N : Nat} {cs : Array Value} {d : Value} {bs : List (List Ins)} (h : OwnK2 w B d bs) (hN : w.heap[N]? = some (.cells cs 32 (0, 0))) (hk : ∀ k, k ≠ N → w'.heap[k]? = w.heap[k]?) : OwnK2 w' 0 d bs := by
 obtain ⟨xs, ess, h⟩ := h
 have h0 := h.mono (Nat.zero_le B)
 exact ⟨xs, ess, h0.tb_kept fun k _ h2 => hk k fun e => box_apart h0 hN (e ▸ h2)⟩
theorem OwnK2.rep {w : World} {B : Nat} {d : Value} {bs : List (List Ins)} (h : OwnK2 w B d bs) : RBlks.rep w w.heap.size [d] bs := by
 obtain ⟨xs, ess, h⟩ := h
 exact h.own.rep
theorem AllPost.p {f : Fun} {w w' : World} {e : Ending} (h : AllPost f w e w') : AllP (setBlocks f (allS f.blocks)) w e w' := by
 obtain ⟨T, N, c, d, h1, h2, -, -, -, h3⟩ := h
 exact ⟨c, d, h1, h2.rep, h3⟩
theorem deadB_own {w : World} : OwnC2 (w.alloc (.cells #[.int .i64 34, .int .i64 (-1), .int .i64 0, .int .i64 0, .int .i64 0, .slice none 0 0, .slice none 0 0] 39)) w.heap.size (.slice (some ⟨w.heap.size, 0, none⟩) 1 1) deadB := by
 refine ⟨[(.slice none 0 0, .slice none 0 0)], rfl, ⟨rfl, .inr ⟨w.heap.size, 1, _, rfl, Nat.le_refl _, box_top _ _, Nat.le_refl _, by simp [maxLen], rfl, rfl⟩⟩, fun i x e hx he => ?_, nd_one _, nd_one _⟩
 cases i with
 | zero =>
  cases hx; cases he
  exact ⟨OwnV.nil_, OwnI.nil_, (by show I64 34; decide), (by show I64 (-1); decide), (by show I64 0; decide), (by show I64 0; decide), (by show I64 0; decide)⟩
 | succ i => simp [deadB] at hx
set_option maxRecDepth 100000 in
set_option maxHeartbeats 6400000 in
theorem law_tidy_unseen (m : Mod) (m1 m2 m3 : Value) (w : World) (ha : RMod.rep w w.heap.size [m1, m2, m3] m) (hsz : ∀ f, f ∈ m.funcs → funSz f ≤ 1900000) :
  Calls Try.prog 5 #[m.v m1 m2 m3] w (RetB true w) := by
 obtain ⟨M1, v1, j1, M2, v2, j2, M3, v3, j3, hmf⟩ := mod_forms ha
 obtain ⟨e1, e2, e3⟩ := hmf
 subst e1 e2 e3
 obtain ⟨A5, k5, hM3, hl5, gf⟩ := funs_at (mod_open (RMod.later ha (Below.refl _ _) (Nat.le_refl _))).2.2
 have hv3 : v3 = m.funcs.length := by cases hM3; rfl
 have hM3' : M3 = A5 ∧ j3 = k5 := by cases hM3; exact ⟨rfl, rfl⟩
 obtain ⟨e1, e2⟩ := hM3'
 subst e1 e2
 clear hM3
 rw [← hv3] at hl5 gf
 replace gf := hide gf
 replace hv3 := hide hv3
 obtain ⟨W, hW, hwW, hWs, hx⟩ := boxes1 w #[.slice M1 v1 j1, .slice M2 v2 j2, .slice M3 v3 j3] 26
 have p0 : ∀ w', Below W.heap.size W w' → w'.cell? ⟨w.heap.size, 0, none⟩ = some (.slice M1 v1 j1) := hx 0 _ rfl
 have p1 : ∀ w', Below W.heap.size W w' → w'.cell? ⟨w.heap.size, 1, none⟩ = some (.slice M2 v2 j2) := hx 1 _ rfl
 have p2 : ∀ w', Below W.heap.size W w' → w'.cell? ⟨w.heap.size, 2, none⟩ = some (.slice M3 v3 j3) := hx 2 _ rfl
 clear hx
 have hws : w.heap.size ≤ W.heap.size := by omega
 replace hsz := hide hsz
 have hself := Below.refl W.heap.size W
 have hwX : Hid (∀ w', Below W.heap.size W w' → Below w.heap.size w w') := hide (fun w' h => hwW.trans (h.mono hws))
 obtain ⟨rb, hrb⟩ : ∃ rb, Hid (rb = rightB m) := ⟨_, hide rfl⟩
 have cR : Hid (∀ w', Below W.heap.size W w' → Calls Try.prog 8 #[m.v (.slice M1 v1 j1) (.slice M2 v2 j2) (.slice M3 v3 j3)] w' (RetB rb w')) := hide (fun w' h => by
  rw [hrb.out]
  exact right_any m _ _ _ w' w'.heap.size (Nat.le_refl _) (RMod.later ha (hwX.out w' h) (hwX.out w' h).size) (fun f hf => by have := hsz.out f hf; omega))
 have cL : Hid (∀ w', Below W.heap.size W w' → Calls Try.prog 16 #[m.v (.slice M1 v1 j1) (.slice M2 v2 j2) (.slice M3 v3 j3)] w' (SomeBit w')) := hide (fun w' h => long16_any m _ _ _ w' (RMod.later ha (hwX.out w' h) (hwX.out w' h).size) (fun f hf => by have := hsz.out f hf; omega))
 replace ha := hide ha
 replace hWs := hide hWs
 replace hW := hide hW
 replace hwW := hide hwW
 obtain ⟨p0', hp0, hp1, hp2, hp3⟩ := cinfo_parts cinfo_Block
 replace hp0 := hide hp0
 replace hp1 := hide hp1
 replace hp2 := hide hp2
 replace hp3 := hide hp3
 go_enter Try.func5, Try.ntmps5
 go_upto_region 1 with (fail)
 rw [hW.out]
 clear hW
 go_wp2_with (fail)
 refine (lives17_any _).mono ?_
 rintro e w1 ⟨rfl, hb1⟩
 have hk1 := hself.trans (hb1.mono hself.size)
 clear hb1 hself
 go_wp2_with (fail)
 refine (cL.out _ hk1).mono ?_
 rintro e w2 ⟨lb, rfl, hb2⟩
 have hk2 := hk1.trans (hb2.mono hk1.size)
 clear hb2 cL hk1
 cases lb with
 | true =>
  have hfin := hide (hwX.out _ hk2)
  go_wp2
  go_ret
  exact ⟨rfl, hfin.out⟩
 | false =>
 go_wp2_with (fail)
 refine (cR.out _ hk2).mono ?_
 rintro e w3 ⟨rfl, hb3⟩
 have hk3 := hk2.trans (hb3.mono hk2.size)
 clear hb3 cR hk2
 cases rb with
 | false =>
  have hfin := hide (hwX.out _ hk3)
  go_wp2
  go_ret
  exact ⟨rfl, hfin.out⟩
 | true =>
  have hright : Hid (∀ f, f ∈ m.funcs → FunRight m f) := hide (fun f hf => right_fun17 hrb.out.symm hf)
  go_wp2
  go_loopw [18] (fun s wr => ∃ i : Nat, s = .int .i64 i ∧ i ≤ v3 ∧ Below W.heap.size W wr) (fun s _ => v3 - (intOf s).toNat)
  case atStart => exact ⟨0, rfl, Nat.zero_le _, hk3⟩
  case round =>
   clear hk3
   rename World => V
   obtain ⟨i, rfl, hi, hbel⟩ := hrel
   have hVs := hbel.size
   by_cases hlt : i < v3
   ·have hii : (i : Int) < (v3 : Int) := by omega
    obtain ⟨f, hf⟩ := get_ex (l := m.funcs) (k := i) (by rw [← hv3.out]; exact hlt)
    obtain ⟨b1, o1, hA1, he⟩ := gf.out (by omega)
    subst hA1
    obtain ⟨cp, ep, hra, hc⟩ := he i f hf.out
    obtain ⟨hrp, hrb'⟩ := fun_open hra
    obtain ⟨A1, k1, h1, hnp, -⟩ := Rp.slice1_open hrp
    obtain ⟨A2, k2, h2, hmb, -⟩ := Rp.slice1_open hrb'
    cases h1; cases h2
    have hfz := hide (hsz.out f (List.mem_of_getElem? hf.out))
    have hsm : Hid (Small f) := hide (small_of (by have := hfz.out; omega))
    have hti := hide (fun_tinv (hright.out f (List.mem_of_getElem? hf.out)) hsm.out)
    obtain ⟨np, hnpe⟩ : ∃ np, Hid (np = f.params.length) := ⟨_, hide rfl⟩
    obtain ⟨n, hn⟩ : ∃ n, Hid (n = f.blocks.length) := ⟨_, hide rfl⟩
    have hmzf : Hid (mz f.blocks + 2 ≤ 2000000) := hide (by
     obtain ⟨⟨⟨h1, h2, h3⟩, -⟩, -⟩ := hright.out f (List.mem_of_getElem? hf.out)
     have := mz_flat f.blocks
     omega)
    have hn2 : n ≤ 2000000 := by rw [hn.out]; exact hsm.out.blocks
    rw [← hnpe.out, ← hn.out] at hra hc
    rw [← hnpe.out] at hnp
    rw [← hn.out] at hmb
    obtain ⟨s0, s1, s2, s3⟩ := hc.four
    have s0 := s0 V (hwX.out V hbel)
    have s1 := s1 V (hwX.out V hbel)
    have s2 := s2 V (hwX.out V hbel)
    have s3 := s3 V (hwX.out V hbel)
    obtain ⟨Z, hZ, hwZ, hZs, hzc⟩ := boxes1 V #[.string f.name, .slice A1 np k1, .int .i64 f.ret, .slice A2 n k2] 32
    have t0 : ∀ w', Below Z.heap.size Z w' → w'.cell? ⟨V.heap.size, 0, none⟩ = some (.string f.name) := hzc 0 _ rfl
    have t1 : ∀ w', Below Z.heap.size Z w' → w'.cell? ⟨V.heap.size, 1, none⟩ = some (.slice A1 np k1) := hzc 1 _ rfl
    have t2 : ∀ w', Below Z.heap.size Z w' → w'.cell? ⟨V.heap.size, 2, none⟩ = some (.int .i64 f.ret) := hzc 2 _ rfl
    have t3 : ∀ w', Below Z.heap.size Z w' → w'.cell? ⟨V.heap.size, 3, none⟩ = some (.slice A2 n k2) := hzc 3 _ rfl
    have T0 := hide t0
    have T1 := hide t1
    have T2 := hide t2
    have T3 := hide t3
    have hbZ : Below W.heap.size W Z := hbel.trans (hwZ.mono hVs)
    have hZW : Hid (∀ w', Below Z.heap.size Z w' → Below W.heap.size W w') := hide (fun w' h => hbZ.trans (h.mono hbZ.size))
    have hZw : Hid (∀ w', Below Z.heap.size Z w' → Below w.heap.size w w') := hide (fun w' h => hwX.out w' (hZW.out w' h))
    have hF : Hid (∀ w', Below Z.heap.size Z w' → RFun.rep w' w'.heap.size [.string f.name, .slice A1 np k1, .int .i64 f.ret, .slice A2 n k2] f) := hide (fun w' h => RFun.later hra (hZw.out w' h) (hZw.out w' h).size)
    have hselfZ := Below.refl Z.heap.size Z
    have cC : Hid (Calls Try.prog 13 #[f.v (.slice A1 np k1) (.slice A2 n k2)] Z (CopyTree f Z)) := hide (rcopytree_any f _ _ Z Z.heap.size (Nat.le_refl _) (hF.out Z hselfZ) hsm.out)
    obtain ⟨R, hR⟩ : ∃ R, Hid (R = setBlocks f (allS f.blocks)) := ⟨_, hide rfl⟩
    have hRn : Hid (R.name = f.name ∧ R.ret = f.ret) := hide (by rw [hR.out]; exact ⟨rfl, rfl⟩)
    have cAf : Hid (∀ w', Below Z.heap.size Z w' → Calls Try.prog 19 #[f.v (.slice A1 np k1) (.slice A2 n k2)] w' (AllP R w')) := hide (fun w' h => by
     rw [hR.out]
     exact (tall_any f (TInv.inv hsm.out.params) hti.out _ _ w' w'.heap.size (Nat.le_refl _) (hF.out w' h)).mono fun e w'' hp => hp.p)
    have cAg : Hid (∀ c d w', RFun.rep w' w'.heap.size [.string f.name, c, .int .i64 f.ret, d] (setBlocks f (f.blocks ++ [deadB])) → Calls Try.prog 19 #[f.v c d] w' (AllP R w')) := hide (fun c d w' h => by
     have e1 := all_app (f := f) hsm.out.params (mz f.blocks) f.blocks hti.out (Nat.le_refl _) hmzf.out
     have h9 := (tall_any (setBlocks f (f.blocks ++ [deadB])) (TInv.inv hsm.out.params) (hti.out.app hmzf.out) c d w' w'.heap.size (Nat.le_refl _) h).mono fun e w'' hp => hp.p
     have e2 : setBlocks (setBlocks f (f.blocks ++ [deadB])) (allS (setBlocks f (f.blocks ++ [deadB])).blocks) = R := by
      rw [hR.out]
      show setBlocks f (allS (f.blocks ++ [deadB])) = _
      rw [e1]
     rw [e2] at h9
     exact h9)
    have cFn : Hid (∀ c d c' d' w', RFun.rep w' w'.heap.size [.string R.name, c, .int .i64 R.ret, d] R → RFun.rep w' w'.heap.size [.string R.name, c', .int .i64 R.ret, d'] R → Calls Try.prog 18 #[.agg #[.string R.name, c, .int .i64 R.ret, d], .agg #[.string R.name, c', .int .i64 R.ret, d']] w' (RetB true w')) := hide (fun c d c' d' w' h h' => by
     have h9 := funcs_any R R c d c' d' w' w'.heap.size (Nat.le_refl _) h h'
     rwa [decide_eq_true (rfl : R = R)] at h9)
    replace hra := hide hra
    replace hrp := hide hrp
    replace hrb' := hide hrb'
    replace hwZ := hide hwZ
    replace hZs := hide hZs
    replace hZ := hide hZ
    clear he hc hzc
    go_upto_region 8 with (fail)
    rw [hZ.out]
    clear hZ s0 s1 s2 s3
    go_wp2_with (fail)
    refine cC.out.mono ?_
    rintro e U ⟨c, d, L, rfl, hcI, hcL, hdK, hZL, hbU⟩
    obtain ⟨Ac, Cc, hcf⟩ := row_form hcI.row
    obtain ⟨Ad, Cd, hdf⟩ := hdK.form
    subst hcf hdf
    rw [← hnpe.out] at hcI hcL ⊢
    rw [← hn.out] at hdK ⊢
    have hUs := hbU.size
    obtain ⟨Y, hY, hwY, hYs, hyc⟩ := boxes1 U #[.string f.name, .slice Ac np Cc, .int .i64 f.ret, .slice Ad n Cd] 32
    have hboxY : Hid (Y.heap[U.heap.size]? = some (.cells #[.string f.name, .slice Ac np Cc, .int .i64 f.ret, .slice Ad n Cd] 32 (0, 0))) := hide (by rw [← hY]; exact box_top _ _)
    obtain ⟨NY, hNY⟩ : ∃ NY, Hid (NY = U.heap.size) := ⟨_, hide rfl⟩
    rw [← hNY.out] at hboxY
    have hbY : Hid (Below Z.heap.size Z Y) := hide (hbU.trans (hwY.mono hUs))
    have hcY : Hid (OwnI Y Z.heap.size (.slice Ac np Cc) f.params) := hide (hcI.kept fun k _ hk => hwY.block k hk)
    have hdY : Hid (OwnK2 Y L (.slice Ad n Cd) f.blocks) := hide (hdK.kept fun k _ hk => hwY.block k hk)
    have hYU : Hid (Y.heap.size = U.heap.size + 1) := hide hYs
    have y0 := box_cell9 hboxY.out 0 rfl
    have y1 := box_cell9 hboxY.out 1 rfl
    have y2 := box_cell9 hboxY.out 2 rfl
    have y3 := box_cell9 hboxY.out 3 rfl
    -- the block more
    obtain ⟨xs, hrow, hmore⟩ := hdY.out.more (w1 := Y.alloc (.cells #[.int .i64 34, .int .i64 (-1), .int .i64 0, .int .i64 0, .int .i64 0, .slice none 0 0, .slice none 0 0] 39)) (fun k _ hk => heap_alloc_old Y _ hk)
    rw [← hn.out] at hrow hmore
    have hrow2 := hide (row_kept hrow (w' := (Y.alloc (.cells #[.int .i64 34, .int .i64 (-1), .int .i64 0, .int .i64 0, .int .i64 0, .slice none 0 0, .slice none 0 0] 39)).alloc (.cells #[.slice (some ⟨Y.heap.size, 0, none⟩) 1 1] 36)) fun k hk => heap_alloc_old _ _ (row_lt hrow hk).2.1)
    obtain ⟨X, hX, hwX2, hXs, -, hx1⟩ := boxes2 Y #[.int .i64 34, .int .i64 (-1), .int .i64 0, .int .i64 0, .int .i64 0, .slice none 0 0, .slice none 0 0] #[.slice (some ⟨Y.heap.size, 0, none⟩) 1 1] 39 36
    rw [hX] at hrow2
    have hx10 : ∀ q u, [Value.slice (some ⟨Y.heap.size, 0, none⟩) 1 1][q]? = some u → X.cell? ((⟨Y.heap.size + 1, 0, none⟩ : Addr).add q) = some u := fun q u hq => by
     cases q with
     | zero => cases hq; exact hx1 0 _ rfl X (Below.refl _ _)
     | succ q => simp at hq
    have hLY : L ≤ Y.heap.size := by
     obtain ⟨xs8, ess8, h8⟩ := hdY.out
     obtain ⟨g8, C8, -, h9, h7⟩ := h8.row.form hti.out.pos
     omega
    have hK9 : Hid (∀ w' v', w'.ownsRow L 36 1 v' (n + 1) (xs ++ [.slice (some ⟨Y.heap.size, 0, none⟩) 1 1]) → X.grownBy w' (Value.slice Ad n Cd).ownBlock → OwnK2 w' L v' (f.blocks ++ [deadB])) := hide (fun w' v' h1 h2 => by
     rw [← hX] at h2
     exact hmore deadB _ Y.heap.size w' v' deadB_own hLY (Nat.le_refl _) h1 h2)
    obtain ⟨n1, hn1⟩ : ∃ n1, Hid (n1 = n + 1) := ⟨_, hide rfl⟩
    have hn164 : n1 ≤ 2000001 := by have := hn1.out; omega
    rw [← hn1.out] at hK9
    have hXYs : Hid (X.heap.size = Y.heap.size + 2) := hide hXs
    have hLX : L ≤ X.heap.size := by omega
    have hNYX : NY < X.heap.size := by have := hNY.out; have := hYU.out; omega
    have hboxX : Hid (X.heap[NY]? = some (.cells #[.string f.name, .slice Ac np Cc, .int .i64 f.ret, .slice Ad n Cd] 32 (0, 0))) := hide ((hwX2.block NY (by have := hNY.out; have := hYU.out; omega)).trans hboxY.out)
    have hcX : Hid (OwnI X Z.heap.size (.slice Ac np Cc) f.params) := hide (hcY.out.kept fun k _ hk => hwX2.block k hk)
    have hbX : Hid (Below Z.heap.size Z X) := hide (hbY.out.trans (hwX2.mono hbY.out.size))
    have hdb : Hid (∀ k, (Value.slice Ad n Cd).ownBlock = some k → Z.heap.size ≤ k ∧ ∃ c, X.heap[k]? = some (.cells c 36 (0, 0))) := hide (fun k hk => ⟨by have := (row_lt hrow2.out hk).1; omega, (row_lt hrow2.out hk).2.2⟩)
    have hret : Hid (I64 f.ret ∧ f.name.size ≤ maxLen) := hide (by obtain ⟨-, -, -, -, -, g1, g2⟩ := hF.out Z hselfZ; exact ⟨g1, g2⟩)
    replace hrow := hide hrow
    replace hmore := hide hmore
    replace hx1 := hide hx1
    replace hcI := hide hcI
    replace hdK := hide hdK
    replace hbU := hide hbU
    replace hwY := hide hwY
    replace hYs := hide hYs
    replace hyc := hide hyc
    replace hXs := hide hXs
    replace hwX2 := hide hwX2
    replace hX := hide hX
    replace hY := hide hY
    clear cC hcL
    go_upto_region 9 with (fail)
    rw [hY.out, ← hNY.out]
    go_upto_region 10 with (at_builtin; rw [hX.out]; refine wpList_append_any _ rfl (.tmp 25) (.tmp 29) _ rfl L 36 p0' (.agg #[.slice none 0 0]) 1 24 Try.underlying30 hp0.out hp1.out hp2.out hp3.out rfl (by omega) (.slice Ad n Cd) n xs rfl hrow2.out (some ⟨Y.heap.size + 1, 0, none⟩) 1 1 [.slice (some ⟨Y.heap.size, 0, none⟩) 1 1] rfl rfl (fun e => by cases e) (fun ad had => by cases had; exact hx10) (by simp [Value.oneCell']) (by unfold maxLen; omega) (by omega) hLX ?_; intro v9 X9 hown9 hg9; rw [← hn1.out] at hown9; obtain ⟨A9, C9, hv9⟩ := row_form hown9; subst hv9; have hB9 : Hid (X9.heap[NY]? = some (.cells #[.string f.name, .slice Ac np Cc, .int .i64 f.ret, .slice Ad n Cd] 32 (0, 0))) := hide ((hg9.block NY hNYX (fun e => ty_ne (hdb.out NY e.symm).2 ⟨_, hboxX.out⟩ (by decide) rfl)).trans hboxX.out); have z3 := box_cell9 hB9.out 3 rfl; have zf : X9.frozen? ⟨NY, 3, none⟩ = false := (by simp [World.frozen?, hB9.out]); replace hown9 := hide hown9; replace hg9 := hide hg9)
    obtain ⟨G, hG⟩ : ∃ G, Hid (X9.setCell ⟨NY, 3, none⟩ (.slice A9 n1 C9) = G) := ⟨_, hide rfl⟩
    have hGk : Hid (∀ k, k ≠ NY → G.heap[k]? = X9.heap[k]?) := hide (fun k h => by rw [← hG.out]; exact Below.heap_setCell X9 ⟨NY, 3, none⟩ _ k h)
    have hBG : Hid (G.heap[NY]? = some (.cells #[.string f.name, .slice Ac np Cc, .int .i64 f.ret, .slice A9 n1 C9] 32 (0, 0))) := hide (by rw [← hG.out]; simpa using heap_setCell_same _ NY 3 _ _ (.slice A9 n1 C9) hB9.out)
    have hbG : Hid (Below Z.heap.size Z G) := hide (by
     rw [← hG.out]
     exact (hbX.out.grown hg9.out hbX.out.size (fun k hk => (hdb.out k hk).1)).setCell (p := ⟨NY, 3, none⟩) (by show Z.heap.size ≤ NY; have := hNY.out; omega) _)
    have hKG : Hid (OwnK2 G 0 (.slice A9 n1 C9) (f.blocks ++ [deadB])) := hide ((hK9.out X9 _ hown9.out hg9.out).boxed hB9.out hGk.out)
    have hcG : Hid (OwnI G 0 (.slice Ac np Cc) f.params) := hide (by
     refine ⟨row_mono (row_kept hcX.out.row fun k hk => ?_) (Nat.zero_le _), hcX.out.ok⟩
     have tk := (row_lt hcX.out.row hk).2.2
     rw [hGk.out k (ty_ne tk ⟨_, hboxX.out⟩ (by decide))]
     refine hg9.out.block k (row_lt hcX.out.row hk).2.1 fun e => ?_
     exact ty_ne tk (hdb.out k e.symm).2 (by decide) rfl)
    have hrG : Hid (RFun.rep G G.heap.size [.string f.name, .slice Ac np Cc, .int .i64 f.ret, .slice A9 n1 C9] (setBlocks f (f.blocks ++ [deadB]))) := hide ⟨_, _, rfl, hcG.out.rep, hKG.out.rep, hret.out.1, hret.out.2⟩
    have hNYG : NY < G.heap.size := (Array.getElem?_eq_some_iff.1 hBG.out).1
    have u0 := be_fact (box_cell9 hBG.out 0 rfl) hNYG
    have u1 := be_fact (box_cell9 hBG.out 1 rfl) hNYG
    have u2 := be_fact (box_cell9 hBG.out 2 rfl) hNYG
    have u3 := be_fact (box_cell9 hBG.out 3 rfl) hNYG
    have hselfG := Below.refl G.heap.size G
    have hGZ : Hid (∀ w', Below G.heap.size G w' → Below Z.heap.size Z w') := hide (fun w' h => hbG.out.trans (h.mono hbG.out.size))
    obtain ⟨N9, hN9⟩ : ∃ N9, Hid (N9 = (f.blocks ++ [deadB]).flatten.length) := ⟨_, hide rfl⟩
    have cSz : Hid (Calls Try.prog 17 #[.agg #[.string f.name, .slice Ac np Cc, .int .i64 f.ret, .slice A9 n1 C9]] G fun e w' => e = .returned (.int .i64 (N9 : Int)) ∧ Below G.heap.size G w') := hide (by
     obtain ⟨g1, g2⟩ := fun_open (x := setBlocks f (f.blocks ++ [deadB])) hrG.out
     rw [hN9.out]
     refine isz_any (setBlocks f (f.blocks ++ [deadB])) _ _ G G.heap.size (Nat.le_refl _) g1 g2 ?_
     show (f.blocks ++ [deadB]).flatten.length ≤ _
     have h1 := flat_len f
     have h2 := hfz.out
     rw [List.flatten_append, List.length_append]
     have : [deadB].flatten.length = 1 := rfl
     omega)
    have hGW := hZW.out G hbG.out
    rw [hG.out]
    clear y0 y1 y2 y3 z3 zf t0 t1 t2 t3 hselfZ hx10
    have t0 : ∀ w', Below G.heap.size G w' → w'.cell? ⟨V.heap.size, 0, none⟩ = some (.string f.name) := fun w' h => T0.out w' (hGZ.out w' h)
    have t1 : ∀ w', Below G.heap.size G w' → w'.cell? ⟨V.heap.size, 1, none⟩ = some (.slice A1 np k1) := fun w' h => T1.out w' (hGZ.out w' h)
    have t2 : ∀ w', Below G.heap.size G w' → w'.cell? ⟨V.heap.size, 2, none⟩ = some (.int .i64 f.ret) := fun w' h => T2.out w' (hGZ.out w' h)
    have t3 : ∀ w', Below G.heap.size G w' → w'.cell? ⟨V.heap.size, 3, none⟩ = some (.slice A2 n k2) := fun w' h => T3.out w' (hGZ.out w' h)
    by_cases h64 : 64 < n1
    ·have g1 : decide ((n1 : Int) > 64) = true := decide_eq_true (by omega)
     replace h64 := hide h64
     go_wp2
     go_roundw
     case rel => exact ⟨i + 1, by go_num, hlt, hGW⟩
     case measure => simp [intOf]; omega
    ·have g1 : decide ((n1 : Int) > 64) = false := decide_eq_false (by omega)
     replace h64 := hide h64
     go_wp2_with (fail)
     refine cSz.out.mono ?_
     rintro e S ⟨rfl, hbS⟩
     have hSs := hbS.size
     have hSG : Hid (∀ w', Below S.heap.size S w' → Below G.heap.size G w') := hide (fun w' h => hbS.trans (h.mono hSs))
     have hSW := hZW.out S (hGZ.out S hbS)
     by_cases h400 : 400 < N9
     ·have g2 : decide ((N9 : Int) > 400) = true := decide_eq_true (by omega)
      replace h400 := hide h400
      go_wp2
      go_roundw
      case rel => exact ⟨i + 1, by go_num, hlt, hSW⟩
      case measure => simp [intOf]; omega
     ·have g2 : decide ((N9 : Int) > 400) = false := decide_eq_false (by omega)
      replace h400 := hide h400
      have u0' : ∀ w', Below S.heap.size S w' → w'.cell? ⟨NY, 0, none⟩ = some (.string f.name) := fun w' h => u0 w' (hSG.out w' h)
      have u1' : ∀ w', Below S.heap.size S w' → w'.cell? ⟨NY, 1, none⟩ = some (.slice Ac np Cc) := fun w' h => u1 w' (hSG.out w' h)
      have u2' : ∀ w', Below S.heap.size S w' → w'.cell? ⟨NY, 2, none⟩ = some (.int .i64 f.ret) := fun w' h => u2 w' (hSG.out w' h)
      have u3' : ∀ w', Below S.heap.size S w' → w'.cell? ⟨NY, 3, none⟩ = some (.slice A9 n1 C9) := fun w' h => u3 w' (hSG.out w' h)
      have t0' : ∀ w', Below S.heap.size S w' → w'.cell? ⟨V.heap.size, 0, none⟩ = some (.string f.name) := fun w' h => t0 w' (hSG.out w' h)
      have t1' : ∀ w', Below S.heap.size S w' → w'.cell? ⟨V.heap.size, 1, none⟩ = some (.slice A1 np k1) := fun w' h => t1 w' (hSG.out w' h)
      have t2' : ∀ w', Below S.heap.size S w' → w'.cell? ⟨V.heap.size, 2, none⟩ = some (.int .i64 f.ret) := fun w' h => t2 w' (hSG.out w' h)
      have t3' : ∀ w', Below S.heap.size S w' → w'.cell? ⟨V.heap.size, 3, none⟩ = some (.slice A2 n k2) := fun w' h => t3 w' (hSG.out w' h)
      clear u0 u1 u2 u3 t0 t1 t2 t3
      have hcFf : Hid (∀ w', Below S.heap.size S w' → Calls Try.prog 19 #[f.v (.slice A1 np k1) (.slice A2 n k2)] w' (AllP R w')) := hide (fun w' h => cAf.out w' (hGZ.out w' (hSG.out w' h)))
      have hcFg : Hid (∀ w', Below S.heap.size S w' → Calls Try.prog 19 #[f.v (.slice Ac np Cc) (.slice A9 n1 C9)] w' (AllP R w')) := hide (fun w' h => cAg.out _ _ w' (RFun.later hrG.out (hSG.out w' h) (hSG.out w' h).size))
      replace hbS := hide hbS
      go_upto_region 11 with (fail)
      refine wp_region_U (S := fun u => Below S.heap.size S u) (T := fun j => decide (j < 5)) (by kernel_rfl) ?_
      obtain ⟨K0, hK0⟩ : ∃ K0, Hid (S.drew = K0) := ⟨_, hide rfl⟩
      have hS0 : Hid (Below S.heap.size S K0) := hide (by rw [← hK0.out]; exact (Below.refl _ _).drew)
      rw [hK0.out]
      refine wpAnyU_take (i := 0) (v := ?_) (by simp only [List.getElem?_toArray, List.getElem?_cons_succ, List.getElem?_cons_zero]; rfl) (by kernel_rfl) (by kernel_rfl) (by kernel_rfl) (by kernel_rfl) (by exact fun _ _ _ h => h) (Or.inl ⟨by rfl, ?_⟩) (by exact hS0.out) ?_
      rotate_left
      ·intro w9 hSw
       go_simp
       all_goals with_reducible rfl
      try simp only [Act.put, List.setIfInBounds_toArray, List.set_cons_zero, List.set_cons_succ]
      refine wpAnyU_take (i := 2) (v := ?_) (by simp only [List.getElem?_toArray, List.getElem?_cons_succ, List.getElem?_cons_zero]; rfl) (by kernel_rfl) (by kernel_rfl) (by kernel_rfl) (by kernel_rfl) (by exact fun _ _ _ h => h) (Or.inl ⟨by rfl, ?_⟩) (by exact hS0.out) ?_
      rotate_left
      ·intro w9 hSw
       go_simp
       all_goals with_reducible rfl
      try simp only [Act.put, List.setIfInBounds_toArray, List.set_cons_zero, List.set_cons_succ]
      refine wpAnyU_ready (rs := [1]) (by kernel_rfl) (by simp) ?_
      refine AllReadyU.cons (by simp only [List.getElem?_toArray, List.getElem?_cons_succ, List.getElem?_cons_zero]; rfl) (fun K hK => ?_) AllReadyU.nil
      (try go_simp)
      go_at_call 19
      refine (hcFf.out _ hS0.out).mono ?_
      rintro e K1 ⟨c1, d1, rfl, hr1, hb1⟩
      have hS1 : Hid (Below S.heap.size S K1) := hide (hS0.out.trans (hb1.mono hS0.out.size))
      replace hr1 := hide hr1
      clear hb1
      refine hK.out _ _ (fun _ => hS1.out) ?_
      clear hK K
      try simp only [Act.put, List.setIfInBounds_toArray, List.set_cons_zero, List.set_cons_succ]
      refine wpAnyU_ready (rs := [3]) (by kernel_rfl) (by simp) ?_
      refine AllReadyU.cons (by simp only [List.getElem?_toArray, List.getElem?_cons_succ, List.getElem?_cons_zero]; rfl) (fun K hK => ?_) AllReadyU.nil
      (try go_simp)
      go_at_call 19
      refine (hcFg.out _ hS1.out).mono ?_
      rintro e K2 ⟨c3, d3, rfl, hr3, hb2⟩
      have hS2 : Hid (Below S.heap.size S K2) := hide (hS1.out.trans (hb2.mono hS1.out.size))
      replace hr1 := hide (RFun.later hr1.out hb2 hb2.size)
      replace hr3 := hide hr3
      clear hb2
      refine hK.out _ _ (fun _ => hS2.out) ?_
      clear hK K
      try simp only [Act.put, List.setIfInBounds_toArray, List.set_cons_zero, List.set_cons_succ]
      refine wpAnyU_ready (rs := [4]) (by kernel_rfl) (by simp) ?_
      refine AllReadyU.cons (by simp only [List.getElem?_toArray, List.getElem?_cons_succ, List.getElem?_cons_zero]; rfl) (fun K hK => ?_) AllReadyU.nil
      (try go_simp)
      go_at_call 18
      refine (cFn.out _ _ _ _ _ hr1.out hr3.out).mono ?_
      rintro e K3 ⟨rfl, hb3⟩
      have hS3 : Hid (Below S.heap.size S K3) := hide (hS2.out.trans (hb3.mono hS2.out.size))
      clear hb3
      refine hK.out _ _ (fun _ => hS3.out) ?_
      clear hK K
      try simp only [Act.put, List.setIfInBounds_toArray, List.set_cons_zero, List.set_cons_succ]
      refine wpAnyU_takeY (i := 5) (v := ?_) (by simp only [List.getElem?_toArray, List.getElem?_cons_succ, List.getElem?_cons_zero]; rfl) (by kernel_rfl) (by kernel_rfl) (by kernel_rfl) (by rfl) (by exact fun _ _ _ h => h) (Or.inl ⟨by rfl, ?_⟩) ?_
      rotate_left
      ·intro w9 hSw
       go_simp
       all_goals with_reducible rfl
      try simp only [Act.put, List.setIfInBounds_toArray, List.set_cons_zero, List.set_cons_succ]
      refine wpAnyU_done (by kernel_rfl) ?_ _
      have hfx := hZW.out _ (hGZ.out _ (hSG.out _ hS3.out))
      go_wp2
      go_roundw
      case rel => exact ⟨i + 1, by go_num, hlt, hfx⟩
      case measure => simp [intOf]; omega
   ·have hfin : Hid (Below w.heap.size w V) := hide (hwX.out V hbel)
    go_wp2
    go_ret
    exact ⟨rfl, hfin.out⟩
end Go.Proofs.Ytamjcafjdioidaa
