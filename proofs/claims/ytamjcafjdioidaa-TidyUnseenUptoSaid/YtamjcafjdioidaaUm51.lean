/- Texts of the chain, without what is not wanted: TdY. No condition but sizes. -/
import Derived.WalkKit
import Derived.Deep.Slices
import Derived.Deep.Draws
import Derived.ChangeSame
import Derived.ChangeOld
import Derived.OwnWalk
import Derived.Laws.OwnMore
import Derived.Deep.AppendLies
import Derived.Test.YtamjcafjdioidaaRows
import Derived.ProofKit
import Derived.OpenShut
import Derived.JoinedCond
import Derived.WalkSpells
import Derived.WalkLawsBesides
import Derived.Deep.RegionHeld3
import Derived.Deep.LoopGhost
import Derived.Deep.QuietTactic
import Derived.BigQuiet
import Derived.Deep.DeepCutAuto
import Derived.Deep.CutBlock
import Derived.StillTailTactics
import Derived.Deep.RegionLaw
import Derived.Lib.SliceRun
import Derived.Laws.IdiomCopy
import Derived.Deep.MidRow
import Derived.Lib.Overlaps
import Derived.RegionTactic
import Derived.Deep.RegionLawGrows
import Derived.Laws.Externs
import Derived.Laws.Bits64b
import Derived.Lib.Mul64
import Derived.Test.YtamjcafjdioidaaUm01
import Derived.Test.YtamjcafjdioidaaUm02
import Derived.Test.YtamjcafjdioidaaUm03
import Derived.Test.YtamjcafjdioidaaUm04
import Derived.Test.YtamjcafjdioidaaUm05
import Derived.Test.YtamjcafjdioidaaUm06
import Derived.Test.YtamjcafjdioidaaUm07
import Derived.Test.YtamjcafjdioidaaUm08
import Derived.Test.YtamjcafjdioidaaUm09
import Derived.Test.YtamjcafjdioidaaUm10
import Derived.Test.YtamjcafjdioidaaUm11
import Derived.Test.YtamjcafjdioidaaUm12
import Derived.Test.YtamjcafjdioidaaUm13
import Derived.Test.YtamjcafjdioidaaUm14
import Derived.Test.YtamjcafjdioidaaUm15
import Derived.Test.YtamjcafjdioidaaUm16
import Derived.Test.YtamjcafjdioidaaUm17
import Derived.Test.YtamjcafjdioidaaUm18
import Derived.Test.YtamjcafjdioidaaUm19
import Derived.Test.YtamjcafjdioidaaUm20
import Derived.Test.YtamjcafjdioidaaUm21
import Derived.Test.YtamjcafjdioidaaUm22
import Derived.Test.YtamjcafjdioidaaUm23
import Derived.Test.YtamjcafjdioidaaUm24
import Derived.Test.YtamjcafjdioidaaUm25
import Derived.Test.YtamjcafjdioidaaUm26
import Derived.Test.YtamjcafjdioidaaUm27
import Derived.Test.YtamjcafjdioidaaUm28
import Derived.Test.YtamjcafjdioidaaUm29
import Derived.Test.YtamjcafjdioidaaUm30
import Derived.Test.YtamjcafjdioidaaUm31
import Derived.Test.YtamjcafjdioidaaUm32
import Derived.Test.YtamjcafjdioidaaUm33
import Derived.Test.YtamjcafjdioidaaUm34
import Derived.Test.YtamjcafjdioidaaUm35
import Derived.Test.YtamjcafjdioidaaUm36
import Derived.Test.YtamjcafjdioidaaUm37
import Derived.Test.YtamjcafjdioidaaUm38
import Derived.Test.YtamjcafjdioidaaUm39
import Derived.Test.YtamjcafjdioidaaUm40
import Derived.Test.YtamjcafjdioidaaUm41
import Derived.Test.YtamjcafjdioidaaUm42
import Derived.Test.YtamjcafjdioidaaUm43
import Derived.Test.YtamjcafjdioidaaUm44
import Derived.Test.YtamjcafjdioidaaUm45
import Derived.Test.YtamjcafjdioidaaUm46
import Derived.Test.YtamjcafjdioidaaUm47
import Derived.Test.YtamjcafjdioidaaUm48
import Derived.Test.YtamjcafjdioidaaUm49
import Derived.Test.YtamjcafjdioidaaUm50
namespace Go.Proofs.Ytamjcafjdioidaa
open Go.RowKit
set_option linter.unusedSimpArgs false
set_option linter.unusedVariables false
set_option maxRecDepth 100000 in
set_option maxHeartbeats 6400000 in
theorem long16_any (m : Mod) (m1 m2 m3 : Value) (w : World) (ha : RMod.rep w w.heap.size [m1, m2, m3] m) (hsz : ∀ f, f ∈ m.funcs → funSz f ≤ 2000000) :
  Calls Try.prog 16 #[m.v m1 m2 m3] w (SomeBit w) := by
 obtain ⟨M1, v1, j1, M2, v2, j2, M3, v3, j3, hmf⟩ := mod_forms ha
 obtain ⟨e1, e2, e3⟩ := hmf
 subst e1 e2 e3
 obtain ⟨A5, k5, hM3, hl5, gf⟩ := funs_at (mod_open (RMod.later ha (Below.refl _ _) (Nat.le_refl _))).2.2
 have hv3 : v3 = m.funcs.length := by cases hM3; rfl
 have hM3' : M3 = A5 ∧ j3 = k5 := by cases hM3; exact ⟨rfl, rfl⟩
 obtain ⟨e1, e2⟩ := hM3'
 subst e1 e2
 clear hM3
 rw [← hv3] at hl5 gf
 replace gf := hide gf
 replace hv3 := hide hv3
 obtain ⟨W, hW, hwW, hWs, hx⟩ := boxes1 w #[.slice M1 v1 j1, .slice M2 v2 j2, .slice M3 v3 j3] 26
 have p0 : ∀ w', Below W.heap.size W w' → w'.cell? ⟨w.heap.size, 0, none⟩ = some (.slice M1 v1 j1) := hx 0 _ rfl
 have p1 : ∀ w', Below W.heap.size W w' → w'.cell? ⟨w.heap.size, 1, none⟩ = some (.slice M2 v2 j2) := hx 1 _ rfl
 have p2 : ∀ w', Below W.heap.size W w' → w'.cell? ⟨w.heap.size, 2, none⟩ = some (.slice M3 v3 j3) := hx 2 _ rfl
 clear hx
 have hws : w.heap.size ≤ W.heap.size := by omega
 replace hsz := hide hsz
 have hself := Below.refl W.heap.size W
 have hwX : Hid (∀ w', Below W.heap.size W w' → Below w.heap.size w w') := hide (fun w' h => hwW.trans (h.mono hws))
 have cF : Hid (∀ w', Below W.heap.size W w' → Calls Try.prog 24 #[.agg #[.slice M1 v1 j1, .slice M2 v2 j2, .slice M3 v3 j3], .int .i64 1500] w' (SomeBit w')) := hide (fun w' h => by
  obtain ⟨g1, g2, g3⟩ := mod_open (RMod.later ha (hwX.out w' h) (hwX.out w' h).size)
  exact few_any m.vars m.exts m.funcs 1500 _ _ _ w' w'.heap.size (Nat.le_refl _) g1 g2 g3)
 replace ha := hide ha
 replace hWs := hide hWs
 replace hW := hide hW
 replace hwW := hide hwW
 go_enter Try.func16, Try.ntmps16
 go_upto_region 1 with (fail)
 rw [hW.out]
 clear hW
 go_wp2
 go_loopw [11] (fun s wr => ∃ i : Nat, s = .int .i64 i ∧ i ≤ v3 ∧ Below W.heap.size W wr) (fun s _ => v3 - (intOf s).toNat)
 case atStart => exact ⟨0, rfl, Nat.zero_le _, hself⟩
 case round =>
  clear hself
  rename World => V
  obtain ⟨i, rfl, hi, hbel⟩ := hrel
  have hVs := hbel.size
  by_cases hlt : i < v3
  ·have hii : (i : Int) < (v3 : Int) := by omega
   obtain ⟨f, hf⟩ := get_ex (l := m.funcs) (k := i) (by rw [← hv3.out]; exact hlt)
   obtain ⟨b1, o1, hA1, he⟩ := gf.out (by omega)
   subst hA1
   obtain ⟨cp, ep, hra, hc⟩ := he i f hf.out
   obtain ⟨hrp, hrb'⟩ := fun_open hra
   obtain ⟨A1, k1, h1, hnp, gp⟩ := Rp.slice1_open hrp
   obtain ⟨A2, k2, h2, hmb, gb⟩ := Rp.slice1_open hrb'
   cases h1; cases h2
   have hfz := hide (hsz.out f (List.mem_of_getElem? hf.out))
   have hflat : Hid (f.blocks.flatten.length ≤ 2000000) := hide (Nat.le_trans (flat_len f) hfz.out)
   obtain ⟨np, hnpe⟩ : ∃ np, Hid (np = f.params.length) := ⟨_, hide rfl⟩
   obtain ⟨N, hN⟩ : ∃ N, Hid (N = f.blocks.length) := ⟨_, hide rfl⟩
   rw [← hnpe.out, ← hN.out] at hc
   rw [← hN.out] at hmb gb
   replace gp := hide gp
   replace gb := hide gb
   obtain ⟨s0, s1, s2, s3⟩ := hc.four
   have s0 := s0 V (hwX.out V hbel)
   have s1 := s1 V (hwX.out V hbel)
   have s2 := s2 V (hwX.out V hbel)
   have s3 := s3 V (hwX.out V hbel)
   obtain ⟨Z, hZ, hwZ, hZs, hzc⟩ := boxes1 V #[.string f.name, .slice A1 np k1, .int .i64 f.ret, .slice A2 N k2] 32
   have t3 : ∀ w', Below Z.heap.size Z w' → w'.cell? ⟨V.heap.size, 3, none⟩ = some (.slice A2 N k2) := hzc 3 _ rfl
   have hbZ : Below W.heap.size W Z := hbel.trans (hwZ.mono hVs)
   have hZW : Hid (∀ w', Below Z.heap.size Z w' → Below W.heap.size W w') := hide (fun w' h => hbZ.trans (h.mono hbZ.size))
   have hZw : Hid (∀ w', Below Z.heap.size Z w' → Below w.heap.size w w') := hide (fun w' h => hwX.out w' (hZW.out w' h))
   have hselfZ := Below.refl Z.heap.size Z
   have hm0 : Hid (0 = (f.blocks.take 0).flatten.length) := hide (by simp)
   replace hra := hide hra
   replace hrp := hide hrp
   replace hrb' := hide hrb'
   replace hwZ := hide hwZ
   replace hZs := hide hZs
   replace hZ := hide hZ
   clear he hc hzc
   go_upto_region 4 with (fail)
   rw [hZ.out]
   clear hZ s0 s1 s2 s3
   go_wp2
   go_loopw [5, 18] (fun n s wr => ∃ (k q : Nat), k ≤ N ∧ s = .int .i64 k ∧ n = .int .i64 q ∧ Hid (q = (f.blocks.take k).flatten.length) ∧ Below Z.heap.size Z wr) (fun _ s _ => N - (intOf s).toNat)
   case atStart => exact ⟨0, 0, Nat.zero_le _, rfl, rfl, hm0, hselfZ⟩
   case round =>
    clear hselfZ hm0
    rename World => V2
    obtain ⟨k, q, hk, rfl, rfl, hq, hb2⟩ := hrel
    have hql : q ≤ 2000000 := by
     have h1 := fz_le f.blocks k
     have h2 := hq.out
     have h3 := hflat.out
     omega
    by_cases hlt2 : k < N
    ·have hki : (k : Int) < (N : Int) := by omega
     obtain ⟨b2, o2, rfl, he1⟩ := gb.out (by omega)
     obtain ⟨x, hx⟩ := get_ex (l := f.blocks) (k := k) (by rw [← hN.out]; exact hlt2)
     obtain ⟨d1, hr1, hd1⟩ := he1 k x hx.out
     obtain ⟨A3, c3, h3, hm3, -⟩ := Rp.slice_open hr1
     cases h3
     have hd1' := hd1 V2 (hZw.out V2 hb2)
     clear hd1 hr1 he1
     obtain ⟨lx, hlx⟩ : ∃ lx, Hid (lx = x.length) := ⟨_, hide rfl⟩
     rw [← hlx.out] at hd1'
     have hq2 : Hid (q + lx = (f.blocks.take (k + 1)).flatten.length) := hide (by rw [fz_succ hx.out, hq.out, hlx.out])
     have hql2 : q + lx ≤ 2000000 := by
      have h1 := fz_le f.blocks (k + 1)
      have h2 := hq2.out
      have h3 := hflat.out
      omega
     go_wp2
     go_roundw
     case rel => exact ⟨k + 1, q + lx, hlt2, by go_num, by go_num, hq2, hb2.alloc hb2.size _⟩
     case measure => simp [intOf]; omega
    ·have hbW2 := hZW.out V2 hb2
     by_cases hA : 80 < q
     ·have g1 : decide ((q : Int) > 80) = true := decide_eq_true (by omega)
      by_cases hB : q ≤ 400
      ·have g2 : decide ((q : Int) ≤ 400) = true := decide_eq_true (by omega)
       have hfin := hide (hwX.out V2 hbW2)
       go_wp2
       go_ret
       exact ⟨true, rfl, hfin.out⟩
      ·have g2 : decide ((q : Int) ≤ 400) = false := decide_eq_false (by omega)
       go_wp2
       go_roundw
       case rel => exact ⟨i + 1, by go_num, hlt, hbW2⟩
       case measure => simp [intOf]; omega
     ·have g1 : decide ((q : Int) > 80) = false := decide_eq_false (by omega)
      go_wp2
      go_roundw
      case rel => exact ⟨i + 1, by go_num, hlt, hbW2⟩
      case measure => simp [intOf]; omega
  ·go_wp2_with (fail)
   refine (cF.out V hbel).mono ?_
   rintro e V4 ⟨bb, rfl, hb4⟩
   have hfin : Hid (∀ w', Below V4.heap.size V4 w' → Below w.heap.size w w') := hide (fun w' h => (hwX.out V hbel).trans ((hb4.mono (hwX.out V hbel).size).trans (h.mono (Nat.le_trans (hwX.out V hbel).size hb4.size))))
   have hs4 := Below.refl V4.heap.size V4
   go_wp2
   go_ret
   exact ⟨_, rfl, hfin.out _ hs4⟩
theorem five_alloc (w : World) (o0 o1 o2 o3 o4 : Obj) : ∃ W, ((((w.alloc o0).alloc o1).alloc o2).alloc o3).alloc o4 = W ∧ Below w.heap.size w W ∧ W.heap.size = w.heap.size + 5 ∧ W.heap[w.heap.size]? = some o0 ∧ W.heap[w.heap.size + 1]? = some o1 ∧ W.heap[w.heap.size + 1 + 1]? = some o2 ∧ W.heap[w.heap.size + 1 + 1 + 1]? = some o3 ∧ W.heap[w.heap.size + 1 + 1 + 1 + 1]? = some o4 := by
 refine ⟨_, rfl, (((((Below.refl _ _).alloc (Nat.le_refl _) _).alloc (by simp) _).alloc (by simp <;> omega) _).alloc (by simp <;> omega) _).alloc (by simp <;> omega) _, by simp, ?_, ?_, ?_, ?_, ?_⟩
 ·rw [heap_alloc_old _ o4 (by simp <;> omega), heap_alloc_old _ o3 (by simp <;> omega), heap_alloc_old _ o2 (by simp <;> omega), heap_alloc_old _ o1 (by simp)]; exact box_at _ rfl
 ·rw [heap_alloc_old _ o4 (by simp <;> omega), heap_alloc_old _ o3 (by simp <;> omega), heap_alloc_old _ o2 (by simp)]; exact box_at _ (by simp)
 ·rw [heap_alloc_old _ o4 (by simp <;> omega), heap_alloc_old _ o3 (by simp)]; exact box_at _ (by simp)
 ·rw [heap_alloc_old _ o4 (by simp)]; exact box_at _ (by simp)
 ·exact box_at _ (by simp)
theorem livesT_small : Small livesTF := by
 refine ⟨by decide, by decide, fun x hx => ?_⟩
 have h : ∀ x, x ∈ livesT → x.length ≤ 2000000 ∧ ∀ i, i ∈ x → i.args.length ≤ 2000000 ∧ i.to.length ≤ 2000000 := by decide
 exact h x hx
theorem retB_small : Small (setBlocks livesTF [retB]) := by
 refine ⟨by decide, by decide, fun x hx => ?_⟩
 have h : ∀ x, x ∈ [retB] → x.length ≤ 2000000 ∧ ∀ i, i ∈ x → i.args.length ≤ 2000000 ∧ i.to.length ≤ 2000000 := by decide
 exact h x hx
theorem wf_small (bs : List (List Ins)) (h1 : ∀ l, l ∈ bs → l ≠ []) (h2 : ∀ l, l ∈ bs → ∀ x, x ∈ l → x.op ≠ 32 ∧ x.op ≠ 25 ∧ (x.op = 31 → x.to.length = 1)) (h3 : ∀ l, l ∈ bs → ∀ x, x ∈ l → ∀ t, t ∈ x.to → 0 ≤ t ∧ t < bs.length) : Wf bs := fun l hl =>
 ⟨h1 l hl, fun x hx ho => absurd ho (h2 l hl x hx).1, fun x hx ho => (h2 l hl x hx).2.2 ho, fun x hx ho => absurd ho (h2 l hl x hx).2.1, h3 l hl⟩
theorem fr_small (bs : List (List Ins)) (h2 : ∀ l, l ∈ bs → ∀ x, x ∈ l → x.op ≠ 25) : ∀ l, l ∈ bs → Fronts l := fun l hl i j x y hi hj hij ho => absurd ho (h2 l hl y (List.mem_of_getElem? hj))
theorem Made.slices {M : Nat} {w : World} {f : Fun} {b : List Ins} {c d : Value} (h : Made M w f [b] c d) : ∃ Ac nc Cc Ad Cd, c = .slice Ac nc Cc ∧ d = .slice Ad 1 Cd := by
 obtain ⟨T, N, h1, -⟩ := h
 obtain ⟨A, C, h2⟩ := row_form h1.par.row
 obtain ⟨xs, ess, hk, -⟩ := h1.tree
 obtain ⟨A', C', h3⟩ := row_form hk.row
 exact ⟨_, _, _, _, _, h2, h3⟩
set_option maxRecDepth 100000 in
set_option maxHeartbeats 6400000 in
theorem lives17_any (w : World) : Calls Try.prog 15 #[] w (RetB true w) := by
 obtain ⟨W, hW, hwW, hWs, h0, h1, h2, h3, h4⟩ := five_alloc w (.cells #[.int .i64 1] 3) (.cells #[.int .i64 31, .int .i64 (-1), .int .i64 0, .int .i64 0, .int .i64 0, .slice none 0 0, .slice (some ⟨w.heap.size, 0, none⟩) 1 1] 39) (.cells #[.int .i64 33, .int .i64 (-1), .int .i64 0, .int .i64 0, .int .i64 0, .slice none 0 0, .slice none 0 0] 39)
  (.cells #[.slice (some ⟨w.heap.size + 1, 0, none⟩) 1 1, .slice (some ⟨w.heap.size + 1 + 1, 0, none⟩) 1 1] 36) (.cells #[.string ⟨#[102]⟩, .slice none 0 0, .int .i64 0, .slice (some ⟨w.heap.size + 1 + 1 + 1, 0, none⟩) 2 2] 32)
 have hK : OwnK W 0 (.slice (some ⟨w.heap.size + 1 + 1 + 1, 0, none⟩) 2 2) livesT := by
  refine ⟨[.slice (some ⟨w.heap.size + 1, 0, none⟩) 1 1, .slice (some ⟨w.heap.size + 1 + 1, 0, none⟩) 1 1], rfl, ⟨rfl, .inr ⟨_, 2, _, rfl, Nat.zero_le _, h3, Nat.le_refl _, by simp [maxLen], rfl, rfl⟩⟩, fun i x b g1 g2 => ?_⟩
  match i with
  | 0 =>
   cases g1; cases g2
   refine ⟨[insC ⟨31, -1, 0, 0, 0, [], [1]⟩ (.slice none 0 0) (.slice (some ⟨w.heap.size, 0, none⟩) 1 1)], rfl, ⟨rfl, .inr ⟨_, 1, _, rfl, Nat.zero_le _, h1, Nat.le_refl _, by simp [maxLen], rfl, rfl⟩⟩, fun j es x g3 g4 => ?_⟩
   cases j with
   | zero =>
    cases g3; cases g4
    exact ⟨_, _, rfl, OwnV.nil_, ⟨⟨rfl, .inr ⟨_, 1, _, rfl, Nat.zero_le _, h0, Nat.le_refl _, by simp [maxLen], rfl, rfl⟩⟩, fun t ht => by rw [List.mem_singleton.1 ht]; decide⟩, (by show I64 31; decide), (by show I64 (-1); decide), (by show I64 0; decide), (by show I64 0; decide), (by show I64 0; decide)⟩
   | succ j => simp at g3
  | 1 =>
   cases g1; cases g2
   refine ⟨[insC ⟨33, -1, 0, 0, 0, [], []⟩ (.slice none 0 0) (.slice none 0 0)], rfl, ⟨rfl, .inr ⟨_, 1, _, rfl, Nat.zero_le _, h2, Nat.le_refl _, by simp [maxLen], rfl, rfl⟩⟩, fun j es x g3 g4 => ?_⟩
   cases j with
   | zero =>
    cases g3; cases g4
    exact ⟨_, _, rfl, OwnV.nil_, OwnI.nil_, (by show I64 33; decide), (by show I64 (-1); decide), (by show I64 0; decide), (by show I64 0; decide), (by show I64 0; decide)⟩
   | succ j => simp at g3
  | i + 2 => simp at g1
 have hf : RFun.rep W W.heap.size [.string livesTF.name, .slice none 0 0, .int .i64 livesTF.ret, .slice (some ⟨w.heap.size + 1 + 1 + 1, 0, none⟩) 2 2] livesTF := ⟨_, _, rfl, OwnI.nil_.rep (B := 0), hK.rep, by decide, by decide⟩
 have n0 := box_cell9 h4 0 rfl
 have n1 := box_cell9 h4 1 rfl
 have n2 := box_cell9 h4 2 rfl
 have n3 := box_cell9 h4 3 rfl
 have cS : Hid (Calls Try.prog 20 #[.agg #[.string ⟨#[102]⟩, .slice none 0 0, .int .i64 0, .slice (some ⟨w.heap.size + 1 + 1 + 1, 0, none⟩) 2 2]] W (fun e w' => ∃ c d, e = .returned (.tuple #[.agg #[.string ⟨#[102]⟩, c, .int .i64 0, d], .bool true]) ∧ Made W.heap.size w' livesTF [retB] c d ∧ Below W.heap.size W w')) := hide (by
  have h9 := tstep_any livesTF (.slice none 0 0) (.slice (some ⟨w.heap.size + 1 + 1 + 1, 0, none⟩) 2 2) W W.heap.size (Nat.le_refl _) hf livesT_small (wf_small livesT (by decide) (by decide) (by decide)) (fr_small livesT (by decide))
  refine h9.mono fun e w' hp => ?_
  obtain ⟨c, d, g1, g2, g3⟩ := hp.made (bs := livesT) (f := livesTF) (M := W.heap.size) (Nat.le_refl _)
  rw [livesT_step] at g1 g2
  exact ⟨c, d, g1, g2, g3⟩)
 have cS2 : Hid (∀ (c d : Value) (w' w9 : World), Made W.heap.size w9 livesTF [retB] c d → Below w9.heap.size w9 w' → W.heap.size ≤ w9.heap.size → Calls Try.prog 20 #[.agg #[.string ⟨#[102]⟩, c, .int .i64 0, d]] w' (fun e w'' => ∃ c d, e = .returned (.tuple #[.agg #[.string ⟨#[102]⟩, c, .int .i64 0, d], .bool false]) ∧ Made W.heap.size w'' livesTF [retB] c d ∧ Below w'.heap.size w' w'')) := hide (fun c d w' w9 hm hb hs => by
  have hm' := hm.kept (w' := w') fun k _ hk => hb.block k hk
  have h9 := tstep_any (setBlocks livesTF [retB]) c d w' w'.heap.size (Nat.le_refl _) hm'.rep retB_small (wf_small [retB] (by decide) (by decide) (by decide)) (fr_small [retB] (by decide))
  refine h9.mono fun e w'' hp => ?_
  obtain ⟨c, d, g1, g2, g3⟩ := hp.made (bs := [retB]) (f := livesTF) (M := W.heap.size) (Nat.le_trans hs hb.size)
  rw [retB_step] at g1 g2
  exact ⟨c, d, g1, g2, g3⟩)
 have hself := Below.refl w.heap.size w
 replace hwW := hide hwW
 replace hWs := hide hWs
 replace hW := hide hW
 clear h0 h1 h2 h3 h4 hK hf
 go_enter Try.func15, Try.ntmps15
 go_upto_region 2 with (fail)
 rw [hW.out]
 clear hW
 go_wp2_with (fail)
 refine cS.out.mono ?_
 rintro e w1 ⟨c, d, rfl, hm1, hb1⟩
 obtain ⟨Ac, nc, Cc, Ad, Cd, hcf, hdf⟩ := hm1.slices
 subst hcf hdf
 obtain ⟨X, hX, hwX, hXs, hx⟩ := boxes1 w1 #[.string ⟨#[102]⟩, .slice Ac nc Cc, .int .i64 0, .slice Ad 1 Cd] 32
 have x0 := hx 0 _ rfl X (Below.refl _ _)
 have x1 := hx 1 _ rfl X (Below.refl _ _)
 have x2 := hx 2 _ rfl X (Below.refl _ _)
 have x3 := hx 3 _ rfl X (Below.refl _ _)
 have hbX : Hid (Below w.heap.size w X) := hide (hwW.out.trans ((hb1.mono hwW.out.size).trans (hwX.mono (Nat.le_trans hwW.out.size hb1.size))))
 have cS3 : Hid (Calls Try.prog 20 #[.agg #[.string ⟨#[102]⟩, .slice Ac nc Cc, .int .i64 0, .slice Ad 1 Cd]] X _) := hide (cS2.out _ _ X w1 hm1 hwX hb1.size)
 replace hm1 := hide hm1
 replace hb1 := hide hb1
 replace hX := hide hX
 replace hXs := hide hXs
 replace hwX := hide hwX
 clear cS cS2 n0 n1 n2 n3 hself
 go_upto_region 3 with (fail)
 rw [hX.out]
 go_wp2_with (fail)
 refine cS3.out.mono ?_
 rintro e w2 ⟨c2, d2, rfl, hm2, hb2⟩
 obtain ⟨Ac2, nc2, Cc2, Ad2, Cd2, hcf, hdf⟩ := hm2.slices
 subst hcf hdf
 obtain ⟨Y, hY, hwY, hYs, hy⟩ := boxes1 w2 #[.string ⟨#[102]⟩, .slice Ac2 nc2 Cc2, .int .i64 0, .slice Ad2 1 Cd2] 32
 have y0 := hy 0 _ rfl Y (Below.refl _ _)
 have y1 := hy 1 _ rfl Y (Below.refl _ _)
 have y2 := hy 2 _ rfl Y (Below.refl _ _)
 have y3 := hy 3 _ rfl Y (Below.refl _ _)
 have hb2X : Below X.heap.size X Y := hb2.trans (hwY.mono hb2.size)
 have z3 := hx 3 _ rfl Y hb2X
 have hbY : Hid (Below w.heap.size w Y) := hide (hbX.out.trans (hb2X.mono hbX.out.size))
 have cZ : Hid (Calls Try.prog 17 #[.agg #[.string ⟨#[102]⟩, .slice Ac2 nc2 Cc2, .int .i64 0, .slice Ad2 1 Cd2]] Y fun e w' => e = .returned (.int .i64 1) ∧ Below Y.heap.size Y w') := hide (by
  have hm' := hm2.kept (w' := Y) fun k _ hk => hwY.block k hk
  obtain ⟨g1, g2⟩ := fun_open (x := setBlocks livesTF [retB]) hm'.rep
  exact isz_any (setBlocks livesTF [retB]) _ _ Y Y.heap.size (Nat.le_refl _) g1 g2 (by decide))
 replace hm2 := hide hm2
 replace hb2 := hide hb2
 replace hb2X := hide hb2X
 replace hY := hide hY
 replace hYs := hide hYs
 replace hwY := hide hwY
 clear hx hy x0 x1 x2 x3 cS3
 go_upto_region 4 with (fail)
 rw [hY.out]
 go_wp2_with (fail)
 refine cZ.out.mono ?_
 rintro e w3 ⟨rfl, hb3⟩
 have hfin := hide (hbY.out.trans (hb3.mono hbY.out.size))
 go_wp2
 go_ret
 exact ⟨rfl, hfin.out⟩
end Go.Proofs.Ytamjcafjdioidaa
