/- Texts of the chain, without what is not wanted: IcE, IcF, TdS. No condition but sizes. -/
import Derived.WalkKit
import Derived.Deep.Slices
import Derived.Deep.Draws
import Derived.ChangeSame
import Derived.ChangeOld
import Derived.OwnWalk
import Derived.Laws.OwnMore
import Derived.Deep.AppendLies
import Derived.Test.YtamjcafjdioidaaRows
import Derived.ProofKit
import Derived.OpenShut
import Derived.JoinedCond
import Derived.WalkSpells
import Derived.WalkLawsBesides
import Derived.Deep.RegionHeld3
import Derived.Deep.LoopGhost
import Derived.Deep.QuietTactic
import Derived.BigQuiet
import Derived.Deep.DeepCutAuto
import Derived.Deep.CutBlock
import Derived.Lib.SliceRun
import Derived.Deep.RegionLaw
import Derived.StillTailTactics
import Derived.RegionTactic
import Derived.Laws.IdiomCopy
import Derived.Test.YtamjcafjdioidaaUz01
import Derived.Test.YtamjcafjdioidaaUz02
import Derived.Test.YtamjcafjdioidaaUz03
import Derived.Test.YtamjcafjdioidaaUz04
import Derived.Test.YtamjcafjdioidaaUz05
import Derived.Test.YtamjcafjdioidaaUz06
import Derived.Test.YtamjcafjdioidaaUz07
import Derived.Test.YtamjcafjdioidaaUz08
import Derived.Test.YtamjcafjdioidaaUz09
import Derived.Test.YtamjcafjdioidaaUz13
import Derived.Test.YtamjcafjdioidaaUz14
import Derived.Test.YtamjcafjdioidaaUz15
import Derived.Test.YtamjcafjdioidaaUz16
import Derived.Test.YtamjcafjdioidaaUz17
import Derived.Test.YtamjcafjdioidaaUz18
import Derived.Test.YtamjcafjdioidaaUz19
import Derived.Test.YtamjcafjdioidaaUz20
import Derived.Test.YtamjcafjdioidaaUz21
namespace Go.Proofs.Ytamjcafjdioidaa
open Go.RowKit
set_option linter.unusedSimpArgs false
set_option linter.unusedVariables false
def EachPost (σ : Opd → Opd) (L : Nat) (d : Value) (bs : List (List Ins)) (xs : List Value) (ess : List (List (Value × Value))) (w : World) (e : Ending) (w' : World) : Prop :=
 e = .returned (.tuple #[]) ∧ OwnKd w' L d (subAll σ bs) xs ess ∧ Only (ArgB ess) w.heap.size w w'
set_option maxRecDepth 100000 in
set_option maxHeartbeats 6400000 in
theorem each_repl (nm : ByteArray) (ret : Int) (Am : Option Addr) (np Cm : Nat) (reg : Int) (v : Opd) (hv64 : I64 v.kind ∧ I64 v.num) (L NR NV : Nat) (Ad : Option Addr) (n Cd : Nat) (bs : List (List Ins)) (xs : List Value) (ess : List (List (Value × Value))) (w : World)
  (hn : n = bs.length) (hK : OwnKd w L (.slice Ad n Cd) bs xs ess) (hn8 : n ≤ 2000000) (hcode : ∀ x, x ∈ bs → x.length ≤ 2000000 ∧ ∀ i, i ∈ x → i.args.length ≤ 2000000 ∧ i.to.length ≤ 2000000)
  (hNR : NR < L) (hNV : NV < L) (hNRw : NR < w.heap.size) (hNVw : NV < w.heap.size) (hR : w.cell? ⟨NR, 0, none⟩ = some (.int .i64 reg)) (hV0 : w.cell? ⟨NV, 0, none⟩ = some (.int .i64 v.kind)) (hV1 : w.cell? ⟨NV, 1, none⟩ = some (.int .i64 v.num)) (hV2 : w.cell? ⟨NV, 2, none⟩ = some (.int .u64 v.bits)) :
  Calls Try.prog 80 #[.agg #[.string nm, .slice Am np Cm, .int .i64 ret, .slice Ad n Cd], .func (.func 86) #[] #[.pointer (some ⟨NR, 0, none⟩), .pointer (some ⟨NV, 0, none⟩)]] w (EachPost (rsub reg v) L (.slice Ad n Cd) bs xs ess w) := by
 have hSL : Hid (∀ q, ArgB ess q → L ≤ q ∧ q < w.heap.size) := hide (fun q ⟨e, he, hq⟩ => (hK.own_at he q).1 hq)
 obtain ⟨W, hW, hwW, hWs, hx⟩ := boxes1 w #[.string nm, .slice Am np Cm, .int .i64 ret, .slice Ad n Cd] 32
 have hon0 : Only (ArgB ess) w.heap.size w W := Only.of_below hwW
 have hNf : ¬ ArgB ess w.heap.size := fun h => by have := (hSL.out _ h).2; omega
 have z3 : ∀ w', Only (ArgB ess) W.heap.size W w' → w'.cell? ⟨w.heap.size, 3, none⟩ = some (.slice Ad n Cd) := fun w' h => (h.cell (p := ⟨w.heap.size, 3, none⟩) (by show w.heap.size < _; omega) hNf).trans (hx 3 _ rfl W (Below.refl _ _))
 have hbox : ∀ (N : Nat) (j : Nat) (u : Value), N < L → N < w.heap.size → w.cell? ⟨N, j, none⟩ = some u → ∀ w', Only (ArgB ess) W.heap.size W w' → w'.cell? ⟨N, j, none⟩ = some u := fun N j u hN hNw hu w' h =>
  ((hon0.trans (h.mono hwW.size)).cell (p := ⟨N, j, none⟩) (by show N < _; omega) (fun e => by have : L ≤ N := (hSL.out _ e).1; omega)).trans hu
 have zR := hide (hbox NR 0 _ hNR hNRw hR)
 have zV0 := hide (hbox NV 0 _ hNV hNVw hV0)
 have zV1 := hide (hbox NV 1 _ hNV hNVw hV1)
 have zV2 := hide (hbox NV 2 _ hNV hNVw hV2)
 have hKW : Hid (OwnKd W L (.slice Ad n Cd) (progA (rsub reg v) 0 0 0 bs) xs ess) := hide (by rw [progA_start]; exact hK.kept fun q _ hq => hwW.block q hq)
 have hlx : xs.length = n := by rw [hK.lenx, hn]
 have hle : ess.length = n := by rw [hK.lene, hn]
 have hNRW : Hid (NR < W.heap.size ∧ NV < W.heap.size) := hide (by omega)
 have hself := Only.refl (ArgB ess) W.heap.size W
 have hwWh := hide hwW
 have hnH := hide hn
 have hcodeH := hide hcode
 have hv64h := hide hv64
 replace hWs := hide hWs
 clear hx hK hbox hon0 hNf hR hV0 hV1 hV2 hwW hn hcode hv64
 go_enter Try.func80, Try.ntmps80
 go_wp2
 go_loopw [9] (fun u wr => ∃ i : Nat, u = .int .i64 i ∧ i ≤ n ∧ Hid (OwnKd wr L (.slice Ad n Cd) (progA (rsub reg v) i 0 0 bs) xs ess) ∧ Only (ArgB ess) W.heap.size W wr) (fun u _ => n - (intOf u).toNat)
 case atStart => exact ⟨0, rfl, Nat.zero_le _, hKW, hself⟩
 case round =>
  clear hKW hself
  obtain ⟨i, rfl, hi, hK, hon⟩ := hrel
  by_cases hlt : i < n
  ·have hii : (i : Int) < (n : Int) := by omega
   obtain ⟨c, hc⟩ := get_ex (l := bs) (k := i) (by rw [← hnH.out]; exact hlt)
   obtain ⟨xi, hxi⟩ := get_ex (l := xs) (k := i) (by omega)
   obtain ⟨es, hes⟩ := get_ex (l := ess) (k := i) (by omega)
   obtain ⟨gB, CB, hAd, -, -⟩ := hK.out.row.form (by rw [progA_len, ← hnH.out]; omega)
   have hAd' : Ad = some ⟨gB, 0, none⟩ := by cases hAd; rfl
   subst hAd'
   clear hAd CB
   obtain ⟨nc, hnc⟩ : ∃ nc, Hid (nc = c.length) := ⟨_, hide rfl⟩
   have hszc := hcodeH.out c (List.mem_of_getElem? hc.out)
   have hnc8 : nc ≤ 2000000 := by rw [hnc.out]; exact hszc.1
   have hszi := hide hszc.2
   have hCd0 := hK.out.inn i xi _ es hxi.out (progA_at hc.out) hes.out
   obtain ⟨Ac, Cc, hxf⟩ := row_form hCd0.row
   rw [progCodeA_len, ← hnc.out] at hxf
   subst hxf
   have hrow0 := hK.out.row
   rw [progA_len, ← hnH.out] at hrow0
   have r0 : wr.cell? ⟨gB, i, none⟩ = some (.slice Ac nc Cc) := by rw [World.ownsRow.cellAt hrow0 i (by omega)]; exact hxi.out
   clear hszc hCd0 hrow0
   go_wp2
   go_loopw [19] (fun u wr => ∃ k : Nat, u = .int .i64 k ∧ k ≤ nc ∧ Hid (OwnKd wr L (.slice (some ⟨gB, 0, none⟩) n Cd) (progA (rsub reg v) i k 0 bs) xs ess) ∧ Only (ArgB ess) W.heap.size W wr) (fun u _ => nc - (intOf u).toNat)
   case atStart => exact ⟨0, rfl, Nat.zero_le _, hK, hon⟩
   case round =>
    clear hK hon r0
    obtain ⟨k, rfl, hk, hK, hon⟩ := hrel
    by_cases hlt2 : k < nc
    ·have hki : (k : Int) < (nc : Int) := by omega
     obtain ⟨x, hx⟩ := get_ex (l := c) (k := k) (by rw [← hnc.out]; exact hlt2)
     have hCd0 := hK.out.inn i _ _ es hxi.out (progA_at hc.out) hes.out
     obtain ⟨gc, CC, hAc, -, -⟩ := hCd0.row.form (by rw [progCodeA_len, ← hnc.out]; omega)
     have hAc' : Ac = some ⟨gc, 0, none⟩ := by cases hAc; rfl
     subst hAc'
     clear hAc CC
     have hrow0 := hK.out.row
     rw [progA_len, ← hnH.out] at hrow0
     have r0 : wr.cell? ⟨gB, i, none⟩ = some (.slice (some ⟨gc, 0, none⟩) nc Cc) := by rw [World.ownsRow.cellAt hrow0 i (by omega)]; exact hxi.out
     have hcall := hide (repl_any reg v hv64h.out i k L NR NV gc nc Cc _ bs xs ess c x es wr hK.out hc.out hx.out hes.out hxi.out (hszi.out x (List.mem_of_getElem? hx.out)).1 hNR hNV (Nat.lt_of_lt_of_le hNRW.out.1 hon.size) (Nat.lt_of_lt_of_le hNRW.out.2 hon.size) (zR.out wr hon) (zV0.out wr hon) (zV1.out wr hon) (zV2.out wr hon))
     have hbs := hon.size
     clear hCd0 hrow0
     go_wp2_with fail
     refine hcall.out.mono ?_
     rintro e w2 ⟨rfl, hK2, hon2⟩
     have hon3 := hon.next (Nat.le_refl _) hon2
     replace hK2 := hide hK2
     clear hcall hK hon hon2 r0
     go_wp2
     go_roundw
     case rel => exact ⟨k + 1, by go_num, hlt2, hK2, hon3⟩
     case measure => simp [intOf]; omega
    ·obtain rfl : k = nc := by omega
     have hnext : Hid (OwnKd wr L (.slice (some ⟨gB, 0, none⟩) n Cd) (progA (rsub reg v) (i + 1) 0 0 bs) xs ess) := hide (by rw [← progA_next_block hc.out, ← hnc.out]; exact hK.out)
     go_wp2
     go_roundw
     case rel => exact ⟨i + 1, by go_num, hlt, hnext, hon⟩
     case measure => simp [intOf]; omega
  ·obtain rfl : i = n := by omega
   have hE : progA (rsub reg v) i 0 0 bs = subAll (rsub reg v) bs := by rw [hnH.out]; exact progA_end
   rw [hE] at hK
   go_wp2
   go_end0
   exact ⟨rfl, hK.out, (Only.of_below hwWh.out).trans (hon.mono hwWh.out.size)⟩
end Go.Proofs.Ytamjcafjdioidaa

namespace Go.Proofs.Ytamjcafjdioidaa
open Go.RowKit
set_option linter.unusedSimpArgs false
set_option linter.unusedVariables false
def TreePost (f : Fun) (bs : List (List Ins)) (w : World) (e : Ending) (w' : World) : Prop := ∃ c d L, e = .returned (f.v c d) ∧ OwnI w' w.heap.size c f.params ∧ (∀ k, c.ownBlock = some k → k < L) ∧ OwnK2 w' L d bs ∧ w.heap.size ≤ L ∧ Below w.heap.size w w'
set_option maxRecDepth 100000 in
set_option maxHeartbeats 6400000 in
theorem replace_any (f : Fun) (reg : Int) (v : Opd) (hv64 : I64 v.kind ∧ I64 v.num) (c1 c2 : Value) (w : World) (B : Nat) (hB : B ≤ w.heap.size) (hf : RFun.rep w B [.string f.name, c1, .int .i64 f.ret, c2] f) (hs : Small f) :
  Calls Try.prog 58 #[f.v c1 c2, .int .i64 reg, .agg #[.int .i64 v.kind, .int .i64 v.num, .int .u64 v.bits]] w (TreePost f (subAll (rsub reg v) f.blocks) w) := by
 obtain ⟨hp, hb⟩ := fun_open (RFun.later hf (Below.refl _ _) hB)
 obtain ⟨A1, k1, h1, -, -⟩ := Rp.slice1_open hp
 obtain ⟨A2, k2, h2, hm2, -⟩ := Rp.slice1_open hb
 cases h1; cases h2
 clear hp hb
 obtain ⟨n, hn⟩ : ∃ n, Hid (n = f.blocks.length) := ⟨_, hide rfl⟩
 obtain ⟨np, hnp⟩ : ∃ n, Hid (n = f.params.length) := ⟨_, hide rfl⟩
 have hnle : n ≤ 2000000 := by rw [hn.out]; exact hs.blocks
 rw [← hn.out, ← hnp.out] at hf
 rw [← hn.out] at hm2
 rw [← hn.out, ← hnp.out]
 obtain ⟨W3, hW3, hwW3, hW3s, hx1, hx2, hx3⟩ := boxes3 w #[.string f.name, .slice A1 np k1, .int .i64 f.ret, .slice A2 n k2] #[.int .i64 reg] #[.int .i64 v.kind, .int .i64 v.num, .int .u64 v.bits] 32 3 42
 obtain ⟨W, hW⟩ : ∃ W, W3.alloc (.cells #[.string ⟨#[]⟩, .slice none 0 0, .int .i64 0, .slice none 0 0] 32) = W := ⟨_, rfl⟩
 have hR0 : W.heap[W3.heap.size]? = some (.cells #[.string ⟨#[]⟩, .slice none 0 0, .int .i64 0, .slice none 0 0] 32 (0, 0)) := by rw [← hW]; exact box_top _ _
 have hb3 : Below W3.heap.size W3 W := by rw [← hW]; exact (Below.refl _ _).alloc (Nat.le_refl _) _
 have hWs : W.heap.size = w.heap.size + 4 := by rw [← hW]; simp; omega
 have hF0 : W.heap[w.heap.size]? = some (.cells #[.string f.name, .slice A1 np k1, .int .i64 f.ret, .slice A2 n k2] 32 (0, 0)) := by
  rw [hb3.block _ (by omega), ← hW3]
  exact one_alloc (one_alloc (box_top _ _) _) _
 obtain ⟨N4, hN4⟩ : ∃ N4, N4 = W3.heap.size := ⟨_, rfl⟩
 rw [← hN4] at hR0
 have h4a : w.heap.size < N4 := by omega
 have h4b : N4 < W.heap.size := by omega
 have hwW : Below w.heap.size w W := hwW3.trans (hb3.mono (by omega))
 have hreg : W.cell? ⟨w.heap.size + 1, 0, none⟩ = some (.int .i64 reg) := hx2 0 _ rfl W hb3
 have hv0 : W.cell? ⟨w.heap.size + 1 + 1, 0, none⟩ = some (.int .i64 v.kind) := hx3 0 _ rfl W hb3
 have hv1 : W.cell? ⟨w.heap.size + 1 + 1, 1, none⟩ = some (.int .i64 v.num) := hx3 1 _ rfl W hb3
 have hv2 : W.cell? ⟨w.heap.size + 1 + 1, 2, none⟩ = some (.int .u64 v.bits) := hx3 2 _ rfl W hb3
 have cC := hide (icopytree_any f (.slice A1 np k1) (.slice A2 n k2) W B (by omega) (RFun.later hf (hwW.mono hB) (Nat.le_refl _)) hs)
 obtain ⟨q0, q1, q2, q3⟩ := box4 hF0
 replace hN4 := hide hN4
 replace hF0 := hide hF0
 replace hR0 := hide hR0
 replace hreg := hide hreg
 replace hv0 := hide hv0
 replace hv1 := hide hv1
 replace hv2 := hide hv2
 replace hs := hide hs
 replace hf := hide hf
 replace hwW := hide hwW
 replace hWs := hide hWs
 replace hW3s := hide hW3s
 clear hx1 hx2 hx3 hwW3 hb3
 go_enter Try.func58, Try.ntmps58
 go_wp2_with (fail)
 rw [← hN4.out]
 refine cC.out.mono ?_
 rintro e V ⟨c, d, L, rfl, hOI, hPL, hOK, hL0, hbV⟩
 obtain ⟨Am, Cm, hcm⟩ := row_form hOI.row
 subst hcm
 obtain ⟨Ad, Cd, hdm⟩ := hOK.form
 subst hdm
 rw [← hnp.out] at hOI hPL ⊢
 rw [← hn.out] at hOK ⊢
 obtain ⟨xs, ess, hK⟩ := hOK
 have hWso := hWs.out
 have hF1 := (hbV.block w.heap.size (by omega)).trans hF0.out
 obtain ⟨s0, s1, s2, s3⟩ := box4 hF1
 have g0 := one_free (j := 0) hF1
 have g1 := one_free (j := 1) hF1
 have g2 := one_free (j := 2) hF1
 have g3 := one_free (j := 3) hF1
 have hF2 := hide (set_heap (j := 3) (v := .slice Ad n Cd) (set_heap (j := 2) (v := .int .i64 f.ret) (set_heap (j := 1) (v := .slice Am np Cm) (set_heap (j := 0) (v := .string f.name) hF1))))
 have hbVh := hide hbV
 replace hF1 := hide hF1
 replace hWso := hide hWso
 have hOIh := hide hOI
 have hPLh := hide hPL
 have hKh := hide hK
 have hL0h := hide hL0
 clear hOI hPL hK hbV hL0
 go_upto_region 2 with (fail)
 obtain ⟨X, hX⟩ : ∃ X, X = (((V.setCell ⟨w.heap.size, 0, none⟩ (.string f.name)).setCell ⟨w.heap.size, 1, none⟩ (.slice Am np Cm)).setCell ⟨w.heap.size, 2, none⟩ (.int .i64 f.ret)).setCell ⟨w.heap.size, 3, none⟩ (.slice Ad n Cd) := ⟨_, rfl⟩
 rw [← hX]
 have hXfar : ∀ k, k ≠ w.heap.size → X.heap[k]? = V.heap[k]? := fun k hk => by rw [hX, Below.heap_setCell _ _ _ _ hk, Below.heap_setCell _ _ _ _ hk, Below.heap_setCell _ _ _ _ hk, Below.heap_setCell _ _ _ _ hk]
 have hXs : X.heap.size = V.heap.size := by rw [hX]; simp [World.setCell]
 have hwXb : Below w.heap.size w X := by
  rw [hX]
  have h0 := hwW.out.trans (hbVh.out.mono (by have := hWso.out; omega))
  exact (((h0.setCell (p := ⟨w.heap.size, 0, none⟩) (Nat.le_refl _) _).setCell (p := ⟨w.heap.size, 1, none⟩) (Nat.le_refl _) _).setCell (p := ⟨w.heap.size, 2, none⟩) (Nat.le_refl _) _).setCell (p := ⟨w.heap.size, 3, none⟩) (Nat.le_refl _) _
 have hF3 : X.heap[w.heap.size]? = some (.cells #[.string f.name, .slice Am np Cm, .int .i64 f.ret, .slice Ad n Cd] 32 (0, 0)) := by rw [hX]; simpa using hF2.out
 clear hX s0 s1 s2 s3 g0 g1 g2 g3 hF2 q0 q1 q2 q3
 have hWso' := hWso.out
 have hLo := hL0h.out
 have hsV := hbVh.out.size
 have hKX := hKh.out.kept (w' := X) fun k h1 _ => hXfar k (by omega)
 have hOIX := hide (hOIh.out.kept (w' := X) fun k h1 _ => hXfar k (by omega))
 have hold : ∀ (N j : Nat) (u : Value), N ≠ w.heap.size → N < W.heap.size → W.cell? ⟨N, j, none⟩ = some u → X.cell? ⟨N, j, none⟩ = some u := fun N j u h1 h2 h3 => by
  rw [World.cell?_of_block (a := ⟨N, j, none⟩) (hXfar N h1), hbVh.out.cell (p := ⟨N, j, none⟩) h2]; exact h3
 have hcall := hide (each_repl f.name f.ret Am np Cm reg v hv64 L (w.heap.size + 1) (w.heap.size + 1 + 1) Ad n Cd f.blocks xs ess X hn.out hKX hnle hs.out.code (by omega) (by omega) (by omega) (by omega) (hold _ _ _ (by omega) (by omega) hreg.out) (hold _ _ _ (by omega) (by omega) hv0.out) (hold _ _ _ (by omega) (by omega) hv1.out) (hold _ _ _ (by omega) (by omega) hv2.out))
 have hSL := hide (fun q (h : ArgB ess q) => (show L ≤ q from (by obtain ⟨e, he, hq⟩ := h; exact ((hKX.own_at he q).1 hq).1)))
 have hR3 : X.heap[N4]? = some (.cells #[.string ⟨#[]⟩, .slice none 0 0, .int .i64 0, .slice none 0 0] 32 (0, 0)) := (hXfar N4 (by omega)).trans ((hbVh.out.block N4 (by omega)).trans hR0.out)
 obtain ⟨s0, s1, s2, s3⟩ := box4 hF3
 have hX9 : W.heap.size ≤ X.heap.size := by omega
 have hF3h := hide hF3
 have hR3h := hide hR3
 have hwXh := hide hwXb
 have hXsh := hide hXs
 clear hKX hXfar hold hF3 hR3 hwXb hXs
 go_wp2_with (fail)
 refine hcall.out.mono ?_
 rintro e Z ⟨rfl, hKZ, honZ⟩
 have hNo : ∀ N, N < L → ¬ ArgB ess N := fun N h1 h2 => by have := hSL.out N h2; omega
 have hF4 := (honZ.block w.heap.size (by omega) (hNo _ (by omega))).trans hF3h.out
 have hR4 := (honZ.block N4 (by omega) (hNo _ (by omega))).trans hR3h.out
 have hOIZ := hide (show OwnI Z W.heap.size (.slice Am np Cm) f.params from ⟨row_kept hOIX.out.row fun k hk => honZ.block k (row_lt hOIX.out.row hk).2.1 (hNo k (hPLh.out k hk)), hOIX.out.ok⟩)
 have hwZ := hide (hwXh.out.trans (honZ.to_below (B' := w.heap.size) (fun k hk => by have := hSL.out k hk; omega) hwXh.out.size))
 clear s0 s1 s2 s3
 obtain ⟨s0, s1, s2, s3⟩ := box4 hF4
 obtain ⟨p0, p1, p2, p3⟩ := box4 hR4
 have g0 := one_free (j := 0) hR4
 have g1 := one_free (j := 1) hR4
 have g2 := one_free (j := 2) hR4
 have g3 := one_free (j := 3) hR4
 replace hKZ := hide hKZ
 replace hF4 := hide hF4
 replace hR4 := hide hR4
 clear hcall honZ hNo
 go_wp2
 have hkeep : ∀ (v0 v1 v2 v3 : Value) (k : Nat), W.heap.size ≤ k → ((((Z.setCell ⟨N4, 0, none⟩ v0).setCell ⟨N4, 1, none⟩ v1).setCell ⟨N4, 2, none⟩ v2).setCell ⟨N4, 3, none⟩ v3).heap[k]? = Z.heap[k]? := fun v0 v1 v2 v3 k hk => by
  have hne : k ≠ N4 := by omega
  rw [Below.heap_setCell _ _ _ _ hne, Below.heap_setCell _ _ _ _ hne, Below.heap_setCell _ _ _ _ hne, Below.heap_setCell _ _ _ _ hne]
 refine bodyPost_ret (v := f.v (.slice Am np Cm) (.slice Ad n Cd)) (by simp [results, Try.results58, go_sem, p0, p1, p2, p3, g0, g1, g2, g3]) rfl ⟨_, _, L, rfl, (hOIZ.out.kept fun k h1 _ => hkeep _ _ _ _ k h1).mono (by omega), fun k hk => hPLh.out k hk, ⟨xs, ess, hKZ.out.kept fun k h1 _ => hkeep _ _ _ _ k (by omega)⟩, by omega, ?_⟩
 exact (((hwZ.out.setCell (p := ⟨N4, 0, none⟩) (by show w.heap.size ≤ N4; omega) _).setCell (p := ⟨N4, 1, none⟩) (by show w.heap.size ≤ N4; omega) _).setCell (p := ⟨N4, 2, none⟩) (by show w.heap.size ≤ N4; omega) _).setCell (p := ⟨N4, 3, none⟩) (by show w.heap.size ≤ N4; omega) _
end Go.Proofs.Ytamjcafjdioidaa

namespace Go.Proofs.Ytamjcafjdioidaa
open Go.RowKit
set_option linter.unusedSimpArgs false
set_option linter.unusedVariables false
def selfO (x : Ins) : Opd := ⟨1, x.reg, 0⟩
def loneStep (self : Opd) (s : Opd × Bool) (a : Opd) : Opd × Bool := if a = self then s else if s.1 = self then (a, s.2) else if a ≠ s.1 then (s.1, false) else s
def loneF (x : Ins) (k : Nat) : Opd × Bool := (x.args.take k).foldl (loneStep (selfO x)) (selfO x, true)
def loneS (x : Ins) : Option Opd := if (loneF x x.args.length).2 = true ∧ (loneF x x.args.length).1 ≠ selfO x then some (loneF x x.args.length).1 else none
theorem loneF_next {x : Ins} {k : Nat} {a : Opd} (h : x.args[k]? = some a) : loneF x (k + 1) = loneStep (selfO x) (loneF x k) a := by
 unfold loneF
 rw [List.take_add_one, h, List.foldl_append]
 rfl
def lonePhi (l : List Ins) : Option Nat := (List.range (l.takeWhile isPhi).length).find? fun i => ((l[i]?).bind loneS).isSome
def sgB (R : List Bool) (bs : List (List Ins)) (b : Nat) : Bool := R.getD b false && (lonePhi (bs.getD b [])).isSome
def singleAt (bs : List (List Ins)) (b i : Nat) (x : Ins) (v : Opd) : List (List Ins) := subAll (rsub x.reg v) (bs.set b ((bs.getD b []).eraseIdx i))
def singleS (R : List Bool) (bs : List (List Ins)) : Option (List (List Ins)) := ((List.range bs.length).find? (sgB R bs)).bind fun b => (lonePhi (bs.getD b [])).bind fun i => ((bs.getD b [])[i]?).bind fun x => (loneS x).map fun v => singleAt bs b i x v
theorem front_len {l : List Ins} {i : Nat} (h : ∀ (j : Nat) y, j < i → l[j]? = some y → y.op = 25) (hs : i = l.length ∨ ∃ y, l[i]? = some y ∧ y.op ≠ 25) : (l.takeWhile isPhi).length = i := by
 have h1 := mixP_stop (p := 0) h hs
 have key : ∀ (l : List Ins) (i : Nat), (∀ (j : Nat) y, j < i → l[j]? = some y → y.op = 25) → (i = l.length ∨ ∃ y, l[i]? = some y ∧ y.op ≠ 25) → (l.takeWhile isPhi).length = i := by
  intro l
  induction l with
  | nil => intro i _ hs; rcases hs with h | ⟨y, h, _⟩; simpa using h.symm; simp at h
  | cons y l ih =>
   intro i h hs
   cases i with
   | zero =>
    have hy : isPhi y = false := by
     rcases hs with h1 | ⟨z, h1, h2⟩
     ·simp at h1
     ·cases h1; unfold isPhi; rw [beq_eq_false_iff_ne]; exact h2
    rw [List.takeWhile_cons, hy]; rfl
   | succ i =>
    have hy : isPhi y = true := by unfold isPhi; rw [beq_iff_eq]; exact h 0 y (by omega) rfl
    rw [List.takeWhile_cons, hy]
    simp only [if_true, List.length_cons]
    rw [ih i (fun j z hj hz => h (j + 1) z (by omega) (by simpa using hz)) (by
     rcases hs with h1 | ⟨z, h1, h2⟩
     ·left; simpa using h1
     ·right; exact ⟨z, by simpa using h1, h2⟩)]
 exact key l i h hs
theorem front_ge {l : List Ins} {i : Nat} (h : ∀ (j : Nat) y, j ≤ i → l[j]? = some y → y.op = 25) (hi : i < l.length) : i < (l.takeWhile isPhi).length := by
 induction l generalizing i with
 | nil => simp at hi
 | cons y l ih =>
  have hy : isPhi y = true := by unfold isPhi; rw [beq_iff_eq]; exact h 0 y (by omega) rfl
  rw [List.takeWhile_cons, hy]
  simp only [if_true, List.length_cons]
  cases i with
  | zero => omega
  | succ i =>
   have := ih (i := i) (fun j z hj hz => h (j + 1) z (by omega) (by simpa using hz)) (by simpa using hi)
   omega
theorem lone_found {l : List Ins} {i : Nat} {x : Ins} {v : Opd} (hx : l[i]? = some x) (hph : ∀ (j : Nat) y, j ≤ i → l[j]? = some y → y.op = 25) (hv : loneS x = some v) (hno : ∀ (j : Nat) y, j < i → l[j]? = some y → loneS y = none) : lonePhi l = some i := by
 unfold lonePhi
 have hi := (List.getElem?_eq_some_iff.1 hx).1
 refine find_range (front_ge hph hi) (by rw [hx]; simp [hv]) fun j hj => ?_
 rw [List.getElem?_eq_getElem (by omega)]
 simp [hno j _ hj (List.getElem?_eq_getElem (by omega))]
theorem lone_no {l : List Ins} {i : Nat} (hph : ∀ (j : Nat) y, j < i → l[j]? = some y → y.op = 25) (hs : i = l.length ∨ ∃ y, l[i]? = some y ∧ y.op ≠ 25) (hno : ∀ (j : Nat) y, j < i → l[j]? = some y → loneS y = none) : lonePhi l = none := by
 unfold lonePhi
 rw [front_len hph hs]
 refine find_range_none fun j hj => ?_
 cases h : l[j]? with
 | none => rfl
 | some y => simp [hno j y hj h]
theorem cells_erase : ∀ {l : List Ins} {es : List (Value × Value)} {i : Nat}, es.length = l.length → i < l.length → cellsOf (l.eraseIdx i) (es.eraseIdx i) = (cellsOf l es).take (i * 7) ++ (cellsOf l es).drop ((i + 1) * 7)
 | x :: l, e :: es, 0, h, _ => by
  have h0 : cellsOf (x :: l) (e :: es) = insC x e.1 e.2 ++ cellsOf l es := by simp [cellsOf]
  have h7 : (insC x e.1 e.2).length = 7 := rfl
  rw [List.eraseIdx_cons_zero, List.eraseIdx_cons_zero, h0, Nat.zero_mul, List.take_zero, List.nil_append, show (0 + 1) * 7 = 7 from rfl, List.drop_left' h7]
 | x :: l, e :: es, i + 1, h, hi => by
  have h0 : cellsOf (x :: l) (e :: es) = insC x e.1 e.2 ++ cellsOf l es := by simp [cellsOf]
  have h1 : cellsOf (x :: l.eraseIdx i) (e :: es.eraseIdx i) = insC x e.1 e.2 ++ cellsOf (l.eraseIdx i) (es.eraseIdx i) := by simp [cellsOf]
  have h7 : (insC x e.1 e.2).length = 7 := rfl
  have h4 : (i + 1) * 7 = 7 + i * 7 := by omega
  have h5 : (i + 1 + 1) * 7 = 7 + (i + 1) * 7 := by omega
  rw [List.eraseIdx_cons_succ, List.eraseIdx_cons_succ, h1, h0, cells_erase (by simpa using h) (by simpa using hi), h5, h4, ← h7, List.take_length_add_append, List.drop_length_add_append, List.append_assoc]
theorem cells_one : ∀ (l : List Ins) (es : List (Value × Value)), (∀ e, e ∈ es → e.1.oneCell' = true ∧ e.2.oneCell' = true) → ∀ u, u ∈ cellsOf l es → u.oneCell' = true
 | [], es, _, u, h => by simp [cellsOf] at h
 | x :: l, [], _, u, h => by simp [cellsOf] at h
 | x :: l, e :: es, he, u, h => by
  have h0 : cellsOf (x :: l) (e :: es) = insC x e.1 e.2 ++ cellsOf l es := by simp [cellsOf]
  rw [h0] at h
  rcases List.mem_append.1 h with h1 | h1
  ·have h2 := he e (List.mem_cons_self ..)
   unfold insC at h1
   simp only [List.mem_cons, List.not_mem_nil, or_false] at h1
   rcases h1 with rfl | rfl | rfl | rfl | rfl | rfl | rfl
   ·rfl
   ·rfl
   ·rfl
   ·rfl
   ·rfl
   ·exact h2.1
   ·exact h2.2
  ·exact cells_one l es (fun e' he' => he e' (List.mem_cons_of_mem _ he')) u h1
theorem nd_erase {vs : List Value} (h : Nd vs) (i : Nat) : Nd (vs.eraseIdx i) := by
 unfold Nd at h ⊢
 exact h.sublist ((List.eraseIdx_sublist vs i).filterMap _)
theorem map_erase {α β : Type} (f : α → β) (l : List α) (i : Nat) : (l.eraseIdx i).map f = (l.map f).eraseIdx i := by
 rw [List.eraseIdx_eq_take_drop_succ, List.eraseIdx_eq_take_drop_succ, List.map_append, List.map_take, List.map_drop]
theorem MF.del_ins {w0 w : World} {T : Nat → Prop} {N : Nat} {f : Fun} {c : Value} {xs : List Value} {ess : List (List (Value × Value))} {gd n C b i gc m Cx : Nat} {l : List Ins} {es : List (Value × Value)} {Z : List Value} (hf : MF w0 T N f c (.slice (some ⟨gd, 0, none⟩) n C)) (hk : OwnKd w0 0 (.slice (some ⟨gd, 0, none⟩) n C) f.blocks xs ess) (hT : ∀ k, TB (.slice (some ⟨gd, 0, none⟩) n C) xs ess k → T k)
  (hn : n = f.blocks.length) (hm : m = l.length) (hb : f.blocks[b]? = some l) (hx : xs[b]? = some (.slice (some ⟨gc, 0, none⟩) m Cx)) (he : ess[b]? = some es) (hi : i < m) (hw : Only (fun k => k = gc) w0.heap.size w0 w)
  (hr : w.ownsRow 0 39 7 (.slice (some ⟨gc, 0, none⟩) m Cx) m ((cellsOf l es).take (i * 7) ++ (cellsOf l es).drop ((i + 1) * 7) ++ Z)) :
  MF (w.setCell ⟨gd, b, none⟩ (.slice (some ⟨gc, 0, none⟩) (m - 1) Cx)) T N (setBlocks f (f.blocks.set b (l.eraseIdx i))) c (.slice (some ⟨gd, 0, none⟩) n C) ∧ Only T w0.heap.size w0 (w.setCell ⟨gd, b, none⟩ (.slice (some ⟨gc, 0, none⟩) (m - 1) Cx)) := by
 have hcd := hk.inn b _ l es hx hb he
 have hlen := hcd.len
 have tyC := (row_lt hcd.row rfl).2.2
 have tyD := (row_lt hk.row rfl).2.2
 have hgTd : T gd := hT gd (.inl rfl)
 have hgTc : T gc := hT gc (.inr (.inl ⟨_, List.mem_of_getElem? hx, rfl⟩))
 have hne : gc ≠ gd := ty_ne tyC tyD (by decide)
 have hon : Only T w0.heap.size w0 (w.setCell ⟨gd, b, none⟩ (.slice (some ⟨gc, 0, none⟩) (m - 1) Cx)) := (hw.more fun k _ h9 => by subst h9; exact hgTc).setCell (p := ⟨gd, b, none⟩) (.inl hgTd) _
 have hset : ∀ k, k ≠ gd → (w.setCell ⟨gd, b, none⟩ (.slice (some ⟨gc, 0, none⟩) (m - 1) Cx)).heap[k]? = w.heap[k]? := fun k h9 => Below.heap_setCell w ⟨gd, b, none⟩ _ k h9
 have hil : i < l.length := by omega
 have hel : (l.eraseIdx i).length = m - 1 := by rw [List.length_eraseIdx, if_pos hil, hm]
 have hee : (es.eraseIdx i).length = (l.eraseIdx i).length := by rw [hel, List.length_eraseIdx, if_pos (by omega)]; omega
 have hcode : OwnCd (w.setCell ⟨gd, b, none⟩ (.slice (some ⟨gc, 0, none⟩) (m - 1) Cx)) 0 (.slice (some ⟨gc, 0, none⟩) (m - 1) Cx) (l.eraseIdx i) (es.eraseIdx i) := by
  refine ⟨hee, ?_, fun j x e hxj hej => ?_, ?_, ?_⟩
  ·rw [hel, cells_erase hlen hil]
   refine row_prefix (row_kept hr fun k hk => ?_) ?_ (by omega)
   ·cases hk
    exact hset gc hne
   ·have h1 := hr.1
    have h2 := cellsOf_length hlen
    rw [← cells_erase hlen hil, cellsOf_length hee, hel]
  ·have hj : ∃ j' : Nat, l[j']? = some x ∧ es[j']? = some e := by
    rw [List.getElem?_eraseIdx] at hxj hej
    split at hxj
    ·rename_i h9
     rw [if_pos h9] at hej
     exact ⟨j, hxj, hej⟩
    ·rename_i h9
     rw [if_neg h9] at hej
     exact ⟨j + 1, hxj, hej⟩
   obtain ⟨j', h1, h2⟩ := hj
   obtain ⟨g1, g2, g3⟩ := hcd.inn j' x e h1 h2
   have key : ∀ k, k < w0.heap.size → k ≠ gc → k ≠ gd → (w.setCell ⟨gd, b, none⟩ (.slice (some ⟨gc, 0, none⟩) (m - 1) Cx)).heap[k]? = w0.heap[k]? := fun k h3 h4 h5 => (hset k h5).trans (hw.block k h3 h4)
   exact ⟨⟨row_kept g1.row fun k hk => key k (row_lt g1.row hk).2.1 (ty_ne (row_lt g1.row hk).2.2 tyC (by decide)) (ty_ne (row_lt g1.row hk).2.2 tyD (by decide)), g1.ok⟩, ⟨row_kept g2.row fun k hk => key k (row_lt g2.row hk).2.1 (ty_ne (row_lt g2.row hk).2.2 tyC (by decide)) (ty_ne (row_lt g2.row hk).2.2 tyD (by decide)), g2.ok⟩, g3⟩
  ·rw [map_erase]; exact nd_erase hcd.nda i
  ·rw [map_erase]; exact nd_erase hcd.ndt i
 have hd : (w.setCell ⟨gd, b, none⟩ (.slice (some ⟨gc, 0, none⟩) (m - 1) Cx)).ownsRow 0 36 1 (.slice (some ⟨gd, 0, none⟩) n C) f.blocks.length (xs.set b (.slice (some ⟨gc, 0, none⟩) (m - 1) Cx)) := by
  have h1 : w.ownsRow 0 36 1 (.slice (some ⟨gd, 0, none⟩) n C) n xs := by
   rw [hn]
   rw [hn] at hk
   exact row_kept hk.row fun k hk' => hw.block k (row_lt hk.row hk').2.1 (by cases hk'; exact Ne.symm hne)
  have h2 := (World.ownsRow.stored h1 b (.slice (some ⟨gc, 0, none⟩) (m - 1) Cx)).1
  rw [← hn]
  exact h2
 have hput := hk.put (w' := w.setCell ⟨gd, b, none⟩ (.slice (some ⟨gc, 0, none⟩) (m - 1) Cx)) hb hx he hcode (fun k h1 h2 h3 _ => (hset k (fun e => h3 (by rw [e]; rfl))).trans (hw.block k h1 (fun e => h2 (by rw [e]; rfl)))) hd (fun k hk' => by cases hk'; exact .inl rfl) (fun e k hee' => ⟨fun h9 => .inl ⟨e, List.mem_of_mem_eraseIdx hee', h9⟩, fun h9 => .inl ⟨e, List.mem_of_mem_eraseIdx hee', h9⟩⟩)
 refine ⟨hf.with_ hon hput fun k hk' => ?_, hon⟩
 rcases hk' with h1 | ⟨x, hx', h1⟩ | ⟨a, z, ha, hz, h1⟩
 ·exact hT k (.inl h1)
 ·rcases List.mem_or_eq_of_mem_set hx' with h2 | h2
  ·exact hT k (.inr (.inl ⟨x, h2, h1⟩))
  ·subst h2
   cases h1
   exact hgTc
 ·rcases List.mem_or_eq_of_mem_set ha with h2 | h2
  ·exact hT k (.inr (.inr ⟨a, z, h2, hz, h1⟩))
  ·subst h2
   exact hT k (.inr (.inr ⟨es, z, List.mem_of_getElem? he, List.mem_of_mem_eraseIdx hz, h1⟩))
end Go.Proofs.Ytamjcafjdioidaa
