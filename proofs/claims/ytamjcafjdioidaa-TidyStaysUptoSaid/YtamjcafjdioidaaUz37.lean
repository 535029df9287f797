/- Texts of the chain, without what is not wanted: IrR. No condition but sizes. -/
import Derived.WalkKit
import Derived.Deep.Slices
import Derived.Deep.Draws
import Derived.ChangeSame
import Derived.ChangeOld
import Derived.OwnWalk
import Derived.Laws.OwnMore
import Derived.Deep.AppendLies
import Derived.Test.YtamjcafjdioidaaRows
import Derived.ProofKit
import Derived.OpenShut
import Derived.JoinedCond
import Derived.WalkSpells
import Derived.WalkLawsBesides
import Derived.Deep.RegionHeld3
import Derived.Deep.LoopGhost
import Derived.Deep.QuietTactic
import Derived.BigQuiet
import Derived.Deep.DeepCutAuto
import Derived.Deep.CutBlock
import Derived.Test.YtamjcafjdioidaaUz01
import Derived.Test.YtamjcafjdioidaaUz02
import Derived.Test.YtamjcafjdioidaaUz04
import Derived.Test.YtamjcafjdioidaaUz36
namespace Go.Proofs.Ytamjcafjdioidaa
open Go.RowKit
theorem noDef_take {l : List Ins} {m : Nat} {x : Ins} {r : Int} (h : l[m]? = some x) (hn : noDef (l.take m) r) (hd : defs x r = false) : noDef (l.take (m + 1)) r := by rw [take_snoc h]; exact noDef_snoc hn hd
set_option maxHeartbeats 1600000 in
theorem rdef_any (f : Fun) (reg : Int) (c1 c2 : Value) (w : World) (B : Nat) (hB : B ≤ w.heap.size) (hp : RInts.rep w B [c1] f.params) (hb : RBlks.rep w B [c2] f.blocks) (hsz : partsL f.blocks.flatten ≤ 1000000000000) :
  Calls Try.prog 74 #[f.v c1 c2, .int .i64 reg] w (DefPost f reg w) := by
 obtain ⟨A1, k1, h1, hm1, -⟩ := Rp.slice1_at hp
 obtain ⟨A2, k2, h2, hm2, -⟩ := Rp.slice1_at hb
 cases h1; cases h2
 have hfl := length_le_partsL f.blocks.flatten
 replace hp := hide hp
 replace hb := hide hb
 obtain ⟨W, hW, hwW, hWs, hx, hr⟩ := boxes2 w #[.string f.name, .slice A1 f.params.length k1, .int .i64 f.ret, .slice A2 f.blocks.length k2] #[.int .i64 0, .int .i64 0, .int .i64 0] 32 56
 have hR0 : W.heap[w.heap.size + 1]? = some (.cells #[.int .i64 0, .int .i64 0, .int .i64 0] 56 (0, 0)) := by
  rw [← hW]
  have := box_top (w.alloc (.cells #[.string f.name, .slice A1 f.params.length k1, .int .i64 f.ret, .slice A2 f.blocks.length k2] 32)) (.cells #[.int .i64 0, .int .i64 0, .int .i64 0] 56)
  simpa using this
 have x0 := hx 0 _ rfl
 have x1 := hx 1 _ rfl
 have x2 := hx 2 _ rfl
 have x3 := hx 3 _ rfl
 clear hx hr
 have hself := Below.refl W.heap.size W
 have hws : w.heap.size ≤ W.heap.size := by omega
 have hRW : w.heap.size + 1 < W.heap.size := by omega
 replace hWs := hide hWs
 replace hR0 := hide hR0
 go_enter Try.func74, Try.ntmps74
 go_wp2_with fail
 clear hW
 refine (code_any f _ _ W w.heap.size hws (RInts.later hp.out (hwW.mono hB) hB) (RBlks.later hb.out (hwW.mono hB) hB) (by omega)).mono ?_
 rintro e V ⟨v1, v2, rfl, bV, hl, hpl⟩
 obtain ⟨A3, k3, h3, hm3, gl⟩ := Rp.slice_open hl
 obtain ⟨A4, k4, h4, hm4, gp⟩ := Rp.slice_open hpl
 have hpp : (beforeP f.blocks f.blocks.length 0).length = f.blocks.flatten.length := by rw [beforeP_length _ _ (.inl rfl) (Nat.le_refl _), before_end]
 cases h3; cases h4
 replace gl := hide gl
 replace gp := hide gp
 clear hl hpl x0 x1 x2 x3
 have hRV : Hid (V.heap[w.heap.size + 1]? = some (.cells #[.int .i64 0, .int .i64 0, .int .i64 0] 56 (0, 0))) := hide ((bV.block _ hRW).trans hR0.out)
 have hRV2 : w.heap.size + 1 < V.heap.size := by have := bV.size; omega
 obtain ⟨l, hll⟩ : ∃ l : List Ins, Hid (l = f.blocks.flatten) := ⟨_, hide rfl⟩
 obtain ⟨pl, hpll⟩ : ∃ pl : List Plc, Hid (pl = beforeP f.blocks f.blocks.length 0) := ⟨_, hide rfl⟩
 rw [← hll.out] at gl hfl hsz hm3 hpp ⊢
 rw [← hpll.out] at gp hpp hm4 ⊢
 replace hpp := hide hpp
 have hVV := Nat.le_refl V.heap.size
 go_wp2
 go_loopw [8] (fun i wr => ∃ k : Nat, k ≤ l.length ∧ i = .int .i64 k ∧ Hid (noDef (l.take k) reg) ∧ Below V.heap.size V wr) (fun i _ => l.length - (intOf i).toNat)
 case atStart => exact ⟨0, Nat.zero_le _, rfl, hide (noDef_nil _), Below.refl _ _⟩
 case round =>
  obtain ⟨k, hk, rfl, hn, hbel⟩ := hrel
  have hq : Hid (wr.heap[w.heap.size + 1]? = some (.cells #[.int .i64 0, .int .i64 0, .int .i64 0] 56 (0, 0))) := hide ((hbel.block _ hRV2).trans hRV.out)
  by_cases hlt : k < l.length
  ·obtain ⟨b1, o1, rfl, he1⟩ := gl.out (by omega)
   obtain ⟨ins, hins⟩ := get_ex hlt
   obtain ⟨_, _, ⟨a1, a2, rfl, ha, hto, hwf⟩, hc⟩ := he1 k ins hins.out
   obtain ⟨q0, q1, q2, q3, q4, q5, q6⟩ := hc.seven
   obtain ⟨A5, k5, h5, -, -⟩ := Rp.slice_open ha
   obtain ⟨A6, k6, h6, -, -⟩ := Rp.slice1_open hto
   cases h5; cases h6
   clear he1 hc ha hto hwf
   cases hk1 : (ins.reg == reg) with
   | false =>
    have hd : Hid (defs ins reg = false) := hide (by simp [defs, hk1])
    go_wp2
    go_roundw
    case rel => exact ⟨k + 1, hlt, by go_num, hide (noDef_take hins.out hn.out hd.out), hbel⟩
    case measure => simp [intOf]; omega
   | true =>
    cases hk2 : (iresult ins.op ins.ty != 0) with
    | false =>
     have hd : Hid (defs ins reg = false) := hide (by simp [defs, hk1, hk2])
     go_wp2_with (go_at_call 73; refine (rresult_any ins _ _ _).mono ?_; rintro e w4 ⟨rfl, hcall⟩; have hbel4 := below_next hbel hVV hcall)
     go_roundw
     case rel => exact ⟨k + 1, hlt, by go_num, hide (noDef_take hins.out hn.out hd.out), hbel4⟩
     case measure => simp [intOf]; omega
    | true =>
     have hd : Hid (defs ins reg = true) := hide (by simp [defs, hk1, hk2])
     obtain ⟨i, j, hdef, hplace⟩ := def_of (bs := f.blocks) (k := k) (by rw [← hll.out]; exact hins.out) hd.out (by rw [← hll.out]; exact hn.out)
     rw [← hpll.out] at hplace
     have hltp : k < pl.length := by rw [hpp.out]; exact hlt
     obtain ⟨b2, o2, rfl, he2⟩ := gp.out (by omega)
     obtain ⟨_, _, ⟨rfl, _⟩, hc2⟩ := he2 k _ hplace
     obtain ⟨p0, p1, p2⟩ := hc2.three
     replace hdef := hide hdef
     clear he2 hc2 hplace
     go_wp2_with fail
     refine (rresult_any ins _ _ _).mono ?_
     rintro e w4 ⟨rfl, hcall⟩
     have hbel4 := below_next hbel hVV hcall
     have hq4 : Hid (w4.heap[w.heap.size + 1]? = some (.cells #[.int .i64 0, .int .i64 0, .int .i64 0] 56 (0, 0))) := hide ((hbel4.block _ hRV2).trans hRV.out)
     obtain ⟨z0, z1, z2⟩ := three_cells hq4.out
     have f0 := one_free (j := 0) hq4.out
     have f1 := one_free (j := 1) hq4.out
     have f2 := one_free (j := 2) hq4.out
     go_wp2
     obtain ⟨y0, y1, y2⟩ := three_cells (set_heap (j := 2) (v := .int .i64 (j : Int)) (set_heap (j := 1) (v := .int .i64 (i : Int)) (set_heap (j := 0) (v := .int .i64 0) hq4.out)))
     refine bodyPost_ret (v := .tuple #[.agg #[.int .i64 0, .int .i64 i, .int .i64 j], .bool true]) (by simp [results, Try.results74, go_sem, y0, y1, y2]) rfl ⟨i, j, true, rfl, ?_, fun _ => hdef.out, (fun h => by cases h)⟩
     have hbw : Below w.heap.size w w4 := hwW.trans ((bV.mono hws).trans (hbel4.mono (by omega)))
     exact ((hbw.setCell (by simp) _).setCell (by simp) _).setCell (by simp) _
  ·have hno : Hid (noDef f.blocks.flatten reg) := hide (by rw [← hll.out]; have := hn.out; rwa [List.take_of_length_le (by omega)] at this)
   obtain ⟨z0, z1, z2⟩ := three_cells hq.out
   have f0 := one_free (j := 0) hq.out
   have f1 := one_free (j := 1) hq.out
   have f2 := one_free (j := 2) hq.out
   go_wp2
   obtain ⟨y0, y1, y2⟩ := three_cells (set_heap (j := 2) (v := .int .i64 0) (set_heap (j := 1) (v := .int .i64 0) (set_heap (j := 0) (v := .int .i64 0) hq.out)))
   refine bodyPost_ret (v := .tuple #[.agg #[.int .i64 0, .int .i64 ((0 : Nat) : Int), .int .i64 ((0 : Nat) : Int)], .bool false]) (by simp [results, Try.results74, go_sem, y0, y1, y2]) rfl ⟨0, 0, false, rfl, ?_, (fun h => by cases h), fun _ => ⟨rfl, rfl, hno.out⟩⟩
   have hbw : Below w.heap.size w wr := hwW.trans ((bV.mono hws).trans (hbel.mono (by omega)))
   exact ((hbw.setCell (by simp) _).setCell (by simp) _).setCell (by simp) _
end Go.Proofs.Ytamjcafjdioidaa
