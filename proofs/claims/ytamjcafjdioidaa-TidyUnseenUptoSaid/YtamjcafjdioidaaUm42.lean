/- Texts of the chain, without what is not wanted: IrDatc, IrR. No condition but sizes. -/
import Derived.WalkKit
import Derived.Deep.Slices
import Derived.Deep.Draws
import Derived.ChangeSame
import Derived.ChangeOld
import Derived.OwnWalk
import Derived.Laws.OwnMore
import Derived.Deep.AppendLies
import Derived.Test.YtamjcafjdioidaaRows
import Derived.ProofKit
import Derived.OpenShut
import Derived.JoinedCond
import Derived.WalkSpells
import Derived.WalkLawsBesides
import Derived.Deep.RegionHeld3
import Derived.Deep.LoopGhost
import Derived.Deep.QuietTactic
import Derived.BigQuiet
import Derived.Deep.DeepCutAuto
import Derived.Deep.CutBlock
import Derived.Test.YtamjcafjdioidaaUm01
import Derived.Test.YtamjcafjdioidaaUm02
import Derived.Test.YtamjcafjdioidaaUm05
import Derived.Test.YtamjcafjdioidaaUm41
namespace Go.Proofs.Ytamjcafjdioidaa
theorem beforeP_row (bs : List (List Ins)) (n : Nat) : beforeP bs (n + 1) 0 = beforeP bs n 0 ++ rowP n (bs.getD n []).length := by
 unfold beforeP
 rw [List.range_succ, List.flatMap_append]
 simp [rowP]
theorem beforeP_pre (bs : List (List Ins)) (i : Nat) : ∀ d : Nat, ∃ r, beforeP bs i 0 ++ r = beforeP bs (i + d) 0
 | 0 => ⟨[], by simp⟩
 | d + 1 => by
  obtain ⟨r, hr⟩ := beforeP_pre bs i d
  exact ⟨r ++ rowP (i + d) (bs.getD (i + d) []).length, by rw [← List.append_assoc, hr, ← beforeP_row]; rfl⟩
theorem rowP_pre (i : Nat) {j n : Nat} (h : j ≤ n) : ∃ r, rowP i j ++ r = rowP i n := by
 refine ⟨((List.range (n - j)).map fun (k : Nat) => ⟨0, (i : Int), ((j + k : Nat) : Int)⟩), ?_⟩
 unfold rowP
 have e : List.range n = List.range j ++ (List.range (n - j)).map (j + ·) := by
  have := @List.range_add j (n - j)
  rwa [show j + (n - j) = n by omega] at this
 rw [e, List.map_append, List.map_map]
 rfl
theorem beforeP_all {bs : List (List Ins)} {i j : Nat} {x : List Ins} (hx : bs[i]? = some x) (hj : j ≤ x.length) : ∃ r, beforeP bs i j ++ r = beforeP bs bs.length 0 := by
 have hi := (List.getElem?_eq_some_iff.1 hx).1
 obtain ⟨r1, h1⟩ := rowP_pre i hj
 obtain ⟨r2, h2⟩ := beforeP_pre bs (i + 1) (bs.length - (i + 1))
 rw [show i + 1 + (bs.length - (i + 1)) = bs.length by omega] at h2
 refine ⟨r1 ++ r2, ?_⟩
 rw [← h2, beforeP_row, getD_nil hx, ← h1]
 simp [beforeP, rowP]
theorem pos_place {bs : List (List Ins)} {i j : Nat} {x : List Ins} {ins : Ins} (hx : bs[i]? = some x) (hi : x[j]? = some ins) : (beforeP bs bs.length 0)[(before bs i j).length]? = some ⟨0, i, j⟩ := by
 have hj := (List.getElem?_eq_some_iff.1 hi).1
 have hil := (List.getElem?_eq_some_iff.1 hx).1
 obtain ⟨r, hr⟩ := beforeP_all hx (j := j + 1) (by omega)
 rw [← hr, beforeP_step, ← beforeP_length i j (.inr ⟨x, hx, by omega⟩) (by omega), List.append_assoc, List.getElem?_append_right (Nat.le_refl _)]
 simp
theorem pos_ins {bs : List (List Ins)} {i j : Nat} {x : List Ins} {ins : Ins} (hx : bs[i]? = some x) (hi : x[j]? = some ins) : bs.flatten[(before bs i j).length]? = some ins ∧ bs.flatten.take (before bs i j).length = before bs i j := by
 obtain ⟨r, hr⟩ := @before_prefix bs i (j + 1)
 rw [before_step hx hi] at hr
 rw [← hr, List.append_assoc]
 refine ⟨?_, by simp⟩
 rw [List.getElem?_append_right (Nat.le_refl _)]
 simp
theorem before_len {bs : List (List Ins)} {i j : Nat} {x : List Ins} (hx : bs[i]? = some x) (hj : j ≤ x.length) : (before bs i j).length = (before bs i 0).length + j := by
 unfold before
 rw [getD_nil hx]
 simp only [List.length_append, List.take_zero, List.length_nil, Nat.add_zero, List.length_take]
 omega
theorem place_of (bs : List (List Ins)) : ∀ i : Nat, i ≤ bs.length → ∀ k, k < (before bs i 0).length → ∃ i j x ins, bs[i]? = some x ∧ x[j]? = some ins ∧ (before bs i j).length = k
 | 0, _, k, hk => by simp [before] at hk
 | i + 1, hi, k, hk => by
  obtain ⟨x, hx⟩ : ∃ x, bs[i]? = some x := ⟨_, List.getElem?_eq_getElem (by omega)⟩
  rcases Nat.lt_or_ge k (before bs i 0).length with h | h
  ·exact place_of bs i (by omega) k h
  ·rw [← before_next hx, before_len hx (Nat.le_refl _)] at hk
   refine ⟨i, k - (before bs i 0).length, x, x[k - (before bs i 0).length]'(by omega), hx, List.getElem?_eq_getElem (by omega), ?_⟩
   rw [before_len hx (by omega)]
   omega
theorem def_of {bs : List (List Ins)} {r : Int} {k : Nat} {ins : Ins} (hk : bs.flatten[k]? = some ins) (hd : defs ins r = true) (hn : noDef (bs.flatten.take k) r) : ∃ i j : Nat, IsDef bs r i j ∧ (beforeP bs bs.length 0)[k]? = some ⟨0, i, j⟩ := by
 have hlt := (List.getElem?_eq_some_iff.1 hk).1
 obtain ⟨i, j, x, ins', hx, hi, hl⟩ := place_of bs bs.length (Nat.le_refl _) k (by rw [before_end]; exact hlt)
 obtain ⟨h1, h2⟩ := pos_ins hx hi
 have h3 := pos_place hx hi
 rw [hl] at h1 h2 h3
 rw [hk] at h1
 injection h1 with h1
 subst h1
 exact ⟨i, j, ⟨x, ins, hx, hi, hd, h2 ▸ hn⟩, h3⟩
end Go.Proofs.Ytamjcafjdioidaa

namespace Go.Proofs.Ytamjcafjdioidaa
open Go.RowKit
theorem noDef_take {l : List Ins} {m : Nat} {x : Ins} {r : Int} (h : l[m]? = some x) (hn : noDef (l.take m) r) (hd : defs x r = false) : noDef (l.take (m + 1)) r := by rw [take_snoc h]; exact noDef_snoc hn hd
set_option maxHeartbeats 1600000 in
theorem rdef_any (f : Fun) (reg : Int) (c1 c2 : Value) (w : World) (B : Nat) (hB : B ≤ w.heap.size) (hp : RInts.rep w B [c1] f.params) (hb : RBlks.rep w B [c2] f.blocks) (hsz : partsL f.blocks.flatten ≤ 1000000000000) :
  Calls Try.prog 74 #[f.v c1 c2, .int .i64 reg] w (DefPost f reg w) := by
 obtain ⟨A1, k1, h1, hm1, -⟩ := Rp.slice1_at hp
 obtain ⟨A2, k2, h2, hm2, -⟩ := Rp.slice1_at hb
 cases h1; cases h2
 have hfl := length_le_partsL f.blocks.flatten
 replace hp := hide hp
 replace hb := hide hb
 obtain ⟨W, hW, hwW, hWs, hx, hr⟩ := boxes2 w #[.string f.name, .slice A1 f.params.length k1, .int .i64 f.ret, .slice A2 f.blocks.length k2] #[.int .i64 0, .int .i64 0, .int .i64 0] 32 56
 have hR0 : W.heap[w.heap.size + 1]? = some (.cells #[.int .i64 0, .int .i64 0, .int .i64 0] 56 (0, 0)) := by
  rw [← hW]
  have := box_top (w.alloc (.cells #[.string f.name, .slice A1 f.params.length k1, .int .i64 f.ret, .slice A2 f.blocks.length k2] 32)) (.cells #[.int .i64 0, .int .i64 0, .int .i64 0] 56)
  simpa using this
 have x0 := hx 0 _ rfl
 have x1 := hx 1 _ rfl
 have x2 := hx 2 _ rfl
 have x3 := hx 3 _ rfl
 clear hx hr
 have hself := Below.refl W.heap.size W
 have hws : w.heap.size ≤ W.heap.size := by omega
 have hRW : w.heap.size + 1 < W.heap.size := by omega
 replace hWs := hide hWs
 replace hR0 := hide hR0
 go_enter Try.func74, Try.ntmps74
 go_wp2_with fail
 clear hW
 refine (code_any f _ _ W w.heap.size hws (RInts.later hp.out (hwW.mono hB) hB) (RBlks.later hb.out (hwW.mono hB) hB) (by omega)).mono ?_
 rintro e V ⟨v1, v2, rfl, bV, hl, hpl⟩
 obtain ⟨A3, k3, h3, hm3, gl⟩ := Rp.slice_open hl
 obtain ⟨A4, k4, h4, hm4, gp⟩ := Rp.slice_open hpl
 have hpp : (beforeP f.blocks f.blocks.length 0).length = f.blocks.flatten.length := by rw [beforeP_length _ _ (.inl rfl) (Nat.le_refl _), before_end]
 cases h3; cases h4
 replace gl := hide gl
 replace gp := hide gp
 clear hl hpl x0 x1 x2 x3
 have hRV : Hid (V.heap[w.heap.size + 1]? = some (.cells #[.int .i64 0, .int .i64 0, .int .i64 0] 56 (0, 0))) := hide ((bV.block _ hRW).trans hR0.out)
 have hRV2 : w.heap.size + 1 < V.heap.size := by have := bV.size; omega
 obtain ⟨l, hll⟩ : ∃ l : List Ins, Hid (l = f.blocks.flatten) := ⟨_, hide rfl⟩
 obtain ⟨pl, hpll⟩ : ∃ pl : List Plc, Hid (pl = beforeP f.blocks f.blocks.length 0) := ⟨_, hide rfl⟩
 rw [← hll.out] at gl hfl hsz hm3 hpp ⊢
 rw [← hpll.out] at gp hpp hm4 ⊢
 replace hpp := hide hpp
 have hVV := Nat.le_refl V.heap.size
 go_wp2
 go_loopw [8] (fun i wr => ∃ k : Nat, k ≤ l.length ∧ i = .int .i64 k ∧ Hid (noDef (l.take k) reg) ∧ Below V.heap.size V wr) (fun i _ => l.length - (intOf i).toNat)
 case atStart => exact ⟨0, Nat.zero_le _, rfl, hide (noDef_nil _), Below.refl _ _⟩
 case round =>
  obtain ⟨k, hk, rfl, hn, hbel⟩ := hrel
  have hq : Hid (wr.heap[w.heap.size + 1]? = some (.cells #[.int .i64 0, .int .i64 0, .int .i64 0] 56 (0, 0))) := hide ((hbel.block _ hRV2).trans hRV.out)
  by_cases hlt : k < l.length
  ·obtain ⟨b1, o1, rfl, he1⟩ := gl.out (by omega)
   obtain ⟨ins, hins⟩ := get_ex hlt
   obtain ⟨_, _, ⟨a1, a2, rfl, ha, hto, hwf⟩, hc⟩ := he1 k ins hins.out
   obtain ⟨q0, q1, q2, q3, q4, q5, q6⟩ := hc.seven
   obtain ⟨A5, k5, h5, -, -⟩ := Rp.slice_open ha
   obtain ⟨A6, k6, h6, -, -⟩ := Rp.slice1_open hto
   cases h5; cases h6
   clear he1 hc ha hto hwf
   cases hk1 : (ins.reg == reg) with
   | false =>
    have hd : Hid (defs ins reg = false) := hide (by simp [defs, hk1])
    go_wp2
    go_roundw
    case rel => exact ⟨k + 1, hlt, by go_num, hide (noDef_take hins.out hn.out hd.out), hbel⟩
    case measure => simp [intOf]; omega
   | true =>
    cases hk2 : (iresult ins.op ins.ty != 0) with
    | false =>
     have hd : Hid (defs ins reg = false) := hide (by simp [defs, hk1, hk2])
     go_wp2_with (go_at_call 73; refine (rresult_any ins _ _ _).mono ?_; rintro e w4 ⟨rfl, hcall⟩; have hbel4 := below_next hbel hVV hcall)
     go_roundw
     case rel => exact ⟨k + 1, hlt, by go_num, hide (noDef_take hins.out hn.out hd.out), hbel4⟩
     case measure => simp [intOf]; omega
    | true =>
     have hd : Hid (defs ins reg = true) := hide (by simp [defs, hk1, hk2])
     obtain ⟨i, j, hdef, hplace⟩ := def_of (bs := f.blocks) (k := k) (by rw [← hll.out]; exact hins.out) hd.out (by rw [← hll.out]; exact hn.out)
     rw [← hpll.out] at hplace
     have hltp : k < pl.length := by rw [hpp.out]; exact hlt
     obtain ⟨b2, o2, rfl, he2⟩ := gp.out (by omega)
     obtain ⟨_, _, ⟨rfl, _⟩, hc2⟩ := he2 k _ hplace
     obtain ⟨p0, p1, p2⟩ := hc2.three
     replace hdef := hide hdef
     clear he2 hc2 hplace
     go_wp2_with fail
     refine (rresult_any ins _ _ _).mono ?_
     rintro e w4 ⟨rfl, hcall⟩
     have hbel4 := below_next hbel hVV hcall
     have hq4 : Hid (w4.heap[w.heap.size + 1]? = some (.cells #[.int .i64 0, .int .i64 0, .int .i64 0] 56 (0, 0))) := hide ((hbel4.block _ hRV2).trans hRV.out)
     obtain ⟨z0, z1, z2⟩ := three_cells hq4.out
     have f0 := one_free (j := 0) hq4.out
     have f1 := one_free (j := 1) hq4.out
     have f2 := one_free (j := 2) hq4.out
     go_wp2
     obtain ⟨y0, y1, y2⟩ := three_cells (set_heap (j := 2) (v := .int .i64 (j : Int)) (set_heap (j := 1) (v := .int .i64 (i : Int)) (set_heap (j := 0) (v := .int .i64 0) hq4.out)))
     refine bodyPost_ret (v := .tuple #[.agg #[.int .i64 0, .int .i64 i, .int .i64 j], .bool true]) (by simp [results, Try.results74, go_sem, y0, y1, y2]) rfl ⟨i, j, true, rfl, ?_, fun _ => hdef.out, (fun h => by cases h)⟩
     have hbw : Below w.heap.size w w4 := hwW.trans ((bV.mono hws).trans (hbel4.mono (by omega)))
     exact ((hbw.setCell (by simp) _).setCell (by simp) _).setCell (by simp) _
  ·have hno : Hid (noDef f.blocks.flatten reg) := hide (by rw [← hll.out]; have := hn.out; rwa [List.take_of_length_le (by omega)] at this)
   obtain ⟨z0, z1, z2⟩ := three_cells hq.out
   have f0 := one_free (j := 0) hq.out
   have f1 := one_free (j := 1) hq.out
   have f2 := one_free (j := 2) hq.out
   go_wp2
   obtain ⟨y0, y1, y2⟩ := three_cells (set_heap (j := 2) (v := .int .i64 0) (set_heap (j := 1) (v := .int .i64 0) (set_heap (j := 0) (v := .int .i64 0) hq.out)))
   refine bodyPost_ret (v := .tuple #[.agg #[.int .i64 0, .int .i64 ((0 : Nat) : Int), .int .i64 ((0 : Nat) : Int)], .bool false]) (by simp [results, Try.results74, go_sem, y0, y1, y2]) rfl ⟨0, 0, false, rfl, ?_, (fun h => by cases h), fun _ => ⟨rfl, rfl, hno.out⟩⟩
   have hbw : Below w.heap.size w wr := hwW.trans ((bV.mono hws).trans (hbel.mono (by omega)))
   exact ((hbw.setCell (by simp) _).setCell (by simp) _).setCell (by simp) _
end Go.Proofs.Ytamjcafjdioidaa
