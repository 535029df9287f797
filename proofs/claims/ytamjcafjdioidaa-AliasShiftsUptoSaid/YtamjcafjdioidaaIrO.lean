/- Walks of ir.Result, Ends, Idle, Calm and of the references'. No condition. | ir.each, over each closure that the program hands to it: an invariant that the closure's calls hand on. No condition. | What layer 2's arguments read as. No condition. -/
import Derived.Test.YtamjcafjdioidaaRows
import Derived.Test.YtamjcafjdioidaaIrData
import Derived.Test.YtamjcafjdioidaaApn
import Derived.WalkKit
import Derived.WalkSpells
import Derived.WalkLawsBesides
import Derived.Deep.RegionHeld3
import Derived.Deep.LoopGhost
import Derived.Deep.QuietTactic
import Derived.BigQuiet
import Derived.Test.YtamjcafjdioidaaOpen
namespace Go.Proofs.Ytamjcafjdioidaa
open Go.RowKit

abbrev Ins.v (x : Ins) (c d : Value) : Value := .agg #[.int .i64 x.op, .int .i64 x.reg, .int .i64 x.ty, .int .i64 x.num, .int .i64 x.flags, c, d]

set_option maxHeartbeats 400000 in
theorem ends_any (op : Int) (w : World) : Calls Try.prog 91 #[.int .i64 op] w fun e w' => e = .returned (.bool (iends op)) ∧ w = w' := by
  go_enter Try.func91, Try.ntmps91
  go_wp2
  all_goals go_ret
  all_goals exact ⟨ret_bool (by rw [Bool.eq_iff_iff]; simp [iends]; omega), rfl⟩

set_option maxHeartbeats 400000 in
theorem rends_any (op : Int) (w : World) : Calls Try.prog 69 #[.int .i64 op] w fun e w' => e = .returned (.bool (iends op)) ∧ w = w' := by
  go_enter Try.func69, Try.ntmps69
  go_wp2
  all_goals go_ret
  all_goals exact ⟨ret_bool (by rw [Bool.eq_iff_iff]; simp [iends]; omega), rfl⟩

set_option maxHeartbeats 400000 in
theorem result_any (x : Ins) (c d : Value) (w : World) : Calls Try.prog 82 #[x.v c d] w fun e w' => e = .returned (.int .i64 (iresult x.op x.ty)) ∧ Below w.heap.size w w' := by
  go_enter Try.func82, Try.ntmps82
  go_wp2
  all_goals go_ret
  all_goals refine ⟨ret_int ?_, (Below.refl _ _).alloc (by simp) _⟩
  all_goals
    show _ = iresult x.op x.ty
    unfold iresult
    try simp at *
    (repeat' split) <;> omega

set_option maxHeartbeats 400000 in
theorem rresult_any (x : Ins) (c d : Value) (w : World) : Calls Try.prog 73 #[x.v c d] w fun e w' => e = .returned (.int .i64 (iresult x.op x.ty)) ∧ Below w.heap.size w w' := by
  go_enter Try.func73, Try.ntmps73
  go_wp2
  all_goals go_ret
  all_goals refine ⟨ret_int ?_, (Below.refl _ _).alloc (by simp) _⟩
  all_goals
    show _ = iresult x.op x.ty
    unfold iresult
    try simp at *
    (repeat' split) <;> omega

end Go.Proofs.Ytamjcafjdioidaa

namespace Go.Proofs.Ytamjcafjdioidaa
open Go.RowKit

abbrev I64 (n : Int) : Prop := (Lit.int .i64 n).wf = true
def RInt : Rp Int := .plain (fun n => [.int .i64 n]) I64
def ROpd : Rp Opd := .plain (fun x => [.int .i64 x.kind, .int .i64 x.num, .int .u64 x.bits]) fun x => I64 x.kind ∧ I64 x.num
def RInts : Rp (List Int) := .slice 1 RInt
def ROpds : Rp (List Opd) := .slice 3 ROpd
def RIns : Rp Ins where
  rep w B cs x := ∃ c d, cs = [.int .i64 x.op, .int .i64 x.reg, .int .i64 x.ty, .int .i64 x.num, .int .i64 x.flags, c, d] ∧ ROpds.rep w B [c] x.args ∧ RInts.rep w B [d] x.to ∧ I64 x.op ∧ I64 x.reg ∧ I64 x.ty ∧ I64 x.num ∧ I64 x.flags
  keep := by
    rintro w w' B B' cs x ⟨c, d, h, h1, h2, h3⟩ hk hB
    exact ⟨c, d, h, ROpds.keep h1 hk hB, RInts.keep h2 hk hB, h3⟩
def RBlk : Rp (List Ins) := .slice 7 RIns
def RBlks : Rp (List (List Ins)) := .slice 1 RBlk

abbrev Fun.v (x : Fun) (c d : Value) : Value := .agg #[.string x.name, c, .int .i64 x.ret, d]

set_option maxHeartbeats 400000 in
/-- ir.each with lathe/ir.Def$1, which holds 3 captured variables. -/
theorem each_Def (f : Fun) (c1 c2 p1 p2 p3 : Value) (S : Nat → Prop) (Inv : Nat → Nat → World → Prop) (Stop : World → Prop) (w : World) (B : Nat) (hB : B ≤ w.heap.size) (hS : ∀ k, S k → B ≤ k)
    (hp : RInts.rep w B [c1] f.params) (hb : RBlks.rep w B [c2] f.blocks)
    (hI : ∀ o, Inv 0 0 (w.alloc o))
    (hnext : ∀ i x w1, f.blocks[i]? = some x → Inv i x.length w1 → Inv (i + 1) 0 w1)
    (hstep : ∀ (i j : Nat) (x : List Ins) (ins : Ins) (b o : Nat) (es : List Value) (w1 : World), f.blocks[i]? = some x → x[j]? = some ins → Only S w.heap.size w w1 → b < B → es.length = 7 → RIns.rep w1 B es ins → At w1 b o es → Inv i j w1 →
      Calls Try.prog 81 #[.agg #[.int .i64 0, .int .i64 i, .int .i64 j], .pointer (some ⟨b, o, none⟩), p1, p2, p3] w1 fun e w2 => ∃ r : Bool, e = .returned (.bool r) ∧ Only (fun k => S k ∧ k < w.heap.size) w1.heap.size w1 w2 ∧ (r = true → Inv i (j + 1) w2) ∧ (r = false → Stop w2)) :
    Calls Try.prog 80 #[f.v c1 c2, .func (.func 81) #[] #[p1, p2, p3]] w fun e w' => e = .returned (.tuple #[]) ∧ Only S w.heap.size w w' ∧ (Inv f.blocks.length 0 w' ∨ Stop w') := by
  obtain ⟨A1, k1, h1, hm1, _⟩ := Rp.slice1_at hp
  obtain ⟨A2, k2, h2, hm2, gb⟩ := Rp.slice1_at hb
  cases h1; cases h2
  replace gb := hide gb
  replace hI := hide hI
  replace hnext := hide hnext
  replace hstep := hide hstep
  replace hS := hide hS
  replace hp := hide hp
  replace hb := hide hb
  go_enter Try.func80, Try.ntmps80
  go_wp2
  have hI0 := hide (hI.out (.cells #[.string f.name, .slice A1 f.params.length k1, .int .i64 f.ret, .slice A2 f.blocks.length k2] 32))
  obtain ⟨W, hW, hwW, hWs, hx⟩ := boxes1 w #[.string f.name, .slice A1 f.params.length k1, .int .i64 f.ret, .slice A2 f.blocks.length k2] 32
  rw [hW]
  rw [hW] at hI0
  clear hW
  have hsz : w.heap.size ≤ W.heap.size := by omega
  have x3 : ∀ w', Only (fun k => S k ∧ k < w.heap.size) W.heap.size W w' → w'.cell? ⟨w.heap.size, 3, none⟩ = some (.slice A2 f.blocks.length k2) := fun w' h =>
    (h.cell (p := ⟨w.heap.size, 3, none⟩) (by show w.heap.size < _; omega) (fun hs => by have : w.heap.size < w.heap.size := hs.2; omega)).trans (hx 3 _ rfl W (Below.refl _ _))
  clear hx
  replace hWs := hide hWs
  have hS' : Hid (∀ k, (S k ∧ k < w.heap.size) → B ≤ k) := hide (fun k hk => hS.out k hk.1)
  have hwW' : Hid (Only (fun k => S k ∧ k < w.heap.size) w.heap.size w W) := hide (.of_below hwW)
  go_loopw [9] (fun i wr => ∃ k : Nat, k ≤ f.blocks.length ∧ i = .int .i64 k ∧ Hid (Inv k 0 wr) ∧ Only (fun k => S k ∧ k < w.heap.size) W.heap.size W wr) (fun i _ => f.blocks.length - (intOf i).toNat)
  case atStart => exact ⟨0, Nat.zero_le _, rfl, hI0, Only.refl _ _ _⟩
  case round =>
    obtain ⟨k, hk, rfl, hinv, hbel⟩ := hrel
    by_cases hlt : k < f.blocks.length
    · obtain ⟨b1, o1, rfl, hb1, he1⟩ := gb.out (by omega)
      obtain ⟨x, hx⟩ := get_ex hlt
      obtain ⟨d1, hr1, hd1⟩ := he1 k x hx.out
      obtain ⟨A3, c3, h3, hm3, ga3⟩ := Rp.slice_at hr1
      cases h3
      replace ga3 := hide ga3
      have hd1' : ∀ w', Only (fun k => S k ∧ k < w.heap.size) W.heap.size W w' → w'.cell? ⟨b1, o1 + k, none⟩ = some (.slice A3 x.length c3) := fun w' h => only_cell hd1 hS'.out hb1 hB w' (hwW'.out.trans (h.mono hsz))
      clear hd1 hr1 he1
      go_wp2
      go_loopw [19] (fun i wr1 => ∃ m : Nat, m ≤ x.length ∧ i = .int .i64 m ∧ Hid (Inv k m wr1) ∧ Only (fun k => S k ∧ k < w.heap.size) W.heap.size W wr1) (fun i _ => x.length - (intOf i).toNat)
      case atStart => exact ⟨0, Nat.zero_le _, rfl, hinv, hbel⟩
      case round =>
        clear hinv
        obtain ⟨m, hm, rfl, hinv, hbel1⟩ := hrel
        by_cases hlt2 : m < x.length
        · obtain ⟨b3, o3, rfl, hb3, he3⟩ := ga3.out (by omega)
          obtain ⟨ins, hins⟩ := get_ex hlt2
          obtain ⟨es, hes, hri, hat⟩ := he3 m ins hins.out
          have hcall := hide (hstep.out k m x ins b3 (o3 + m * 7) es _ hx.out hins.out ((hwW'.out.trans (hbel1.mono hsz)).more (fun _ _ h => h.1)) hb3 hes (Rp.only hri (hwW'.out.trans (hbel1.mono hsz)) hS'.out hB) (hat.only (hwW'.out.trans (hbel1.mono hsz)) hS'.out hb3 hB) hinv.out)
          clear he3 hri hat
          go_wp2_with fail
          refine hcall.out.mono ?_
          rintro e w2 ⟨r, rfl, hw2, ht, hf⟩
          clear hcall
          have hbel2 := hbel1.next (Nat.le_refl _) hw2
          clear hw2
          cases r with
          | true =>
            replace ht := hide (ht rfl)
            clear hf
            go_wp2
            go_roundw
            case rel => exact ⟨m + 1, hlt2, by go_num, ht, hbel2⟩
            case measure => simp [intOf]; omega
          | false =>
            replace hf := hide (hf rfl)
            clear ht
            go_wp2
            exact bodyPost_ret (results_none rfl _ _ _) rfl ⟨rfl, (hwW'.out.trans (hbel2.mono hsz)).more (fun _ _ h => h.1), .inr hf.out⟩
        · have hlast : Hid (Inv k x.length _) := hide (show Inv k x.length _ from (show m = x.length by omega) ▸ hinv.out)
          go_wp2
          go_roundw
          case rel => exact ⟨k + 1, hlt, by go_num, hide (hnext.out k x _ hx.out hlast.out), hbel1⟩
          case measure => simp [intOf]; omega
    · obtain rfl : k = f.blocks.length := by omega
      go_wp2
      go_end0
      exact ⟨rfl, (hwW'.out.trans (hbel.mono hsz)).more (fun _ _ h => h.1), .inl hinv.out⟩

end Go.Proofs.Ytamjcafjdioidaa

namespace Go.Proofs.Ytamjcafjdioidaa
open Go.RowKit Go.ChangeShapes Go.WideShapes Go.Deep

theorem cells_uint64 : Try.prog.cellsOf 40 = 1 := by kernel_rfl
theorem cells_string : Try.prog.cellsOf 9 = 1 := by kernel_rfl
theorem cells_Value : Try.prog.cellsOf 42 = 3 := by kernel_rfl
theorem cells_Values : Try.prog.cellsOf 37 = 1 := by kernel_rfl
theorem cells_Ints : Try.prog.cellsOf 29 = 1 := by kernel_rfl
theorem cells_Instr : Try.prog.cellsOf 39 = 7 := by kernel_rfl
theorem cells_Instrs : Try.prog.cellsOf 34 = 1 := by kernel_rfl
theorem cells_Block : Try.prog.cellsOf 36 = 1 := by kernel_rfl
theorem cells_Blocks : Try.prog.cellsOf 30 = 1 := by kernel_rfl
theorem cells_Func : Try.prog.cellsOf 32 = 4 := by kernel_rfl

def insSz (x : Ins) : Nat := 1 + x.args.length + x.to.length
def blkSz (l : List Ins) : Nat := (l.map insSz).sum + 1
def blksSz (l : List (List Ins)) : Nat := (l.map blkSz).sum + 1
def funSz (f : Fun) : Nat := f.params.length + blksSz f.blocks
theorem sum_ones {α : Type} (l : List α) : (l.map fun _ => 1).sum = l.length := by induction l with
  | nil => rfl
  | cons x l ih => simp only [List.map_cons, List.sum_cons, ih, List.length_cons]; omega

theorem opens_int : Opens 3 RInt (fun _ => 1) := by
  intro H enc w base spare held fuel cs x h
  obtain ⟨n, rfl, rfl, hw⟩ := DataW.trod_int Try.underlying3 h
  exact ⟨n, ⟨rfl, hw⟩, bulk_one _⟩
theorem opens_Ints : Opens 29 RInts (fun l => l.length + 1) := by
  have := opens_slice Try.underlying29 cells_int (by omega) opens_int
  simp only [sum_ones] at this
  exact this
theorem opens_Value : Opens 42 ROpd (fun _ => 1) := by
  intro H enc w base spare held fuel cs x h
  obtain ⟨xs, k, _, rfl, hl, hlen, hf⟩ := DataW.trod_struct Try.underlying42 h
  obtain ⟨c0, c1, c2, rfl⟩ := len3 (hl.trans cells_Value)
  obtain ⟨y0, y1, y2, rfl⟩ := len3 (hlen.trans rfl)
  obtain ⟨n0, e0, _, w0⟩ := DataW.trod_int Try.underlying3 (hf 0 _ rfl)
  obtain ⟨n1, e1, _, w1⟩ := DataW.trod_int Try.underlying3 (hf 1 _ rfl)
  obtain ⟨n2, e2, _, _⟩ := DataW.trod_int Try.underlying40 (hf 2 _ rfl)
  simp [cells_int, cells_uint64] at e0 e1 e2
  subst e0 e1 e2
  exact ⟨⟨n0, n1, n2⟩, ⟨rfl, w0, w1⟩, bulk_one _⟩
theorem opens_Values : Opens 37 ROpds (fun l => l.length + 1) := by
  have := opens_slice Try.underlying37 cells_Value (by omega) opens_Value
  simp only [sum_ones] at this
  exact this

theorem opens_Instr : Opens 39 RIns insSz := by
  intro H enc w base spare held fuel cs x h
  obtain ⟨xs, k, _, rfl, hl, hlen, hf⟩ := DataW.trod_struct Try.underlying39 h
  obtain ⟨c0, c1, c2, c3, c4, c5, c6, rfl⟩ := len7 (hl.trans cells_Instr)
  obtain ⟨y0, y1, y2, y3, y4, y5, y6, rfl⟩ := len7 (hlen.trans rfl)
  obtain ⟨n0, e0, _, w0⟩ := DataW.trod_int Try.underlying3 (hf 0 _ rfl)
  obtain ⟨n1, e1, _, w1⟩ := DataW.trod_int Try.underlying3 (hf 1 _ rfl)
  obtain ⟨n2, e2, _, w2⟩ := DataW.trod_int Try.underlying3 (hf 2 _ rfl)
  obtain ⟨n3, e3, _, w3⟩ := DataW.trod_int Try.underlying3 (hf 3 _ rfl)
  obtain ⟨n4, e4, _, w4⟩ := DataW.trod_int Try.underlying3 (hf 4 _ rfl)
  obtain ⟨l5, r5, m5⟩ := opens_Values _ _ _ _ _ _ _ _ _ (hf 5 _ rfl)
  obtain ⟨l6, r6, m6⟩ := opens_Ints _ _ _ _ _ _ _ _ _ (hf 6 _ rfl)
  simp [cells_int, cells_Values, cells_Ints] at e0 e1 e2 e3 e4 r5 r6
  subst e0 e1 e2 e3 e4
  refine ⟨⟨n0, n1, n2, n3, n4, l5, l6⟩, ⟨c5, c6, rfl, r5, r6, w0, w1, w2, w3, w4⟩, ?_⟩
  simp only [insSz, List.map_cons, List.map_nil, Rows.uptoBulk, Rows.uptoBulkAll] at *
  omega
theorem opens_Instrs : Opens 34 RBlk blkSz := opens_slice Try.underlying34 cells_Instr (by omega) opens_Instr
theorem opens_Block : Opens 36 RBlk blkSz := by
  intro H enc w base spare held fuel cs x h
  obtain ⟨xs, k, _, rfl, hl, hlen, hf⟩ := DataW.trod_struct Try.underlying36 h
  obtain ⟨c0, rfl⟩ := len1 (hl.trans cells_Block)
  obtain ⟨y0, rfl⟩ := len1 (hlen.trans rfl)
  obtain ⟨l0, r0, m0⟩ := opens_Instrs _ _ _ _ _ _ _ _ _ (hf 0 _ rfl)
  simp [cells_Instrs] at r0
  refine ⟨l0, r0, ?_⟩
  simp only [List.map_cons, List.map_nil, Rows.uptoBulk, Rows.uptoBulkAll] at *
  omega
theorem opens_Blocks : Opens 30 RBlks blksSz := opens_slice Try.underlying30 cells_Block (by omega) opens_Block

def RFun : Rp Fun where
  rep w B cs x := ∃ c d, cs = [.string x.name, c, .int .i64 x.ret, d] ∧ RInts.rep w B [c] x.params ∧ RBlks.rep w B [d] x.blocks ∧ I64 x.ret ∧ x.name.size ≤ maxLen
  keep := by
    rintro w w' B B' cs x ⟨c, d, h, h1, h2, h3⟩ hk hB
    exact ⟨c, d, h, RInts.keep h1 hk hB, RBlks.keep h2 hk hB, h3⟩
theorem opens_Func : Opens 32 RFun funSz := by
  intro H enc w base spare held fuel cs x h
  obtain ⟨xs, k, _, rfl, hl, hlen, hf⟩ := DataW.trod_struct Try.underlying32 h
  obtain ⟨c0, c1, c2, c3, rfl⟩ := len4 (hl.trans cells_Func)
  obtain ⟨y0, y1, y2, y3, rfl⟩ := len4 (hlen.trans rfl)
  obtain ⟨s, e0, _, hs⟩ := DataW.trod_string Try.underlying9 (hf 0 _ rfl)
  obtain ⟨l1, r1, m1⟩ := opens_Ints _ _ _ _ _ _ _ _ _ (hf 1 _ rfl)
  obtain ⟨n2, e2, _, w2⟩ := DataW.trod_int Try.underlying3 (hf 2 _ rfl)
  obtain ⟨l3, r3, m3⟩ := opens_Blocks _ _ _ _ _ _ _ _ _ (hf 3 _ rfl)
  simp [cells_int, cells_string, cells_Ints, cells_Blocks] at e0 r1 e2 r3
  subst e0 e2
  refine ⟨⟨s, l1, n2, l3⟩, ⟨c1, c3, rfl, r1, r3, w2, hs⟩, ?_⟩
  simp only [funSz, List.map_cons, List.map_nil, Rows.uptoBulk, Rows.uptoBulkAll] at *
  omega

theorem partsL_le_blk : ∀ l : List Ins, partsL l + 1 ≤ blkSz l
  | [] => Nat.le_refl _
  | x :: l => by
    have := partsL_le_blk l
    simp only [partsL, blkSz, insSz, List.map_cons, List.sum_cons] at *
    omega
theorem partsL_le_blks : ∀ bs : List (List Ins), partsL bs.flatten + 1 ≤ blksSz bs
  | [] => Nat.le_refl _
  | b :: bs => by
    have := partsL_le_blks bs
    have := partsL_le_blk b
    rw [List.flatten_cons, partsL_append]
    simp only [blksSz, List.map_cons, List.sum_cons] at *
    omega

end Go.Proofs.Ytamjcafjdioidaa
