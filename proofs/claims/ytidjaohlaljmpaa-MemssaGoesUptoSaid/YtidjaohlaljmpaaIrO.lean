/- Walks of ir.Result, Ends, Idle, Calm and of the references'. No condition. | ir.each, over each closure that the program hands to it: an invariant that the closure's calls hand on. No condition. | What layer 2's arguments read as. No condition. -/
import Derived.Test.YtidjaohlaljmpaaRows
import Derived.Test.YtidjaohlaljmpaaIrData
import Derived.Test.YtidjaohlaljmpaaRep
import Derived.WalkKit
import Derived.WalkSpells
import Derived.WalkLawsBesides
import Derived.Deep.RegionHeld3
import Derived.Deep.LoopGhost
import Derived.Deep.QuietTactic
import Derived.BigQuiet
import Derived.Test.YtidjaohlaljmpaaOnly
import Derived.Test.YtidjaohlaljmpaaOpen
namespace Go.Proofs.Ytidjaohlaljmpaa
open Go.RowKit

abbrev Ins.v (x : Ins) (c d : Value) : Value := .agg #[.int .i64 x.op, .int .i64 x.reg, .int .i64 x.ty, .int .i64 x.num, .int .i64 x.flags, c, d]

set_option maxHeartbeats 400000 in
theorem ends_any (op : Int) (w : World) : Calls Try.prog 52 #[.int .i64 op] w fun e w' => e = .returned (.bool (iends op)) ∧ w = w' := by
  go_enter Try.func52, Try.ntmps52
  go_wp2
  all_goals go_ret
  all_goals exact ⟨ret_bool (by rw [Bool.eq_iff_iff]; simp [iends]; omega), rfl⟩

end Go.Proofs.Ytidjaohlaljmpaa

namespace Go.Proofs.Ytidjaohlaljmpaa
open Go.RowKit

abbrev I64 (n : Int) : Prop := (Lit.int .i64 n).wf = true
def RInt : Rp Int := .plain (fun n => [.int .i64 n]) I64
def ROpd : Rp Opd := .plain (fun x => [.int .i64 x.kind, .int .i64 x.num, .int .u64 x.bits]) fun x => I64 x.kind ∧ I64 x.num
def RInts : Rp (List Int) := .slice 1 RInt
def ROpds : Rp (List Opd) := .slice 3 ROpd
def RIns : Rp Ins where
  rep w B cs x := ∃ c d, cs = [.int .i64 x.op, .int .i64 x.reg, .int .i64 x.ty, .int .i64 x.num, .int .i64 x.flags, c, d] ∧ ROpds.rep w B [c] x.args ∧ RInts.rep w B [d] x.to ∧ I64 x.op ∧ I64 x.reg ∧ I64 x.ty ∧ I64 x.num ∧ I64 x.flags
  keep := by
    rintro w w' B B' cs x ⟨c, d, h, h1, h2, h3⟩ hk hB
    exact ⟨c, d, h, ROpds.keep h1 hk hB, RInts.keep h2 hk hB, h3⟩
def RBlk : Rp (List Ins) := .slice 7 RIns
def RBlks : Rp (List (List Ins)) := .slice 1 RBlk

abbrev Fun.v (x : Fun) (c d : Value) : Value := .agg #[.string x.name, c, .int .i64 x.ret, d]

end Go.Proofs.Ytidjaohlaljmpaa

namespace Go.Proofs.Ytidjaohlaljmpaa
open Go.RowKit Go.ChangeShapes Go.WideShapes Go.Deep

theorem cells_uint64 : Try.prog.cellsOf 95 = 1 := by kernel_rfl
theorem cells_string : Try.prog.cellsOf 9 = 1 := by kernel_rfl
theorem cells_Value : Try.prog.cellsOf 97 = 3 := by kernel_rfl
theorem cells_Values : Try.prog.cellsOf 65 = 1 := by kernel_rfl
theorem cells_Ints : Try.prog.cellsOf 22 = 1 := by kernel_rfl
theorem cells_Instr : Try.prog.cellsOf 67 = 7 := by kernel_rfl
theorem cells_Instrs : Try.prog.cellsOf 62 = 1 := by kernel_rfl
theorem cells_Block : Try.prog.cellsOf 64 = 1 := by kernel_rfl
theorem cells_Blocks : Try.prog.cellsOf 23 = 1 := by kernel_rfl
theorem cells_Func : Try.prog.cellsOf 25 = 4 := by kernel_rfl

def insSz (x : Ins) : Nat := 1 + x.args.length + x.to.length
def blkSz (l : List Ins) : Nat := (l.map insSz).sum + 1
def blksSz (l : List (List Ins)) : Nat := (l.map blkSz).sum + 1
def funSz (f : Fun) : Nat := f.params.length + blksSz f.blocks
theorem sum_ones {α : Type} (l : List α) : (l.map fun _ => 1).sum = l.length := by induction l with
  | nil => rfl
  | cons x l ih => simp only [List.map_cons, List.sum_cons, ih, List.length_cons]; omega

theorem opens_int : Opens 3 RInt (fun _ => 1) := by
  intro H enc w base spare held fuel cs x h
  obtain ⟨n, rfl, rfl, hw⟩ := DataW.trod_int Try.underlying3 h
  exact ⟨n, ⟨rfl, hw⟩, bulk_one _⟩
theorem opens_Ints : Opens 22 RInts (fun l => l.length + 1) := by
  have := opens_slice Try.underlying22 cells_int (by omega) opens_int
  simp only [sum_ones] at this
  exact this
theorem opens_Value : Opens 97 ROpd (fun _ => 1) := by
  intro H enc w base spare held fuel cs x h
  obtain ⟨xs, k, _, rfl, hl, hlen, hf⟩ := DataW.trod_struct Try.underlying97 h
  obtain ⟨c0, c1, c2, rfl⟩ := len3 (hl.trans cells_Value)
  obtain ⟨y0, y1, y2, rfl⟩ := len3 (hlen.trans rfl)
  obtain ⟨n0, e0, _, w0⟩ := DataW.trod_int Try.underlying3 (hf 0 _ rfl)
  obtain ⟨n1, e1, _, w1⟩ := DataW.trod_int Try.underlying3 (hf 1 _ rfl)
  obtain ⟨n2, e2, _, _⟩ := DataW.trod_int Try.underlying95 (hf 2 _ rfl)
  simp [cells_int, cells_uint64] at e0 e1 e2
  subst e0 e1 e2
  exact ⟨⟨n0, n1, n2⟩, ⟨rfl, w0, w1⟩, bulk_one _⟩
theorem opens_Values : Opens 65 ROpds (fun l => l.length + 1) := by
  have := opens_slice Try.underlying65 cells_Value (by omega) opens_Value
  simp only [sum_ones] at this
  exact this

theorem opens_Instr : Opens 67 RIns insSz := by
  intro H enc w base spare held fuel cs x h
  obtain ⟨xs, k, _, rfl, hl, hlen, hf⟩ := DataW.trod_struct Try.underlying67 h
  obtain ⟨c0, c1, c2, c3, c4, c5, c6, rfl⟩ := len7 (hl.trans cells_Instr)
  obtain ⟨y0, y1, y2, y3, y4, y5, y6, rfl⟩ := len7 (hlen.trans rfl)
  obtain ⟨n0, e0, _, w0⟩ := DataW.trod_int Try.underlying3 (hf 0 _ rfl)
  obtain ⟨n1, e1, _, w1⟩ := DataW.trod_int Try.underlying3 (hf 1 _ rfl)
  obtain ⟨n2, e2, _, w2⟩ := DataW.trod_int Try.underlying3 (hf 2 _ rfl)
  obtain ⟨n3, e3, _, w3⟩ := DataW.trod_int Try.underlying3 (hf 3 _ rfl)
  obtain ⟨n4, e4, _, w4⟩ := DataW.trod_int Try.underlying3 (hf 4 _ rfl)
  obtain ⟨l5, r5, m5⟩ := opens_Values _ _ _ _ _ _ _ _ _ (hf 5 _ rfl)
  obtain ⟨l6, r6, m6⟩ := opens_Ints _ _ _ _ _ _ _ _ _ (hf 6 _ rfl)
  simp [cells_int, cells_Values, cells_Ints] at e0 e1 e2 e3 e4 r5 r6
  subst e0 e1 e2 e3 e4
  refine ⟨⟨n0, n1, n2, n3, n4, l5, l6⟩, ⟨c5, c6, rfl, r5, r6, w0, w1, w2, w3, w4⟩, ?_⟩
  simp only [insSz, List.map_cons, List.map_nil, Rows.uptoBulk, Rows.uptoBulkAll] at *
  omega
theorem opens_Instrs : Opens 62 RBlk blkSz := opens_slice Try.underlying62 cells_Instr (by omega) opens_Instr
theorem opens_Block : Opens 64 RBlk blkSz := by
  intro H enc w base spare held fuel cs x h
  obtain ⟨xs, k, _, rfl, hl, hlen, hf⟩ := DataW.trod_struct Try.underlying64 h
  obtain ⟨c0, rfl⟩ := len1 (hl.trans cells_Block)
  obtain ⟨y0, rfl⟩ := len1 (hlen.trans rfl)
  obtain ⟨l0, r0, m0⟩ := opens_Instrs _ _ _ _ _ _ _ _ _ (hf 0 _ rfl)
  simp [cells_Instrs] at r0
  refine ⟨l0, r0, ?_⟩
  simp only [List.map_cons, List.map_nil, Rows.uptoBulk, Rows.uptoBulkAll] at *
  omega
theorem opens_Blocks : Opens 23 RBlks blksSz := opens_slice Try.underlying23 cells_Block (by omega) opens_Block

def RFun : Rp Fun where
  rep w B cs x := ∃ c d, cs = [.string x.name, c, .int .i64 x.ret, d] ∧ RInts.rep w B [c] x.params ∧ RBlks.rep w B [d] x.blocks ∧ I64 x.ret ∧ x.name.size ≤ maxLen
  keep := by
    rintro w w' B B' cs x ⟨c, d, h, h1, h2, h3⟩ hk hB
    exact ⟨c, d, h, RInts.keep h1 hk hB, RBlks.keep h2 hk hB, h3⟩
theorem opens_Func : Opens 25 RFun funSz := by
  intro H enc w base spare held fuel cs x h
  obtain ⟨xs, k, _, rfl, hl, hlen, hf⟩ := DataW.trod_struct Try.underlying25 h
  obtain ⟨c0, c1, c2, c3, rfl⟩ := len4 (hl.trans cells_Func)
  obtain ⟨y0, y1, y2, y3, rfl⟩ := len4 (hlen.trans rfl)
  obtain ⟨s, e0, _, hs⟩ := DataW.trod_string Try.underlying9 (hf 0 _ rfl)
  obtain ⟨l1, r1, m1⟩ := opens_Ints _ _ _ _ _ _ _ _ _ (hf 1 _ rfl)
  obtain ⟨n2, e2, _, w2⟩ := DataW.trod_int Try.underlying3 (hf 2 _ rfl)
  obtain ⟨l3, r3, m3⟩ := opens_Blocks _ _ _ _ _ _ _ _ _ (hf 3 _ rfl)
  simp [cells_int, cells_string, cells_Ints, cells_Blocks] at e0 r1 e2 r3
  subst e0 e2
  refine ⟨⟨s, l1, n2, l3⟩, ⟨c1, c3, rfl, r1, r3, w2, hs⟩, ?_⟩
  simp only [funSz, List.map_cons, List.map_nil, Rows.uptoBulk, Rows.uptoBulkAll] at *
  omega

theorem partsL_le_blk : ∀ l : List Ins, partsL l + 1 ≤ blkSz l
  | [] => Nat.le_refl _
  | x :: l => by
    have := partsL_le_blk l
    simp only [partsL, blkSz, insSz, List.map_cons, List.sum_cons] at *
    omega
theorem partsL_le_blks : ∀ bs : List (List Ins), partsL bs.flatten + 1 ≤ blksSz bs
  | [] => Nat.le_refl _
  | b :: bs => by
    have := partsL_le_blks bs
    have := partsL_le_blk b
    rw [List.flatten_cons, partsL_append]
    simp only [blksSz, List.map_cons, List.sum_cons] at *
    omega

end Go.Proofs.Ytidjaohlaljmpaa
