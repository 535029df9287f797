/- Texts of the chain, without what is not wanted: Open, IrO. No condition but sizes. -/
import Derived.WalkKit
import Derived.Deep.Slices
import Derived.Deep.Draws
import Derived.ChangeSame
import Derived.ChangeOld
import Derived.OwnWalk
import Derived.Laws.OwnMore
import Derived.Deep.AppendLies
import Derived.Test.YtamjcafjdioidaaRows
import Derived.ProofKit
import Derived.OpenShut
import Derived.JoinedCond
import Derived.WalkSpells
import Derived.WalkLawsBesides
import Derived.Deep.RegionHeld3
import Derived.Deep.LoopGhost
import Derived.Deep.QuietTactic
import Derived.BigQuiet
import Derived.Test.YtamjcafjdioidaaUm01
namespace Go.Proofs.Ytamjcafjdioidaa
open Go.RowKit Go.ChangeShapes Go.WideShapes Go.Deep
theorem len1 {α : Type} {l : List α} (h : l.length = 1) : ∃ a0 : α, l = [a0] := by
 match l, h with
 | [a0], _ => exact ⟨a0, rfl⟩
theorem len2 {α : Type} {l : List α} (h : l.length = 2) : ∃ a0 a1 : α, l = [a0, a1] := by
 match l, h with
 | [a0, a1], _ => exact ⟨a0, a1, rfl⟩
theorem len3 {α : Type} {l : List α} (h : l.length = 3) : ∃ a0 a1 a2 : α, l = [a0, a1, a2] := by
 match l, h with
 | [a0, a1, a2], _ => exact ⟨a0, a1, a2, rfl⟩
theorem len4 {α : Type} {l : List α} (h : l.length = 4) : ∃ a0 a1 a2 a3 : α, l = [a0, a1, a2, a3] := by
 match l, h with
 | [a0, a1, a2, a3], _ => exact ⟨a0, a1, a2, a3, rfl⟩
theorem len7 {α : Type} {l : List α} (h : l.length = 7) : ∃ a0 a1 a2 a3 a4 a5 a6 : α, l = [a0, a1, a2, a3, a4, a5, a6] := by
 match l, h with
 | [a0, a1, a2, a3, a4, a5, a6], _ => exact ⟨a0, a1, a2, a3, a4, a5, a6, rfl⟩
theorem list_of {α : Type} {n : Nat} {p : Nat → α → Prop} (h : ∀ i, i < n → ∃ y, p i y) : ∃ l : List α, l.length = n ∧ ∀ i y, l[i]? = some y → p i y := by
 induction n with
 | zero => exact ⟨[], rfl, fun i y hy => by simp at hy⟩
 | succ n ih =>
  obtain ⟨l, hl, hp⟩ := ih (fun i hi => h i (Nat.lt_succ_of_lt hi))
  obtain ⟨y, hy⟩ := h n (Nat.lt_succ_self n)
  refine ⟨l ++ [y], by simp [hl], fun i z hz => ?_⟩
  rcases Nat.lt_or_ge i n with hi | hi
  ·rw [List.getElem?_append_left (by omega)] at hz
   exact hp i z hz
  ·rw [List.getElem?_append_right (by omega)] at hz
   obtain rfl : i = n := by
    have := (List.getElem?_eq_some_iff.1 hz).1
    simp at this; omega
   simp [hl] at hz
   subst hz; exact hy
def Opens {α : Type} (t : TypeId) (R : Rp α) (μ : α → Nat) : Prop :=
 ∀ (H : Type) (enc : TypeId × Value → H) (w : World) (base : Nat) (spare : Nat → Bool) (held : Bool) (fuel : Nat) (cs : List Value) (x : DataW H × List MemPlace),
  DataW.trod enc Try.prog w base spare held fuel t cs = some x → ∃ m, R.rep w w.heap.size cs m ∧ μ m ≤ Rows.uptoBulk x.1
theorem bulk_one {H : Type} (d : DataW H) : 1 ≤ Rows.uptoBulk d := by
 cases d with
 | lit l => cases l <;> simp [Rows.uptoBulk]
 | nil => simp [Rows.uptoBulk]
 | ptr d => simp [Rows.uptoBulk]
 | slice elems spare => simp [Rows.uptoBulk]
 | agg parts => simp [Rows.uptoBulk]
 | iface t d => simp [Rows.uptoBulk]
 | map entries => simp [Rows.uptoBulk]
 | held h => simp [Rows.uptoBulk]
theorem sum_le {α H : Type} {μ : α → Nat} : ∀ (l : List α) (D : Nat → DataW H), (∀ i y, l[i]? = some y → μ y ≤ Rows.uptoBulk (D i)) → (l.map μ).sum ≤ Rows.uptoBulkAll ((List.range l.length).map D)
 | [], _, _ => by simp
 | y :: l, D, h => by
  have h0 := h 0 y rfl
  have := sum_le l (fun i => D (i + 1)) (fun i z hz => h (i + 1) z (by simpa using hz))
  simp only [List.map_cons, List.sum_cons, List.length_cons, List.range_succ_eq_map, Rows.uptoBulkAll, List.map_map]
  have e : (D ∘ Nat.succ) = fun i => D (i + 1) := rfl
  rw [e]
  omega
theorem add_mk (b off k : Nat) : (⟨b, off, none⟩ : Addr).add k = ⟨b, off + k, none⟩ := by
 unfold Addr.add
 split
 ·rename_i h; rw [h]; rfl
 ·rfl
theorem opens_slice {α : Type} {t e n : Nat} {R : Rp α} {μ : α → Nat} (ht : Try.prog.underlying t = some (.slice e)) (hn : Try.prog.cellsOf e = n) (h0 : 0 < n) (he : Opens e R μ) :
  Opens t (.slice n R) (fun l => (l.map μ).sum + 1) := by
 intro H enc w base spare held fuel cs x h
 rcases open_slice ht h with ⟨rfl, rfl⟩ | ⟨a, len, cap, m, k, D, Pl, rfl, hb, hl, hm, hmm, rfl, hi⟩
 ·exact ⟨[], Rp.nil_rep, by simp [Rows.uptoBulk]⟩
 ·have hlm : len ≤ m := by rw [hmm]; split <;> omega
  obtain ⟨l, hll, hp⟩ := list_of (n := len) (p := fun i y => ∃ cs', w.cells? base (a.add (i * n)) n = some cs' ∧ R.rep w w.heap.size cs' y ∧ μ y ≤ Rows.uptoBulk (D i)) (fun i hil => by
   obtain ⟨cs', hc, ht'⟩ := hi i (by omega)
   rw [hn] at hc
   obtain ⟨y, hr, hμ⟩ := he _ _ _ _ _ _ _ _ _ ht'
   exact ⟨y, cs', hc, hr, hμ⟩)
  subst hll
  refine ⟨l, ⟨some a, cap, rfl, hl, hm, fun hpos => ?_⟩, ?_⟩
  ·obtain ⟨y0, hy0⟩ : ∃ y, l[0]? = some y := ⟨_, List.getElem?_eq_getElem hpos⟩
   obtain ⟨cs0, hc0, _, _⟩ := hp 0 y0 hy0
   obtain ⟨_, hlen0, hcell0⟩ := World.cells?_some hc0
   have hsome : w.cell? a = some (cs0[0]'(by omega)) := by
    have := hcell0 0 h0
    rw [List.getElem?_eq_getElem (by omega)] at this
    simpa [Addr.add] using this
   have hspot := World.cell?_spot hsome
   have hlt := World.block_lt_of_cell? w a hsome
   obtain ⟨b, off, spot⟩ := a
   subst hspot
   refine ⟨b, off, rfl, hlt, fun i y hy => ?_⟩
   obtain ⟨cs', hc, hr, _⟩ := hp i y hy
   obtain ⟨_, hlen, hcell⟩ := World.cells?_some hc
   refine ⟨cs', hlen, hr, fun j u hu => ?_⟩
   have hj : j < n := by rw [← hlen]; exact (List.getElem?_eq_some_iff.1 hu).1
   have := hcell j hj
   rw [Go.Deep.add_add, add_mk, hu] at this
   exact this
  ·have := sum_le (μ := μ) l D (fun i y hy => by obtain ⟨_, _, _, h⟩ := hp i y hy; exact h)
   simp only [Rows.uptoBulk]
   omega
theorem bound {H : Type} {l : List (DataW H)} (hk : Rows.uptoSmall H l = true) : Rows.uptoBulkAll l ≤ 1048576 := of_decide_eq_true hk
theorem arr_of {args : Array Value} {l : List Value} (h : args.toList = l) : args = l.toArray := by rw [← h]
theorem agg_list {cs : Array Value} {l : List Value} (h : cs.toList = l) : Value.agg cs = .agg l.toArray := by rw [← h]
theorem own : ownKnob Try.prog.godebug = none := by kernel_rfl
theorem laidOut : laidOutB Try.prog = true := by kernel_rfl
theorem cells_int : Try.prog.cellsOf 3 = 1 := by kernel_rfl
end Go.Proofs.Ytamjcafjdioidaa

namespace Go.Proofs.Ytamjcafjdioidaa
open Go.RowKit
abbrev Ins.v (x : Ins) (c d : Value) : Value := .agg #[.int .i64 x.op, .int .i64 x.reg, .int .i64 x.ty, .int .i64 x.num, .int .i64 x.flags, c, d]
set_option maxHeartbeats 400000 in
theorem ends_any (op : Int) (w : World) : Calls Try.prog 91 #[.int .i64 op] w fun e w' => e = .returned (.bool (iends op)) ∧ w = w' := by
 go_enter Try.func91, Try.ntmps91
 go_wp2
 all_goals go_ret
 all_goals exact ⟨ret_bool (by rw [Bool.eq_iff_iff]; simp [iends]; omega), rfl⟩
set_option maxHeartbeats 400000 in
theorem rends_any (op : Int) (w : World) : Calls Try.prog 69 #[.int .i64 op] w fun e w' => e = .returned (.bool (iends op)) ∧ w = w' := by
 go_enter Try.func69, Try.ntmps69
 go_wp2
 all_goals go_ret
 all_goals exact ⟨ret_bool (by rw [Bool.eq_iff_iff]; simp [iends]; omega), rfl⟩
set_option maxHeartbeats 400000 in
theorem result_any (x : Ins) (c d : Value) (w : World) : Calls Try.prog 82 #[x.v c d] w fun e w' => e = .returned (.int .i64 (iresult x.op x.ty)) ∧ Below w.heap.size w w' := by
 go_enter Try.func82, Try.ntmps82
 go_wp2
 all_goals go_ret
 all_goals refine ⟨ret_int ?_, (Below.refl _ _).alloc (by simp) _⟩
 all_goals
  show _ = iresult x.op x.ty
  unfold iresult
  try simp at *
  (repeat' split) <;> omega
set_option maxHeartbeats 400000 in
theorem rresult_any (x : Ins) (c d : Value) (w : World) : Calls Try.prog 73 #[x.v c d] w fun e w' => e = .returned (.int .i64 (iresult x.op x.ty)) ∧ Below w.heap.size w w' := by
 go_enter Try.func73, Try.ntmps73
 go_wp2
 all_goals go_ret
 all_goals refine ⟨ret_int ?_, (Below.refl _ _).alloc (by simp) _⟩
 all_goals
  show _ = iresult x.op x.ty
  unfold iresult
  try simp at *
  (repeat' split) <;> omega
end Go.Proofs.Ytamjcafjdioidaa
namespace Go.Proofs.Ytamjcafjdioidaa
open Go.RowKit
abbrev I64 (n : Int) : Prop := (Lit.int .i64 n).wf = true
def RInt : Rp Int := .plain (fun n => [.int .i64 n]) I64
def ROpd : Rp Opd := .plain (fun x => [.int .i64 x.kind, .int .i64 x.num, .int .u64 x.bits]) fun x => I64 x.kind ∧ I64 x.num
def RInts : Rp (List Int) := .slice 1 RInt
def ROpds : Rp (List Opd) := .slice 3 ROpd
def RIns : Rp Ins where
 rep w B cs x := ∃ c d, cs = [.int .i64 x.op, .int .i64 x.reg, .int .i64 x.ty, .int .i64 x.num, .int .i64 x.flags, c, d] ∧ ROpds.rep w B [c] x.args ∧ RInts.rep w B [d] x.to ∧ I64 x.op ∧ I64 x.reg ∧ I64 x.ty ∧ I64 x.num ∧ I64 x.flags
 keep := by
  rintro w w' B B' cs x ⟨c, d, h, h1, h2, h3⟩ hk hB
  exact ⟨c, d, h, ROpds.keep h1 hk hB, RInts.keep h2 hk hB, h3⟩
def RBlk : Rp (List Ins) := .slice 7 RIns
def RBlks : Rp (List (List Ins)) := .slice 1 RBlk
abbrev Fun.v (x : Fun) (c d : Value) : Value := .agg #[.string x.name, c, .int .i64 x.ret, d]
end Go.Proofs.Ytamjcafjdioidaa
namespace Go.Proofs.Ytamjcafjdioidaa
open Go.RowKit Go.ChangeShapes Go.WideShapes Go.Deep
theorem cells_uint64 : Try.prog.cellsOf 40 = 1 := by kernel_rfl
theorem cells_string : Try.prog.cellsOf 9 = 1 := by kernel_rfl
theorem cells_Value : Try.prog.cellsOf 42 = 3 := by kernel_rfl
theorem cells_Values : Try.prog.cellsOf 37 = 1 := by kernel_rfl
theorem cells_Ints : Try.prog.cellsOf 29 = 1 := by kernel_rfl
theorem cells_Instr : Try.prog.cellsOf 39 = 7 := by kernel_rfl
theorem cells_Instrs : Try.prog.cellsOf 34 = 1 := by kernel_rfl
theorem cells_Block : Try.prog.cellsOf 36 = 1 := by kernel_rfl
theorem cells_Blocks : Try.prog.cellsOf 30 = 1 := by kernel_rfl
theorem cells_Func : Try.prog.cellsOf 32 = 4 := by kernel_rfl
def insSz (x : Ins) : Nat := 1 + x.args.length + x.to.length
def blkSz (l : List Ins) : Nat := (l.map insSz).sum + 1
def blksSz (l : List (List Ins)) : Nat := (l.map blkSz).sum + 1
def funSz (f : Fun) : Nat := f.params.length + blksSz f.blocks
theorem sum_ones {α : Type} (l : List α) : (l.map fun _ => 1).sum = l.length := by induction l with
 | nil => rfl
 | cons x l ih => simp only [List.map_cons, List.sum_cons, ih, List.length_cons]; omega
theorem opens_int : Opens 3 RInt (fun _ => 1) := by
 intro H enc w base spare held fuel cs x h
 obtain ⟨n, rfl, rfl, hw⟩ := DataW.trod_int Try.underlying3 h
 exact ⟨n, ⟨rfl, hw⟩, bulk_one _⟩
theorem opens_Ints : Opens 29 RInts (fun l => l.length + 1) := by
 have := opens_slice Try.underlying29 cells_int (by omega) opens_int
 simp only [sum_ones] at this
 exact this
theorem opens_Value : Opens 42 ROpd (fun _ => 1) := by
 intro H enc w base spare held fuel cs x h
 obtain ⟨xs, k, _, rfl, hl, hlen, hf⟩ := DataW.trod_struct Try.underlying42 h
 obtain ⟨c0, c1, c2, rfl⟩ := len3 (hl.trans cells_Value)
 obtain ⟨y0, y1, y2, rfl⟩ := len3 (hlen.trans rfl)
 obtain ⟨n0, e0, _, w0⟩ := DataW.trod_int Try.underlying3 (hf 0 _ rfl)
 obtain ⟨n1, e1, _, w1⟩ := DataW.trod_int Try.underlying3 (hf 1 _ rfl)
 obtain ⟨n2, e2, _, _⟩ := DataW.trod_int Try.underlying40 (hf 2 _ rfl)
 simp [cells_int, cells_uint64] at e0 e1 e2
 subst e0 e1 e2
 exact ⟨⟨n0, n1, n2⟩, ⟨rfl, w0, w1⟩, bulk_one _⟩
theorem opens_Values : Opens 37 ROpds (fun l => l.length + 1) := by
 have := opens_slice Try.underlying37 cells_Value (by omega) opens_Value
 simp only [sum_ones] at this
 exact this
theorem opens_Instr : Opens 39 RIns insSz := by
 intro H enc w base spare held fuel cs x h
 obtain ⟨xs, k, _, rfl, hl, hlen, hf⟩ := DataW.trod_struct Try.underlying39 h
 obtain ⟨c0, c1, c2, c3, c4, c5, c6, rfl⟩ := len7 (hl.trans cells_Instr)
 obtain ⟨y0, y1, y2, y3, y4, y5, y6, rfl⟩ := len7 (hlen.trans rfl)
 obtain ⟨n0, e0, _, w0⟩ := DataW.trod_int Try.underlying3 (hf 0 _ rfl)
 obtain ⟨n1, e1, _, w1⟩ := DataW.trod_int Try.underlying3 (hf 1 _ rfl)
 obtain ⟨n2, e2, _, w2⟩ := DataW.trod_int Try.underlying3 (hf 2 _ rfl)
 obtain ⟨n3, e3, _, w3⟩ := DataW.trod_int Try.underlying3 (hf 3 _ rfl)
 obtain ⟨n4, e4, _, w4⟩ := DataW.trod_int Try.underlying3 (hf 4 _ rfl)
 obtain ⟨l5, r5, m5⟩ := opens_Values _ _ _ _ _ _ _ _ _ (hf 5 _ rfl)
 obtain ⟨l6, r6, m6⟩ := opens_Ints _ _ _ _ _ _ _ _ _ (hf 6 _ rfl)
 simp [cells_int, cells_Values, cells_Ints] at e0 e1 e2 e3 e4 r5 r6
 subst e0 e1 e2 e3 e4
 refine ⟨⟨n0, n1, n2, n3, n4, l5, l6⟩, ⟨c5, c6, rfl, r5, r6, w0, w1, w2, w3, w4⟩, ?_⟩
 simp only [insSz, List.map_cons, List.map_nil, Rows.uptoBulk, Rows.uptoBulkAll] at *
 omega
theorem opens_Instrs : Opens 34 RBlk blkSz := opens_slice Try.underlying34 cells_Instr (by omega) opens_Instr
theorem opens_Block : Opens 36 RBlk blkSz := by
 intro H enc w base spare held fuel cs x h
 obtain ⟨xs, k, _, rfl, hl, hlen, hf⟩ := DataW.trod_struct Try.underlying36 h
 obtain ⟨c0, rfl⟩ := len1 (hl.trans cells_Block)
 obtain ⟨y0, rfl⟩ := len1 (hlen.trans rfl)
 obtain ⟨l0, r0, m0⟩ := opens_Instrs _ _ _ _ _ _ _ _ _ (hf 0 _ rfl)
 simp [cells_Instrs] at r0
 refine ⟨l0, r0, ?_⟩
 simp only [List.map_cons, List.map_nil, Rows.uptoBulk, Rows.uptoBulkAll] at *
 omega
theorem opens_Blocks : Opens 30 RBlks blksSz := opens_slice Try.underlying30 cells_Block (by omega) opens_Block
def RFun : Rp Fun where
 rep w B cs x := ∃ c d, cs = [.string x.name, c, .int .i64 x.ret, d] ∧ RInts.rep w B [c] x.params ∧ RBlks.rep w B [d] x.blocks ∧ I64 x.ret ∧ x.name.size ≤ maxLen
 keep := by
  rintro w w' B B' cs x ⟨c, d, h, h1, h2, h3⟩ hk hB
  exact ⟨c, d, h, RInts.keep h1 hk hB, RBlks.keep h2 hk hB, h3⟩
theorem opens_Func : Opens 32 RFun funSz := by
 intro H enc w base spare held fuel cs x h
 obtain ⟨xs, k, _, rfl, hl, hlen, hf⟩ := DataW.trod_struct Try.underlying32 h
 obtain ⟨c0, c1, c2, c3, rfl⟩ := len4 (hl.trans cells_Func)
 obtain ⟨y0, y1, y2, y3, rfl⟩ := len4 (hlen.trans rfl)
 obtain ⟨s, e0, _, hs⟩ := DataW.trod_string Try.underlying9 (hf 0 _ rfl)
 obtain ⟨l1, r1, m1⟩ := opens_Ints _ _ _ _ _ _ _ _ _ (hf 1 _ rfl)
 obtain ⟨n2, e2, _, w2⟩ := DataW.trod_int Try.underlying3 (hf 2 _ rfl)
 obtain ⟨l3, r3, m3⟩ := opens_Blocks _ _ _ _ _ _ _ _ _ (hf 3 _ rfl)
 simp [cells_int, cells_string, cells_Ints, cells_Blocks] at e0 r1 e2 r3
 subst e0 e2
 refine ⟨⟨s, l1, n2, l3⟩, ⟨c1, c3, rfl, r1, r3, w2, hs⟩, ?_⟩
 simp only [funSz, List.map_cons, List.map_nil, Rows.uptoBulk, Rows.uptoBulkAll] at *
 omega
theorem partsL_le_blk : ∀ l : List Ins, partsL l + 1 ≤ blkSz l
 | [] => Nat.le_refl _
 | x :: l => by
  have := partsL_le_blk l
  simp only [partsL, blkSz, insSz, List.map_cons, List.sum_cons] at *
  omega
end Go.Proofs.Ytamjcafjdioidaa
