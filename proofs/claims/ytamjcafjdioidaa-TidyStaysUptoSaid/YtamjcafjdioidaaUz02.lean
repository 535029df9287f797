/- Texts of the chain, without what is not wanted: IrO, Cq. No condition but sizes. -/
import Derived.WalkKit
import Derived.Deep.Slices
import Derived.Deep.Draws
import Derived.ChangeSame
import Derived.ChangeOld
import Derived.OwnWalk
import Derived.Laws.OwnMore
import Derived.Deep.AppendLies
import Derived.Test.YtamjcafjdioidaaRows
import Derived.ProofKit
import Derived.OpenShut
import Derived.JoinedCond
import Derived.WalkSpells
import Derived.WalkLawsBesides
import Derived.Deep.RegionHeld3
import Derived.Deep.LoopGhost
import Derived.Deep.QuietTactic
import Derived.BigQuiet
import Derived.Test.YtamjcafjdioidaaUz01
namespace Go.Proofs.Ytamjcafjdioidaa
open Go.RowKit
abbrev Ins.v (x : Ins) (c d : Value) : Value := .agg #[.int .i64 x.op, .int .i64 x.reg, .int .i64 x.ty, .int .i64 x.num, .int .i64 x.flags, c, d]
set_option maxHeartbeats 400000 in
theorem ends_any (op : Int) (w : World) : Calls Try.prog 91 #[.int .i64 op] w fun e w' => e = .returned (.bool (iends op)) ∧ w = w' := by
 go_enter Try.func91, Try.ntmps91
 go_wp2
 all_goals go_ret
 all_goals exact ⟨ret_bool (by rw [Bool.eq_iff_iff]; simp [iends]; omega), rfl⟩
set_option maxHeartbeats 400000 in
theorem rends_any (op : Int) (w : World) : Calls Try.prog 69 #[.int .i64 op] w fun e w' => e = .returned (.bool (iends op)) ∧ w = w' := by
 go_enter Try.func69, Try.ntmps69
 go_wp2
 all_goals go_ret
 all_goals exact ⟨ret_bool (by rw [Bool.eq_iff_iff]; simp [iends]; omega), rfl⟩
set_option maxHeartbeats 400000 in
theorem result_any (x : Ins) (c d : Value) (w : World) : Calls Try.prog 82 #[x.v c d] w fun e w' => e = .returned (.int .i64 (iresult x.op x.ty)) ∧ Below w.heap.size w w' := by
 go_enter Try.func82, Try.ntmps82
 go_wp2
 all_goals go_ret
 all_goals refine ⟨ret_int ?_, (Below.refl _ _).alloc (by simp) _⟩
 all_goals
  show _ = iresult x.op x.ty
  unfold iresult
  try simp at *
  (repeat' split) <;> omega
set_option maxHeartbeats 400000 in
theorem rresult_any (x : Ins) (c d : Value) (w : World) : Calls Try.prog 73 #[x.v c d] w fun e w' => e = .returned (.int .i64 (iresult x.op x.ty)) ∧ Below w.heap.size w w' := by
 go_enter Try.func73, Try.ntmps73
 go_wp2
 all_goals go_ret
 all_goals refine ⟨ret_int ?_, (Below.refl _ _).alloc (by simp) _⟩
 all_goals
  show _ = iresult x.op x.ty
  unfold iresult
  try simp at *
  (repeat' split) <;> omega
end Go.Proofs.Ytamjcafjdioidaa
namespace Go.Proofs.Ytamjcafjdioidaa
open Go.RowKit
abbrev I64 (n : Int) : Prop := (Lit.int .i64 n).wf = true
def RInt : Rp Int := .plain (fun n => [.int .i64 n]) I64
def ROpd : Rp Opd := .plain (fun x => [.int .i64 x.kind, .int .i64 x.num, .int .u64 x.bits]) fun x => I64 x.kind ∧ I64 x.num
def RInts : Rp (List Int) := .slice 1 RInt
def ROpds : Rp (List Opd) := .slice 3 ROpd
def RIns : Rp Ins where
 rep w B cs x := ∃ c d, cs = [.int .i64 x.op, .int .i64 x.reg, .int .i64 x.ty, .int .i64 x.num, .int .i64 x.flags, c, d] ∧ ROpds.rep w B [c] x.args ∧ RInts.rep w B [d] x.to ∧ I64 x.op ∧ I64 x.reg ∧ I64 x.ty ∧ I64 x.num ∧ I64 x.flags
 keep := by
  rintro w w' B B' cs x ⟨c, d, h, h1, h2, h3⟩ hk hB
  exact ⟨c, d, h, ROpds.keep h1 hk hB, RInts.keep h2 hk hB, h3⟩
def RBlk : Rp (List Ins) := .slice 7 RIns
def RBlks : Rp (List (List Ins)) := .slice 1 RBlk
abbrev Fun.v (x : Fun) (c d : Value) : Value := .agg #[.string x.name, c, .int .i64 x.ret, d]
end Go.Proofs.Ytamjcafjdioidaa
namespace Go.Proofs.Ytamjcafjdioidaa
open Go.RowKit Go.ChangeShapes Go.WideShapes Go.Deep
theorem cells_uint64 : Try.prog.cellsOf 40 = 1 := by kernel_rfl
theorem cells_string : Try.prog.cellsOf 9 = 1 := by kernel_rfl
theorem cells_Value : Try.prog.cellsOf 42 = 3 := by kernel_rfl
theorem cells_Values : Try.prog.cellsOf 37 = 1 := by kernel_rfl
theorem cells_Ints : Try.prog.cellsOf 29 = 1 := by kernel_rfl
theorem cells_Instr : Try.prog.cellsOf 39 = 7 := by kernel_rfl
theorem cells_Instrs : Try.prog.cellsOf 34 = 1 := by kernel_rfl
theorem cells_Block : Try.prog.cellsOf 36 = 1 := by kernel_rfl
theorem cells_Blocks : Try.prog.cellsOf 30 = 1 := by kernel_rfl
theorem cells_Func : Try.prog.cellsOf 32 = 4 := by kernel_rfl
def insSz (x : Ins) : Nat := 1 + x.args.length + x.to.length
def blkSz (l : List Ins) : Nat := (l.map insSz).sum + 1
def blksSz (l : List (List Ins)) : Nat := (l.map blkSz).sum + 1
def funSz (f : Fun) : Nat := f.params.length + blksSz f.blocks
theorem sum_ones {α : Type} (l : List α) : (l.map fun _ => 1).sum = l.length := by induction l with
 | nil => rfl
 | cons x l ih => simp only [List.map_cons, List.sum_cons, ih, List.length_cons]; omega
theorem opens_int : Opens 3 RInt (fun _ => 1) := by
 intro H enc w base spare held fuel cs x h
 obtain ⟨n, rfl, rfl, hw⟩ := DataW.trod_int Try.underlying3 h
 exact ⟨n, ⟨rfl, hw⟩, bulk_one _⟩
theorem opens_Ints : Opens 29 RInts (fun l => l.length + 1) := by
 have := opens_slice Try.underlying29 cells_int (by omega) opens_int
 simp only [sum_ones] at this
 exact this
theorem opens_Value : Opens 42 ROpd (fun _ => 1) := by
 intro H enc w base spare held fuel cs x h
 obtain ⟨xs, k, _, rfl, hl, hlen, hf⟩ := DataW.trod_struct Try.underlying42 h
 obtain ⟨c0, c1, c2, rfl⟩ := len3 (hl.trans cells_Value)
 obtain ⟨y0, y1, y2, rfl⟩ := len3 (hlen.trans rfl)
 obtain ⟨n0, e0, _, w0⟩ := DataW.trod_int Try.underlying3 (hf 0 _ rfl)
 obtain ⟨n1, e1, _, w1⟩ := DataW.trod_int Try.underlying3 (hf 1 _ rfl)
 obtain ⟨n2, e2, _, _⟩ := DataW.trod_int Try.underlying40 (hf 2 _ rfl)
 simp [cells_int, cells_uint64] at e0 e1 e2
 subst e0 e1 e2
 exact ⟨⟨n0, n1, n2⟩, ⟨rfl, w0, w1⟩, bulk_one _⟩
theorem opens_Values : Opens 37 ROpds (fun l => l.length + 1) := by
 have := opens_slice Try.underlying37 cells_Value (by omega) opens_Value
 simp only [sum_ones] at this
 exact this
theorem opens_Instr : Opens 39 RIns insSz := by
 intro H enc w base spare held fuel cs x h
 obtain ⟨xs, k, _, rfl, hl, hlen, hf⟩ := DataW.trod_struct Try.underlying39 h
 obtain ⟨c0, c1, c2, c3, c4, c5, c6, rfl⟩ := len7 (hl.trans cells_Instr)
 obtain ⟨y0, y1, y2, y3, y4, y5, y6, rfl⟩ := len7 (hlen.trans rfl)
 obtain ⟨n0, e0, _, w0⟩ := DataW.trod_int Try.underlying3 (hf 0 _ rfl)
 obtain ⟨n1, e1, _, w1⟩ := DataW.trod_int Try.underlying3 (hf 1 _ rfl)
 obtain ⟨n2, e2, _, w2⟩ := DataW.trod_int Try.underlying3 (hf 2 _ rfl)
 obtain ⟨n3, e3, _, w3⟩ := DataW.trod_int Try.underlying3 (hf 3 _ rfl)
 obtain ⟨n4, e4, _, w4⟩ := DataW.trod_int Try.underlying3 (hf 4 _ rfl)
 obtain ⟨l5, r5, m5⟩ := opens_Values _ _ _ _ _ _ _ _ _ (hf 5 _ rfl)
 obtain ⟨l6, r6, m6⟩ := opens_Ints _ _ _ _ _ _ _ _ _ (hf 6 _ rfl)
 simp [cells_int, cells_Values, cells_Ints] at e0 e1 e2 e3 e4 r5 r6
 subst e0 e1 e2 e3 e4
 refine ⟨⟨n0, n1, n2, n3, n4, l5, l6⟩, ⟨c5, c6, rfl, r5, r6, w0, w1, w2, w3, w4⟩, ?_⟩
 simp only [insSz, List.map_cons, List.map_nil, Rows.uptoBulk, Rows.uptoBulkAll] at *
 omega
theorem opens_Instrs : Opens 34 RBlk blkSz := opens_slice Try.underlying34 cells_Instr (by omega) opens_Instr
theorem opens_Block : Opens 36 RBlk blkSz := by
 intro H enc w base spare held fuel cs x h
 obtain ⟨xs, k, _, rfl, hl, hlen, hf⟩ := DataW.trod_struct Try.underlying36 h
 obtain ⟨c0, rfl⟩ := len1 (hl.trans cells_Block)
 obtain ⟨y0, rfl⟩ := len1 (hlen.trans rfl)
 obtain ⟨l0, r0, m0⟩ := opens_Instrs _ _ _ _ _ _ _ _ _ (hf 0 _ rfl)
 simp [cells_Instrs] at r0
 refine ⟨l0, r0, ?_⟩
 simp only [List.map_cons, List.map_nil, Rows.uptoBulk, Rows.uptoBulkAll] at *
 omega
theorem opens_Blocks : Opens 30 RBlks blksSz := opens_slice Try.underlying30 cells_Block (by omega) opens_Block
def RFun : Rp Fun where
 rep w B cs x := ∃ c d, cs = [.string x.name, c, .int .i64 x.ret, d] ∧ RInts.rep w B [c] x.params ∧ RBlks.rep w B [d] x.blocks ∧ I64 x.ret ∧ x.name.size ≤ maxLen
 keep := by
  rintro w w' B B' cs x ⟨c, d, h, h1, h2, h3⟩ hk hB
  exact ⟨c, d, h, RInts.keep h1 hk hB, RBlks.keep h2 hk hB, h3⟩
theorem opens_Func : Opens 32 RFun funSz := by
 intro H enc w base spare held fuel cs x h
 obtain ⟨xs, k, _, rfl, hl, hlen, hf⟩ := DataW.trod_struct Try.underlying32 h
 obtain ⟨c0, c1, c2, c3, rfl⟩ := len4 (hl.trans cells_Func)
 obtain ⟨y0, y1, y2, y3, rfl⟩ := len4 (hlen.trans rfl)
 obtain ⟨s, e0, _, hs⟩ := DataW.trod_string Try.underlying9 (hf 0 _ rfl)
 obtain ⟨l1, r1, m1⟩ := opens_Ints _ _ _ _ _ _ _ _ _ (hf 1 _ rfl)
 obtain ⟨n2, e2, _, w2⟩ := DataW.trod_int Try.underlying3 (hf 2 _ rfl)
 obtain ⟨l3, r3, m3⟩ := opens_Blocks _ _ _ _ _ _ _ _ _ (hf 3 _ rfl)
 simp [cells_int, cells_string, cells_Ints, cells_Blocks] at e0 r1 e2 r3
 subst e0 e2
 refine ⟨⟨s, l1, n2, l3⟩, ⟨c1, c3, rfl, r1, r3, w2, hs⟩, ?_⟩
 simp only [funSz, List.map_cons, List.map_nil, Rows.uptoBulk, Rows.uptoBulkAll] at *
 omega
theorem partsL_le_blk : ∀ l : List Ins, partsL l + 1 ≤ blkSz l
 | [] => Nat.le_refl _
 | x :: l => by
  have := partsL_le_blk l
  simp only [partsL, blkSz, insSz, List.map_cons, List.sum_cons] at *
  omega
end Go.Proofs.Ytamjcafjdioidaa

namespace Go.Proofs.Ytamjcafjdioidaa
open Go.RowKit
set_option linter.unusedSimpArgs false
set_option linter.unusedVariables false
theorem row_lt {w : World} {base : Nat} {e : TypeId} {size : Nat} {v : Value} {n : Nat} {xs : List Value} {k : Nat} (h : w.ownsRow base e size v n xs) (hk : v.ownBlock = some k) : base ≤ k ∧ k < w.heap.size ∧ ∃ c, w.heap[k]? = some (.cells c e (0, 0)) := by
 rcases h.2 with ⟨rfl, _⟩ | ⟨B, C, cur, rfl, hb, hB, _⟩
 ·cases hk
 ·cases hk; exact ⟨hb, (Array.getElem?_eq_some_iff.1 hB).1, cur, hB⟩
theorem row_kept {w w' : World} {base : Nat} {e : TypeId} {size : Nat} {v : Value} {n : Nat} {xs : List Value} (h : w.ownsRow base e size v n xs) (hk : ∀ k, v.ownBlock = some k → w'.heap[k]? = w.heap[k]?) : w'.ownsRow base e size v n xs := by
 refine ⟨h.1, ?_⟩
 rcases h.2 with hn | ⟨g, cap, cur, rfl, hb, hgg, rest⟩
 ·exact .inl hn
 ·exact .inr ⟨g, cap, cur, rfl, hb, (hk g rfl).trans hgg, rest⟩
theorem row_mono {w : World} {b b' : Nat} {e : TypeId} {size : Nat} {v : Value} {n : Nat} {xs : List Value} (h : w.ownsRow b e size v n xs) (hb : b' ≤ b) : w.ownsRow b' e size v n xs := by
 refine ⟨h.1, ?_⟩
 rcases h.2 with h1 | ⟨g, cap, cur, e, h1, rest⟩
 ·exact .inl h1
 ·exact .inr ⟨g, cap, cur, e, Nat.le_trans hb h1, rest⟩
theorem row_form {w : World} {b : Nat} {e : TypeId} {size : Nat} {v : Value} {n : Nat} {xs : List Value} (h : w.ownsRow b e size v n xs) : ∃ A C, v = .slice A n C := by
 rcases h.2 with ⟨e, h0⟩ | ⟨g, c, cur, e, _⟩
 ·exact ⟨none, 0, by rw [e, h0]⟩
 ·exact ⟨_, c, e⟩
def But (T : TypeId) (w w' : World) : Prop := ∀ (k : Nat) (c : Array Value) (t : TypeId) (f : Nat × Nat), w.heap[k]? = some (Obj.cells c t f) → t ≠ T → w'.heap[k]? = w.heap[k]?
theorem But.grown {w w' : World} {B : Nat} {T : TypeId} {n m : Nat} {v : Value} {xs : List Value} {o : Obj} (h : w.ownsRow B T n v m xs) (hg : (w.alloc o).grownBy w' v.ownBlock) : But T w w' := fun k c t f hk ht => by
 have hlt := (Array.getElem?_eq_some_iff.1 hk).1
 rw [hg.block k (by simp; omega) (fun e => ?_)]
 ·exact Below.heap_alloc w o k hlt
 ·obtain ⟨-, -, c', h1⟩ := row_lt h e.symm
  rw [hk] at h1
  injection h1 with h1
  injection h1 with _ h2
  exact ht h2
theorem But.row {w w' : World} {T : TypeId} {base : Nat} {e : TypeId} {size : Nat} {v : Value} {n : Nat} {xs : List Value} (hb : But T w w') (he : e ≠ T) (h : w.ownsRow base e size v n xs) : w'.ownsRow base e size v n xs := row_kept h fun k hk => by
 obtain ⟨-, -, c, h1⟩ := row_lt h hk
 exact hb k c e _ h1 he
def oc (x : Opd) : List Value := [.int .i64 x.kind, .int .i64 x.num, .int .u64 x.bits]
theorem oc_len (l : List Opd) : (l.flatMap oc).length = l.length * 3 := by
 induction l with
 | nil => rfl
 | cons x l ih => rw [List.flatMap_cons, List.length_append, ih, List.length_cons]; show 3 + _ = _; omega
theorem oc_get : ∀ (l : List Opd) (m : Nat), (l.flatMap oc)[m]? = (l[m / 3]?).bind fun b => (oc b)[m % 3]?
 | [], m => by simp
 | b :: l, m => by
  have e3 : (oc b).length = 3 := rfl
  rw [List.flatMap_cons]
  rcases Nat.lt_or_ge m 3 with h | h
  ·rw [List.getElem?_append_left (by rw [e3]; exact h), Nat.div_eq_of_lt h, Nat.mod_eq_of_lt h]; rfl
  ·rw [List.getElem?_append_right (by rw [e3]; exact h), e3, oc_get l (m - 3)]
   obtain ⟨n, rfl⟩ : ∃ n, m = n + 3 := ⟨m - 3, by omega⟩
   rw [show (n + 3) / 3 = n / 3 + 1 by omega, show (n + 3) % 3 = n % 3 by omega, Nat.add_sub_cancel, List.getElem?_cons_succ]
structure OwnI (w : World) (B : Nat) (v : Value) (l : List Int) : Prop where
 row : w.ownsRow B 3 1 v l.length (l.map fun z => Value.int .i64 z)
 ok : ∀ x, x ∈ l → I64 x
structure OwnV (w : World) (B : Nat) (v : Value) (l : List Opd) : Prop where
 row : w.ownsRow B 42 3 v l.length (l.flatMap oc)
 ok : ∀ x, x ∈ l → I64 x.kind ∧ I64 x.num
def insC (x : Ins) (c d : Value) : List Value := [.int .i64 x.op, .int .i64 x.reg, .int .i64 x.ty, .int .i64 x.num, .int .i64 x.flags, c, d]
def InsOk (x : Ins) : Prop := I64 x.op ∧ I64 x.reg ∧ I64 x.ty ∧ I64 x.num ∧ I64 x.flags
structure OwnC (w : World) (B : Nat) (v : Value) (l : List Ins) : Prop where
 body : ∃ ess : List (List Value), ess.length = l.length ∧ w.ownsRow B 39 7 v l.length ess.flatten ∧ ∀ (i : Nat) es x, ess[i]? = some es → l[i]? = some x → ∃ c d, es = insC x c d ∧ OwnV w B c x.args ∧ OwnI w B d x.to ∧ InsOk x
structure OwnK (w : World) (B : Nat) (v : Value) (bs : List (List Ins)) : Prop where
 body : ∃ xs : List Value, xs.length = bs.length ∧ w.ownsRow B 36 1 v bs.length xs ∧ ∀ (i : Nat) x b, xs[i]? = some x → bs[i]? = some b → OwnC w B x b
section
variable {w w' : World} {B B' : Nat} {v : Value}
theorem OwnI.kept {l : List Int} (h : OwnI w B v l) (hk : ∀ k, B ≤ k → k < w.heap.size → w'.heap[k]? = w.heap[k]?) : OwnI w' B v l := ⟨row_kept h.row fun k hv => hk k (row_lt h.row hv).1 (row_lt h.row hv).2.1, h.ok⟩
theorem OwnV.kept {l : List Opd} (h : OwnV w B v l) (hk : ∀ k, B ≤ k → k < w.heap.size → w'.heap[k]? = w.heap[k]?) : OwnV w' B v l := ⟨row_kept h.row fun k hv => hk k (row_lt h.row hv).1 (row_lt h.row hv).2.1, h.ok⟩
theorem OwnI.mono {l : List Int} (h : OwnI w B v l) (hb : B' ≤ B) : OwnI w B' v l := ⟨row_mono h.row hb, h.ok⟩
theorem OwnV.mono {l : List Opd} (h : OwnV w B v l) (hb : B' ≤ B) : OwnV w B' v l := ⟨row_mono h.row hb, h.ok⟩
theorem OwnI.nil_ : OwnI w B (.slice none 0 0) [] := ⟨⟨rfl, .inl ⟨rfl, rfl⟩⟩, fun x h => by cases h⟩
theorem OwnV.nil_ : OwnV w B (.slice none 0 0) [] := ⟨⟨rfl, .inl ⟨rfl, rfl⟩⟩, fun x h => by cases h⟩
theorem OwnI.rep {l : List Int} (h : OwnI w B v l) : RInts.rep w w.heap.size [v] l := by
 refine Own.rep (R := RInt) (B := 0) (base := B) (T := 3) ⟨l.map fun z => [.int .i64 z], by simp, ?_, fun i es y h1 h2 => ?_⟩ (Nat.zero_le _)
 ·have e : (l.map fun z => [Value.int .i64 z]).flatten = l.map fun z => Value.int .i64 z := by
   clear h
   induction l with
   | nil => rfl
   | cons z l ih => rw [List.map_cons, List.flatten_cons, ih]; rfl
  rw [e]; exact h.row
 ·rw [List.getElem?_map, h2] at h1
  cases h1
  exact ⟨rfl, rfl, h.ok y (List.mem_of_getElem? h2)⟩
theorem OwnV.rep {l : List Opd} (h : OwnV w B v l) : ROpds.rep w w.heap.size [v] l := by
 refine Own.rep (R := ROpd) (B := 0) (base := B) (T := 42) ⟨l.map oc, by simp, ?_, fun i es y h1 h2 => ?_⟩ (Nat.zero_le _)
 ·rw [← List.flatMap_def]; exact h.row
 ·rw [List.getElem?_map, h2] at h1
  cases h1
  exact ⟨rfl, rfl, h.ok y (List.mem_of_getElem? h2)⟩
theorem OwnC.rep {l : List Ins} (h : OwnC w B v l) : RBlk.rep w w.heap.size [v] l := by
 obtain ⟨ess, h1, h2, h3⟩ := h
 refine Own.rep (R := RIns) (B := w.heap.size) (base := B) (T := 39) ⟨ess, h1, h2, fun i es y he hy => ?_⟩ (Nat.le_refl _)
 obtain ⟨c, d, e, h4, h5, h6⟩ := h3 i es y he hy
 subst e
 exact ⟨rfl, c, d, rfl, h4.rep, h5.rep, h6⟩
theorem OwnK.rep {bs : List (List Ins)} (h : OwnK w B v bs) : RBlks.rep w w.heap.size [v] bs := by
 obtain ⟨xs, h1, h2, h3⟩ := h
 refine Own.rep (R := RBlk) (B := w.heap.size) (base := B) (T := 36) ⟨xs.map fun x => [x], by simp [h1], ?_, fun i es y he hy => ?_⟩ (Nat.le_refl _)
 ·have e : (xs.map fun x => [x]).flatten = xs := by
   clear h1 h2 h3
   induction xs with
   | nil => rfl
   | cons z l ih => rw [List.map_cons, List.flatten_cons, ih]; rfl
  rw [e]; exact h2
 ·rw [List.getElem?_map] at he
  cases hx : xs[i]? with
  | none => rw [hx] at he; cases he
  | some x =>
   rw [hx] at he
   cases he
   exact ⟨rfl, (h3 i x y hx hy).rep⟩
end
end Go.Proofs.Ytamjcafjdioidaa
namespace Go.Proofs.Ytamjcafjdioidaa
open Go.RowKit
set_option linter.unusedVariables false
def Nd (vs : List Value) : Prop := (vs.filterMap Value.ownBlock).Nodup
theorem nd_nil : Nd [] := List.nodup_nil
theorem mem_own {vs : List Value} {k : Nat} : k ∈ vs.filterMap Value.ownBlock ↔ ∃ v, v ∈ vs ∧ v.ownBlock = some k := by rw [List.mem_filterMap]
theorem nd_append {a b : List Value} (ha : Nd a) (hb : Nd b) (h : ∀ u, u ∈ a → ∀ v, v ∈ b → ∀ k, u.ownBlock = some k → v.ownBlock ≠ some k) : Nd (a ++ b) := by
 unfold Nd
 rw [List.filterMap_append, List.nodup_append]
 refine ⟨ha, hb, fun x hx y hy e => ?_⟩
 subst e
 obtain ⟨u, hu, hk⟩ := mem_own.1 hx
 obtain ⟨v, hv, hk'⟩ := mem_own.1 hy
 exact h u hu v hv x hk hk'
theorem nd_one (v : Value) : Nd [v] := by
 unfold Nd
 rw [List.filterMap_cons]
 split
 ·exact List.nodup_nil
 ·simp
theorem nd_ne {vs : List Value} (h : Nd vs) {i j : Nat} {u v : Value} {k : Nat} (hi : vs[i]? = some u) (hj : vs[j]? = some v) (hij : i ≠ j) (hu : u.ownBlock = some k) : v.ownBlock ≠ some k := by
 intro hv
 have key : ∀ (vs : List Value), Nd vs → ∀ (i j : Nat) (u v : Value), i < j → vs[i]? = some u → vs[j]? = some v → u.ownBlock = some k → v.ownBlock = some k → False := by
  intro vs h i j u v hij hi hj hu hv
  have h1 : vs = vs.take j ++ vs.drop j := (List.take_append_drop j vs).symm
  unfold Nd at h
  rw [h1, List.filterMap_append, List.nodup_append] at h
  refine h.2.2 k (mem_own.2 ⟨u, ?_, hu⟩) k (mem_own.2 ⟨v, ?_, hv⟩) rfl
  ·exact List.mem_of_getElem? (i := i) (by rw [List.getElem?_take, if_pos hij]; exact hi)
  ·exact List.mem_of_getElem? (i := 0) (by rw [List.getElem?_drop, Nat.add_zero]; exact hj)
 rcases Nat.lt_or_ge i j with h1 | h1
 ·exact key vs h i j u v h1 hi hj hu hv
 ·exact key vs h j i v u (by omega) hj hi hv hu
def cellsOf (l : List Ins) (es : List (Value × Value)) : List Value := (List.zipWith (fun x e => insC x e.1 e.2) l es).flatten
structure OwnCd (w : World) (B : Nat) (v : Value) (l : List Ins) (es : List (Value × Value)) : Prop where
 len : es.length = l.length
 row : w.ownsRow B 39 7 v l.length (cellsOf l es)
 inn : ∀ (i : Nat) x e, l[i]? = some x → es[i]? = some e → OwnV w B e.1 x.args ∧ OwnI w B e.2 x.to ∧ InsOk x
 nda : Nd (es.map Prod.fst)
 ndt : Nd (es.map Prod.snd)
structure OwnKd (w : World) (B : Nat) (v : Value) (bs : List (List Ins)) (xs : List Value) (ess : List (List (Value × Value))) : Prop where
 row : w.ownsRow B 36 1 v bs.length xs
 lene : ess.length = bs.length
 inn : ∀ (i : Nat) x b es, xs[i]? = some x → bs[i]? = some b → ess[i]? = some es → OwnCd w B x b es
 ndx : Nd xs
 nda : Nd (ess.flatten.map Prod.fst)
 ndt : Nd (ess.flatten.map Prod.snd)
section
variable {w w' : World} {B B' : Nat} {v : Value}
theorem OwnKd.lenx {bs : List (List Ins)} {xs : List Value} {ess : List (List (Value × Value))} (h : OwnKd w B v bs xs ess) : xs.length = bs.length := by have := h.row.1; omega
theorem OwnCd.kept {l : List Ins} {es : List (Value × Value)} (h : OwnCd w B v l es) (hk : ∀ k, B ≤ k → k < w.heap.size → w'.heap[k]? = w.heap[k]?) : OwnCd w' B v l es :=
 ⟨h.len, row_kept h.row fun k hv => hk k (row_lt h.row hv).1 (row_lt h.row hv).2.1, fun i x e hx he => by
  obtain ⟨h1, h2, h3⟩ := h.inn i x e hx he
  exact ⟨h1.kept hk, h2.kept hk, h3⟩, h.nda, h.ndt⟩
theorem OwnKd.kept {bs : List (List Ins)} {xs : List Value} {ess : List (List (Value × Value))} (h : OwnKd w B v bs xs ess) (hk : ∀ k, B ≤ k → k < w.heap.size → w'.heap[k]? = w.heap[k]?) : OwnKd w' B v bs xs ess :=
 ⟨row_kept h.row fun k hv => hk k (row_lt h.row hv).1 (row_lt h.row hv).2.1, h.lene, fun i x b es hx hb he => (h.inn i x b es hx hb he).kept hk, h.ndx, h.nda, h.ndt⟩
theorem OwnCd.mono {l : List Ins} {es : List (Value × Value)} (h : OwnCd w B v l es) (hb : B' ≤ B) : OwnCd w B' v l es :=
 ⟨h.len, row_mono h.row hb, fun i x e hx he => by
  obtain ⟨h1, h2, h3⟩ := h.inn i x e hx he
  exact ⟨h1.mono hb, h2.mono hb, h3⟩, h.nda, h.ndt⟩
theorem OwnKd.mono {bs : List (List Ins)} {xs : List Value} {ess : List (List (Value × Value))} (h : OwnKd w B v bs xs ess) (hb : B' ≤ B) : OwnKd w B' v bs xs ess :=
 ⟨row_mono h.row hb, h.lene, fun i x b es hx hb' he => (h.inn i x b es hx hb' he).mono hb, h.ndx, h.nda, h.ndt⟩
theorem OwnCd.nil_ : OwnCd w B (.slice none 0 0) [] [] := ⟨rfl, ⟨rfl, .inl ⟨rfl, rfl⟩⟩, fun i x e hx => by simp at hx, nd_nil, nd_nil⟩
theorem OwnKd.nil_ : OwnKd w B (.slice none 0 0) [] [] [] := ⟨⟨rfl, .inl ⟨rfl, rfl⟩⟩, rfl, fun i x b es hx => by simp at hx, nd_nil, nd_nil, nd_nil⟩
theorem OwnCd.but {T : TypeId} {l : List Ins} {es : List (Value × Value)} (hb : But T w w') (h1 : 39 ≠ T) (h2 : 42 ≠ T) (h3 : 3 ≠ T) (h : OwnCd w B v l es) : OwnCd w' B v l es :=
 ⟨h.len, hb.row h1 h.row, fun i x e hx he => by
  obtain ⟨h4, h5, h6⟩ := h.inn i x e hx he
  exact ⟨⟨hb.row h2 h4.row, h4.ok⟩, ⟨hb.row h3 h5.row, h5.ok⟩, h6⟩, h.nda, h.ndt⟩
theorem OwnCd.own_at {l : List Ins} {es : List (Value × Value)} (h : OwnCd w B v l es) {e : Value × Value} (he : e ∈ es) (k : Nat) : (e.1.ownBlock = some k → B ≤ k ∧ k < w.heap.size) ∧ (e.2.ownBlock = some k → B ≤ k ∧ k < w.heap.size) := by
 obtain ⟨i, hi⟩ := List.getElem?_of_mem he
 have hil := (List.getElem?_eq_some_iff.1 hi).1
 rw [h.len] at hil
 obtain ⟨h1, h2, -⟩ := h.inn i _ e (List.getElem?_eq_getElem hil) hi
 exact ⟨fun hk => ⟨(row_lt h1.row hk).1, (row_lt h1.row hk).2.1⟩, fun hk => ⟨(row_lt h2.row hk).1, (row_lt h2.row hk).2.1⟩⟩
theorem OwnKd.code_at {bs : List (List Ins)} {xs : List Value} {ess : List (List (Value × Value))} (h : OwnKd w B v bs xs ess) {i : Nat} {x : Value} (hx : xs[i]? = some x) : ∃ b es, bs[i]? = some b ∧ ess[i]? = some es ∧ OwnCd w B x b es := by
 have hi := (List.getElem?_eq_some_iff.1 hx).1
 have h1 : i < bs.length := by rw [← h.lenx]; exact hi
 have h2 : i < ess.length := by rw [h.lene]; exact h1
 exact ⟨_, _, List.getElem?_eq_getElem h1, List.getElem?_eq_getElem h2, h.inn i x _ _ hx (List.getElem?_eq_getElem h1) (List.getElem?_eq_getElem h2)⟩
theorem OwnKd.own_at {bs : List (List Ins)} {xs : List Value} {ess : List (List (Value × Value))} (h : OwnKd w B v bs xs ess) {e : Value × Value} (he : e ∈ ess.flatten) (k : Nat) : (e.1.ownBlock = some k → B ≤ k ∧ k < w.heap.size) ∧ (e.2.ownBlock = some k → B ≤ k ∧ k < w.heap.size) := by
 obtain ⟨es, hes, he⟩ := List.mem_flatten.1 he
 obtain ⟨i, hi⟩ := List.getElem?_of_mem hes
 have hil := (List.getElem?_eq_some_iff.1 hi).1
 have hx : i < xs.length := by rw [h.lenx, ← h.lene]; exact hil
 have hb : i < bs.length := by rw [← h.lene]; exact hil
 exact (h.inn i _ _ es (List.getElem?_eq_getElem hx) (List.getElem?_eq_getElem hb) hi).own_at he k
theorem OwnKd.own_x {bs : List (List Ins)} {xs : List Value} {ess : List (List (Value × Value))} (h : OwnKd w B v bs xs ess) {x : Value} (hx : x ∈ xs) (k : Nat) (hk : x.ownBlock = some k) : B ≤ k ∧ k < w.heap.size := by
 obtain ⟨i, hi⟩ := List.getElem?_of_mem hx
 obtain ⟨b, es, -, -, hc⟩ := h.code_at hi
 exact ⟨(row_lt hc.row hk).1, (row_lt hc.row hk).2.1⟩
theorem cellsOf_snoc {l : List Ins} {es : List (Value × Value)} (h : es.length = l.length) (x : Ins) (c d : Value) : cellsOf (l ++ [x]) (es ++ [(c, d)]) = cellsOf l es ++ insC x c d := by
 unfold cellsOf
 rw [List.zipWith_append h.symm, List.flatten_append]
 simp
theorem OwnCd.more {l : List Ins} {es : List (Value × Value)} (h : OwnCd w B v l es) {w1 : World} (hk : ∀ k, B ≤ k → k < w.heap.size → w1.heap[k]? = w.heap[k]?) : w1.ownsRow B 39 7 v l.length (cellsOf l es) ∧ ∀ (x : Ins) (c d : Value) (w' : World) (v' : Value), OwnV w1 B c x.args → OwnI w1 B d x.to →
  (∀ k, c.ownBlock = some k → w.heap.size ≤ k) → (∀ k, d.ownBlock = some k → w.heap.size ≤ k) → InsOk x →
  w'.ownsRow B 39 7 v' (l.length + 1) (cellsOf l es ++ insC x c d) → (w1.alloc (.cells (insC x c d).toArray 39)).grownBy w' v.ownBlock → OwnCd w' B v' (l ++ [x]) (es ++ [(c, d)]) := by
 have h1 := h.kept hk
 refine ⟨h1.row, fun x c d w' v' hc hd hcl hdl hx ho hg => ?_⟩
 have hb := But.grown h1.row hg
 refine ⟨by simp [h.len], by rw [cellsOf_snoc h.len, List.length_append]; exact ho, fun i y e hy he => ?_, ?_, ?_⟩
 ·rcases Nat.lt_or_ge i l.length with hi | hi
  ·rw [List.getElem?_append_left hi] at hy
   rw [List.getElem?_append_left (by rw [h.len]; exact hi)] at he
   obtain ⟨h4, h5, h6⟩ := h1.inn i y e hy he
   exact ⟨⟨hb.row (by decide) h4.row, h4.ok⟩, ⟨hb.row (by decide) h5.row, h5.ok⟩, h6⟩
  ·rw [List.getElem?_append_right hi] at hy
   rw [List.getElem?_append_right (by rw [h.len]; exact hi), h.len] at he
   have e0 : i - l.length = 0 := by have := (List.getElem?_eq_some_iff.1 hy).1; simp at this; omega
   rw [e0] at he hy
   cases he; cases hy
   exact ⟨⟨hb.row (by decide) hc.row, hc.ok⟩, ⟨hb.row (by decide) hd.row, hd.ok⟩, hx⟩
 ·rw [List.map_append]
  refine nd_append h.nda (nd_one _) fun u hu z hz k hk' hk2 => ?_
  obtain ⟨e, he, rfl⟩ := List.mem_map.1 hu
  rw [List.mem_singleton.1 hz] at hk2
  have := ((h.own_at he k).1 hk').2
  have := hcl k hk2
  omega
 ·rw [List.map_append]
  refine nd_append h.ndt (nd_one _) fun u hu z hz k hk' hk2 => ?_
  obtain ⟨e, he, rfl⟩ := List.mem_map.1 hu
  rw [List.mem_singleton.1 hz] at hk2
  have := ((h.own_at he k).2 hk').2
  have := hdl k hk2
  omega
theorem OwnKd.more {bs : List (List Ins)} {xs : List Value} {ess : List (List (Value × Value))} (h : OwnKd w B v bs xs ess) {w1 : World} (hk : ∀ k, B ≤ k → k < w.heap.size → w1.heap[k]? = w.heap[k]?) : w1.ownsRow B 36 1 v bs.length xs ∧ ∀ (b : List Ins) (c : Value) (es : List (Value × Value)) (L : Nat) (w' : World) (v' : Value), OwnCd w1 L c b es → B ≤ L → w.heap.size ≤ L →
  w'.ownsRow B 36 1 v' (bs.length + 1) (xs ++ [c]) → (w1.alloc (.cells #[c] 36)).grownBy w' v.ownBlock → OwnKd w' B v' (bs ++ [b]) (xs ++ [c]) (ess ++ [es]) := by
 have h1 := h.kept hk
 refine ⟨h1.row, fun b c es L w' v' hc hBL hwL ho hg => ?_⟩
 have hb := But.grown h1.row hg
 refine ⟨by rw [List.length_append]; exact ho, by simp [h.lene], fun i x y e hx hy he => ?_, ?_, ?_, ?_⟩
 ·rcases Nat.lt_or_ge i bs.length with hi | hi
  ·rw [List.getElem?_append_left (by rw [h.lenx]; exact hi)] at hx
   rw [List.getElem?_append_left hi] at hy
   rw [List.getElem?_append_left (by rw [h.lene]; exact hi)] at he
   exact (h1.inn i x y e hx hy he).but hb (by decide) (by decide) (by decide)
  ·rw [List.getElem?_append_right (by rw [h.lenx]; exact hi), h.lenx] at hx
   rw [List.getElem?_append_right hi] at hy
   rw [List.getElem?_append_right (by rw [h.lene]; exact hi), h.lene] at he
   have e0 : i - bs.length = 0 := by have := (List.getElem?_eq_some_iff.1 hx).1; simp at this; omega
   rw [e0] at hx hy he
   cases hx; cases hy; cases he
   exact (hc.mono hBL).but hb (by decide) (by decide) (by decide)
 ·refine nd_append h.ndx (nd_one _) fun u hu z hz k hk' hk2 => ?_
  rw [List.mem_singleton.1 hz] at hk2
  have := (h.own_x hu k hk').2
  have := (row_lt hc.row hk2).1
  omega
 ·rw [List.flatten_append, List.map_append, List.flatten_singleton]
  refine nd_append h.nda hc.nda fun u hu z hz k hk' hk2 => ?_
  obtain ⟨e, he, rfl⟩ := List.mem_map.1 hu
  obtain ⟨e2, he2, rfl⟩ := List.mem_map.1 hz
  have := ((h.own_at he k).1 hk').2
  have := ((hc.own_at he2 k).1 hk2).1
  omega
 ·rw [List.flatten_append, List.map_append, List.flatten_singleton]
  refine nd_append h.ndt hc.ndt fun u hu z hz k hk' hk2 => ?_
  obtain ⟨e, he, rfl⟩ := List.mem_map.1 hu
  obtain ⟨e2, he2, rfl⟩ := List.mem_map.1 hz
  have := ((h.own_at he k).2 hk').2
  have := ((hc.own_at he2 k).2 hk2).1
  omega
theorem OwnCd.own {l : List Ins} {es : List (Value × Value)} (h : OwnCd w B v l es) : OwnC w B v l := by
 refine ⟨List.zipWith (fun (x : Ins) (e : Value × Value) => insC x e.1 e.2) l es, by rw [List.length_zipWith, h.len, Nat.min_self], h.row, fun i c x hc hx => ?_⟩
 rw [List.getElem?_zipWith, hx] at hc
 cases he : es[i]? with
 | none => rw [he] at hc; cases hc
 | some e =>
  rw [he] at hc
  cases hc
  obtain ⟨h1, h2, h3⟩ := h.inn i x e hx he
  exact ⟨e.1, e.2, rfl, h1, h2, h3⟩
theorem OwnKd.own {bs : List (List Ins)} {xs : List Value} {ess : List (List (Value × Value))} (h : OwnKd w B v bs xs ess) : OwnK w B v bs :=
 ⟨xs, h.lenx, h.row, fun i x b hx hb => by
  obtain ⟨b', es, hb', he, hc⟩ := h.code_at hx
  rw [hb] at hb'
  cases hb'
  exact hc.own⟩
end
def OwnC2 (w : World) (B : Nat) (v : Value) (l : List Ins) : Prop := ∃ es, OwnCd w B v l es
def OwnK2 (w : World) (B : Nat) (v : Value) (bs : List (List Ins)) : Prop := ∃ xs ess, OwnKd w B v bs xs ess
section
variable {w w' : World} {B B' : Nat} {v : Value}
theorem OwnC2.kept {l : List Ins} (h : OwnC2 w B v l) (hk : ∀ k, B ≤ k → k < w.heap.size → w'.heap[k]? = w.heap[k]?) : OwnC2 w' B v l := by obtain ⟨es, h⟩ := h; exact ⟨es, h.kept hk⟩
theorem OwnK2.kept {bs : List (List Ins)} (h : OwnK2 w B v bs) (hk : ∀ k, B ≤ k → k < w.heap.size → w'.heap[k]? = w.heap[k]?) : OwnK2 w' B v bs := by obtain ⟨xs, ess, h⟩ := h; exact ⟨xs, ess, h.kept hk⟩
theorem OwnC2.nil_ : OwnC2 w B (.slice none 0 0) [] := ⟨[], OwnCd.nil_⟩
theorem OwnK2.nil_ : OwnK2 w B (.slice none 0 0) [] := ⟨[], [], OwnKd.nil_⟩
theorem OwnC2.more {l : List Ins} (h : OwnC2 w B v l) {w1 : World} (hk : ∀ k, B ≤ k → k < w.heap.size → w1.heap[k]? = w.heap[k]?) : ∃ xs, w1.ownsRow B 39 7 v l.length xs ∧ ∀ (x : Ins) (c d : Value) (w' : World) (v' : Value), OwnV w1 B c x.args → OwnI w1 B d x.to →
  (∀ k, c.ownBlock = some k → w.heap.size ≤ k) → (∀ k, d.ownBlock = some k → w.heap.size ≤ k) → InsOk x →
  w'.ownsRow B 39 7 v' (l.length + 1) (xs ++ insC x c d) → (w1.alloc (.cells (insC x c d).toArray 39)).grownBy w' v.ownBlock → OwnC2 w' B v' (l ++ [x]) := by
 obtain ⟨es, h⟩ := h
 obtain ⟨h1, h2⟩ := h.more hk
 exact ⟨_, h1, fun x c d w' v' a1 a2 a3 a4 a5 a6 a7 => ⟨_, h2 x c d w' v' a1 a2 a3 a4 a5 a6 a7⟩⟩
theorem OwnK2.more {bs : List (List Ins)} (h : OwnK2 w B v bs) {w1 : World} (hk : ∀ k, B ≤ k → k < w.heap.size → w1.heap[k]? = w.heap[k]?) : ∃ xs, w1.ownsRow B 36 1 v bs.length xs ∧ ∀ (b : List Ins) (c : Value) (L : Nat) (w' : World) (v' : Value), OwnC2 w1 L c b → B ≤ L → w.heap.size ≤ L →
  w'.ownsRow B 36 1 v' (bs.length + 1) (xs ++ [c]) → (w1.alloc (.cells #[c] 36)).grownBy w' v.ownBlock → OwnK2 w' B v' (bs ++ [b]) := by
 obtain ⟨xs, ess, h⟩ := h
 obtain ⟨h1, h2⟩ := h.more hk
 exact ⟨_, h1, fun b c L w' v' ⟨es, a1⟩ a2 a3 a4 a5 => ⟨_, _, h2 b c es L w' v' a1 a2 a3 a4 a5⟩⟩
theorem OwnC2.form {l : List Ins} (h : OwnC2 w B v l) : ∃ A C, v = .slice A l.length C := by obtain ⟨es, h⟩ := h; exact row_form h.row
theorem OwnK2.form {bs : List (List Ins)} (h : OwnK2 w B v bs) : ∃ A C, v = .slice A bs.length C := by obtain ⟨xs, ess, h⟩ := h; exact row_form h.row
end
end Go.Proofs.Ytamjcafjdioidaa
