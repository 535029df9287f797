/- Texts of the chain, without what is not wanted: TdX, Sz, IrCe. No condition but sizes. -/
import Derived.WalkKit
import Derived.Deep.Slices
import Derived.Deep.Draws
import Derived.ChangeSame
import Derived.ChangeOld
import Derived.OwnWalk
import Derived.Laws.OwnMore
import Derived.Deep.AppendLies
import Derived.Test.YtamjcafjdioidaaRows
import Derived.ProofKit
import Derived.OpenShut
import Derived.JoinedCond
import Derived.WalkSpells
import Derived.WalkLawsBesides
import Derived.Deep.RegionHeld3
import Derived.Deep.LoopGhost
import Derived.Deep.QuietTactic
import Derived.BigQuiet
import Derived.Deep.DeepCutAuto
import Derived.Deep.CutBlock
import Derived.StillTailTactics
import Derived.Deep.RegionLaw
import Derived.Lib.SliceRun
import Derived.Laws.IdiomCopy
import Derived.Deep.MidRow
import Derived.Lib.Overlaps
import Derived.RegionTactic
import Derived.Deep.RegionLawGrows
import Derived.Laws.Externs
import Derived.Laws.Bits64b
import Derived.Lib.Mul64
import Derived.Test.YtamjcafjdioidaaUm01
import Derived.Test.YtamjcafjdioidaaUm02
import Derived.Test.YtamjcafjdioidaaUm03
import Derived.Test.YtamjcafjdioidaaUm04
import Derived.Test.YtamjcafjdioidaaUm05
import Derived.Test.YtamjcafjdioidaaUm06
import Derived.Test.YtamjcafjdioidaaUm07
import Derived.Test.YtamjcafjdioidaaUm08
import Derived.Test.YtamjcafjdioidaaUm09
import Derived.Test.YtamjcafjdioidaaUm10
import Derived.Test.YtamjcafjdioidaaUm11
import Derived.Test.YtamjcafjdioidaaUm12
import Derived.Test.YtamjcafjdioidaaUm13
import Derived.Test.YtamjcafjdioidaaUm14
import Derived.Test.YtamjcafjdioidaaUm15
import Derived.Test.YtamjcafjdioidaaUm16
import Derived.Test.YtamjcafjdioidaaUm17
import Derived.Test.YtamjcafjdioidaaUm18
import Derived.Test.YtamjcafjdioidaaUm19
import Derived.Test.YtamjcafjdioidaaUm20
import Derived.Test.YtamjcafjdioidaaUm21
import Derived.Test.YtamjcafjdioidaaUm22
import Derived.Test.YtamjcafjdioidaaUm23
import Derived.Test.YtamjcafjdioidaaUm24
import Derived.Test.YtamjcafjdioidaaUm25
import Derived.Test.YtamjcafjdioidaaUm26
import Derived.Test.YtamjcafjdioidaaUm27
import Derived.Test.YtamjcafjdioidaaUm28
import Derived.Test.YtamjcafjdioidaaUm29
import Derived.Test.YtamjcafjdioidaaUm30
import Derived.Test.YtamjcafjdioidaaUm31
import Derived.Test.YtamjcafjdioidaaUm32
import Derived.Test.YtamjcafjdioidaaUm33
import Derived.Test.YtamjcafjdioidaaUm34
import Derived.Test.YtamjcafjdioidaaUm35
import Derived.Test.YtamjcafjdioidaaUm36
import Derived.Test.YtamjcafjdioidaaUm37
import Derived.Test.YtamjcafjdioidaaUm38
import Derived.Test.YtamjcafjdioidaaUm39
import Derived.Test.YtamjcafjdioidaaUm40
import Derived.Test.YtamjcafjdioidaaUm41
import Derived.Test.YtamjcafjdioidaaUm42
import Derived.Test.YtamjcafjdioidaaUm43
import Derived.Test.YtamjcafjdioidaaUm44
import Derived.Test.YtamjcafjdioidaaUm45
import Derived.Test.YtamjcafjdioidaaUm46
import Derived.Test.YtamjcafjdioidaaUm47
import Derived.Test.YtamjcafjdioidaaUm48
import Derived.Test.YtamjcafjdioidaaUm49
namespace Go.Proofs.Ytamjcafjdioidaa
open Go.RowKit
set_option linter.unusedSimpArgs false
set_option linter.unusedVariables false
theorem mz_flat (bs : List (List Ins)) : mz bs ≤ bs.length + 2 * bs.flatten.length := by
 induction bs with
 | nil => simp [mz]
 | cons l bs ih =>
  rw [mz_cons, List.flatten_cons, List.length_append, List.length_cons]
  have : l.countP (fun x => x.op == 32) ≤ l.length := List.countP_le_length
  unfold wt
  omega
theorem predsAt_mem {succ : Int → List Int} {c p : Int} {n : Nat} : p ∈ predsAt succ c n ↔ 0 ≤ p ∧ p.toNat < n ∧ c ∈ succ p := by
 unfold predsAt
 rw [List.mem_map]
 constructor
 ·rintro ⟨x, hx, rfl⟩
  obtain ⟨h1, h2⟩ := List.mem_filter.1 hx
  have h3 := List.mem_range.1 h1
  exact ⟨Int.natCast_nonneg x, by simpa using h3, by simpa using h2⟩
 ·rintro ⟨h1, h2, h3⟩
  refine ⟨p.toNat, List.mem_filter.2 ⟨List.mem_range.2 h2, ?_⟩, ?_⟩
  ·rw [show ((p.toNat : Nat) : Int) = p by omega]; simpa using h3
  ·show Int.ofNat p.toNat = p
   rw [Int.ofNat_eq_natCast]
   omega
theorem predsAt_sorted (succ : Int → List Int) (c : Int) (n : Nat) : (predsAt succ c n).Pairwise (· < ·) := by
 unfold predsAt
 rw [List.pairwise_map]
 refine (List.Pairwise.filter _ List.pairwise_lt_range).imp fun {a b} h => ?_
 rw [Int.ofNat_eq_natCast, Int.ofNat_eq_natCast]
 omega
theorem fun_tinv {m : Mod} {f : Fun} (h : FunRight m f) (hs : Small f) : TInv f.blocks := by
 obtain ⟨hB, hF, -, -, hP, -⟩ := h
 obtain ⟨⟨hb1, hb2, hb3⟩, hblk⟩ := hB
 have hform : ∀ (b j : Nat) blk x, f.blocks[b]? = some blk → blk[j]? = some x → formedB f.ret x b = true := fun b j blk x hb hj => (allAt_iff.1 hF b j blk x hb hj).1
 have hmany : ∀ (b j : Nat) blk x, f.blocks[b]? = some blk → blk[j]? = some x → (manyS f.ret x).1 = x.args.length ∧ (manyS f.ret x).2 = x.to.length := fun b j blk x hb hj => by
  have := hform b j blk x hb hj
  unfold formedB at this
  simp only [Bool.and_eq_true, decide_eq_true_eq] at this
  exact this.1.1.1
 have hphi : ∀ (b j : Nat) blk x, f.blocks[b]? = some blk → blk[j]? = some x → x.op = 25 → b ≠ 0 ∧ x.to = predsAt (succsF f.blocks) b f.blocks.length ∧ AheadOk f b j := fun b j blk x hb hj ho => by
  obtain ⟨h1, h2, h3⟩ := allAt_iff.1 hP b j blk x hb hj ho b j rfl
  refine ⟨h1, ?_, h3⟩
  unfold predsL at h2
  rw [List.getElem?_map, List.getElem?_range (List.getElem?_eq_some_iff.1 hb).1] at h2
  exact (Option.some.inj h2).symm
 have hlast : ∀ (b : Nat) blk x, f.blocks[b]? = some blk → blk.getLast? = some x → blk[blk.length - 1]? = some x ∧ iends x.op = true ∧ (∀ (i : Nat) z, i + 1 < blk.length → blk[i]? = some z → iends z.op = false) ∧ ∀ t, t ∈ x.to → 1 ≤ t ∧ t < f.blocks.length := fun b blk x hb hx => by
  obtain ⟨y, h1, h2, h3, h4⟩ := hblk b blk hb
  rw [List.getLast?_eq_getElem?, h1] at hx
  cases hx
  exact ⟨h1, h2, h3, h4⟩
 have hloc : ∀ (c : Nat) l, f.blocks[c]? = some l → LInv f.blocks.length l := fun c l hl => by
  obtain ⟨y, hy1, hy2, hy3, hy4⟩ := hblk c l hl
  have hyl : l.getLast? = some y := by rw [List.getLast?_eq_getElem?]; exact hy1
  have hyop : 31 ≤ y.op ∧ y.op ≤ 34 := by simpa [iends] using hy2
  have hne : l ≠ [] := fun e => by rw [e] at hy1; simp at hy1
  have hat : ∀ x, x ∈ l → ∃ j, l[j]? = some x := fun x hx => List.mem_iff_getElem?.1 hx
  have hto0 : ∀ (j : Nat) x, l[j]? = some x → x.op ≠ 25 → x.op ≠ 31 → x.op ≠ 32 → x.to = [] := fun j x hj h1 h2 h3 => by
   obtain ⟨-, h4⟩ := hmany c j l x hl hj
   refine List.eq_nil_of_length_eq_zero ?_
   unfold manyS at h4
   rw [if_neg h1, if_neg h2, if_neg h3] at h4
   split at h4
   ·simp at h4 <;> omega
   ·split at h4
    ·simp at h4 <;> omega
    ·split at h4
     ·simp at h4 <;> omega
     ·split at h4
      ·simp at h4 <;> omega
      ·split at h4
       ·split at h4 <;> (simp at h4 <;> omega)
       ·split at h4
        ·simp at h4 <;> omega
        ·simp at h4 <;> omega
  have hfr : Fronts l := fun i j x z hi hj hij ho => by
   by_cases e : i = j
   ·subst e
    rw [hi] at hj
    cases hj
    exact ho
   ·exact (hphi c j l z hl hj ho).2.2 l hl i x (by omega) hi
  have hmidop : ∀ (i : Nat) z, i + 1 < l.length → l[i]? = some z → z.op ≠ 31 ∧ z.op ≠ 32 := fun i z hi hz => by
   have := hy3 i z hi hz
   unfold iends at this
   simp only [decide_eq_false_iff_not] at this
   constructor <;> (intro e; exact this (by omega))
  have hto : ∀ x, x ∈ l → ∀ t, t ∈ x.to → 0 ≤ t ∧ t < f.blocks.length := fun x hx t ht => by
   obtain ⟨j, hj⟩ := hat x hx
   by_cases h25 : x.op = 25
   ·rw [(hphi c j l x hl hj h25).2.1, predsAt_mem] at ht
    omega
   ·by_cases hj1 : j + 1 < l.length
    ·obtain ⟨h1, h2⟩ := hmidop j x hj1 hj
     rw [hto0 j x hj h25 h1 h2] at ht
     cases ht
    ·have hjl := (List.getElem?_eq_some_iff.1 hj).1
     rw [show j = l.length - 1 by omega, hy1] at hj
     cases hj
     have := hy4 t ht
     omega
  refine ⟨⟨hne, fun x hx ho => ?_, fun x hx ho => ?_, fun x hx ho => ?_, hto⟩, hfr, fun i x hi hil => ?_, fun x hx => ?_, fun x hx ho => ?_, fun x hx => ?_⟩
  ·obtain ⟨j, hj⟩ := hat x hx
   obtain ⟨h1, h2⟩ := hmany c j l x hl hj
   unfold manyS at h1 h2
   rw [ho] at h1 h2
   simp at h1 h2
   omega
  ·obtain ⟨j, hj⟩ := hat x hx
   obtain ⟨h1, h2⟩ := hmany c j l x hl hj
   unfold manyS at h1 h2
   rw [ho] at h1 h2
   simp at h1 h2
   omega
  ·obtain ⟨j, hj⟩ := hat x hx
   obtain ⟨h1, h2⟩ := hmany c j l x hl hj
   unfold manyS at h1 h2
   rw [ho] at h1 h2
   simp at h1 h2
   omega
  ·by_cases h25 : x.op = 25
   ·exact .inl h25
   ·right
    obtain ⟨h1, h2⟩ := hmidop i x hil hi
    exact hto0 i x hi h25 h1 h2
  ·rw [hyl] at hx
   cases hx
   refine ⟨by omega, ?_, fun t ht => (hy4 t ht).1⟩
   by_cases h1 : y.op = 31
   ·exact .inl h1
   ·by_cases h2 : y.op = 32
    ·exact .inr (.inl h2)
    ·exact .inr (.inr (hto0 _ y hy1 (by omega) h1 h2))
  ·obtain ⟨j, hj⟩ := hat x hx
   rw [(hphi c j l x hl hj ho).2.1]
   exact predsAt_sorted _ _ _
  ·exact (hs.code l (List.mem_of_getElem? hl)).2 x hx
 refine ⟨by omega, by have := mz_flat f.blocks; omega, hloc, fun c l hl x hx ho => ?_⟩
 obtain ⟨j, hj⟩ := List.mem_iff_getElem?.1 hx
 have hcl := (List.getElem?_eq_some_iff.1 hl).1
 obtain ⟨h1, h2, -⟩ := hphi c j l x hl hj ho
 refine ⟨h1, fun p => ?_⟩
 rw [h2, predsAt_mem]
 constructor
 ·rintro ⟨p0, p1, p2⟩
  refine ⟨p0, (endTo_succ ⟨by omega, by omega⟩).2 ?_⟩
  rw [show ((p.toNat : Nat) : Int) = p by omega]
  exact p2
 ·rintro ⟨p0, p1⟩
  refine ⟨p0, endTo_lt p1, ?_⟩
  have := (endTo_succ ⟨by omega, by omega⟩).1 p1
  rwa [show ((p.toNat : Nat) : Int) = p by omega] at this
def retB : List Ins := [⟨33, -1, 0, 0, 0, [], []⟩]
def livesT : List (List Ins) := [[⟨31, -1, 0, 0, 0, [], [1]⟩], retB]
def livesTF : Fun := ⟨⟨#[102]⟩, [], 0, livesT⟩
theorem livesT_s0 : succsF livesT 0 = [1] := by decide
theorem livesT_s1 : succsF livesT 1 = [] := by decide
theorem livesT_reach : reachF livesT = [true, true] := by
 have ho : orderF livesT = [0, 1] := by
  unfold orderF
  rw [if_neg (by decide), livesT_s0, dfs_push (by decide), livesT_s1, dfs_pop, dfs_pop, dfs_nil]
  rfl
 unfold reachF
 rw [ho]
 rfl
theorem retB_s0 : succsF [retB] 0 = [] := by decide
theorem retB_reach : reachF [retB] = [true] := by
 have ho : orderF [retB] = [0] := by
  unfold orderF
  rw [if_neg (by decide), retB_s0, dfs_pop, dfs_nil]
  rfl
 unfold reachF
 rw [ho]
 rfl
theorem livesT_step : stepS livesT = some [retB] := by
 rw [stepS_cases, livesT_reach]
 have e0 : decidedS [true, true] livesT = none := by decide
 have e1 : twiceS [true, true] livesT = none := by decide
 have e2 : singleS [true, true] livesT = none := by decide
 have e3 : unseenS [true, true] livesT = none := by decide
 have e4 : mergedS (predsL (succsF livesT) livesT.length) livesT = some [retB] := by decide
 rw [e0, e1, e2, e3, e4]
 rfl
theorem retB_step : stepS [retB] = none := by
 rw [stepS_cases, retB_reach]
 have e0 : decidedS [true] [retB] = none := by decide
 have e1 : twiceS [true] [retB] = none := by decide
 have e2 : singleS [true] [retB] = none := by decide
 have e3 : unseenS [true] [retB] = none := by decide
 have e4 : mergedS (predsL (succsF [retB]) [retB].length) [retB] = none := by decide
 rw [e0, e1, e2, e3, e4]
 rfl
end Go.Proofs.Ytamjcafjdioidaa

namespace Go.Proofs.Ytamjcafjdioidaa
open Go.RowKit
theorem fz_succ {bs : List (List Ins)} {k : Nat} {x : List Ins} (h : bs[k]? = some x) : (bs.take (k + 1)).flatten.length = (bs.take k).flatten.length + x.length := by
 rw [take_snoc h, List.flatten_append, List.length_append]
 simp only [List.flatten_cons, List.flatten_nil, List.append_nil]
theorem fz_le (bs : List (List Ins)) (k : Nat) : (bs.take k).flatten.length ≤ bs.flatten.length := by
 have h : (bs.take k).flatten ++ (bs.drop k).flatten = bs.flatten := by rw [← List.flatten_append, List.take_append_drop]
 rw [← h, List.length_append]
 omega
set_option maxHeartbeats 400000 in
theorem isz_any (f : Fun) (c1 c2 : Value) (w : World) (B : Nat) (hB : B ≤ w.heap.size) (hp : RInts.rep w B [c1] f.params) (hb : RBlks.rep w B [c2] f.blocks) (hsz : f.blocks.flatten.length ≤ 1000000000000) :
  Calls Try.prog 17 #[f.v c1 c2] w fun e w' => e = .returned (.int .i64 (f.blocks.flatten.length : Int)) ∧ Below w.heap.size w w' := by
 obtain ⟨A1, k1, h1, hm1, -⟩ := Rp.slice1_open hp
 obtain ⟨A2, k2, h2, hm2, gb⟩ := Rp.slice1_open (RBlks.later hb (Below.refl _ _) hB)
 cases h1; cases h2
 replace gb := hide gb
 clear hp hb
 go_enter Try.func17, Try.ntmps17
 go_wp2
 obtain ⟨W, hW, hwW, hWs, hx⟩ := boxes1 w #[.string f.name, .slice A1 f.params.length k1, .int .i64 f.ret, .slice A2 f.blocks.length k2] 32
 rw [hW]
 clear hW hx
 have hsz2 : w.heap.size ≤ W.heap.size := by omega
 replace hWs := hide hWs
 go_loopw [3, 9] (fun n i wr => ∃ (k m : Nat), k ≤ f.blocks.length ∧ i = .int .i64 k ∧ n = .int .i64 m ∧ Hid (m = (f.blocks.take k).flatten.length) ∧ Below W.heap.size W wr) (fun _ i _ => f.blocks.length - (intOf i).toNat)
 case atStart => exact ⟨0, 0, Nat.zero_le _, rfl, rfl, hide (by simp), Below.refl _ _⟩
 case round =>
  obtain ⟨k, m, hk, rfl, rfl, hm, hbel⟩ := hrel
  by_cases hlt : k < f.blocks.length
  ·obtain ⟨b1, o1, rfl, he1⟩ := gb.out (by omega)
   obtain ⟨x, hx⟩ := get_ex hlt
   obtain ⟨d1, hr1, hd1⟩ := he1 k x hx.out
   obtain ⟨A3, c3, h3, hm3, -⟩ := Rp.slice_open hr1
   cases h3
   have hd1' : ∀ w', Below W.heap.size W w' → w'.cell? ⟨b1, o1 + k, none⟩ = some (.slice A3 x.length c3) := fun w' h => hd1 w' (hwW.trans (h.mono hsz2))
   clear hd1 hr1 he1
   have hmx : m + x.length ≤ 1000000000000 := by
    have h1 := fz_succ hx.out
    have h2 := fz_le f.blocks (k + 1)
    have h3 := hm.out
    omega
   have hm2' : Hid (m + x.length = (f.blocks.take (k + 1)).flatten.length) := hide (by rw [fz_succ hx.out, hm.out])
   go_wp2
   go_roundw
   case rel => exact ⟨k + 1, m + x.length, hlt, by go_num, by go_num, hm2', hbel.alloc hbel.size _⟩
   case measure => simp [intOf]; omega
  ·have hfin : Hid (m = f.blocks.flatten.length) := hide (by rw [hm.out, List.take_of_length_le (by omega)])
   go_wp2
   go_ret
   exact ⟨ret_int (by rw [hfin.out]), hwW.trans (hbel.mono hsz2)⟩
end Go.Proofs.Ytamjcafjdioidaa

namespace Go.Proofs.Ytamjcafjdioidaa
open Go.RowKit Go.ChangeShapes Go.WideShapes Go.Deep
theorem cells_Var : Try.prog.cellsOf 109 = 2 := by kernel_rfl
theorem cells_Vars : Try.prog.cellsOf 22 = 1 := by kernel_rfl
theorem cells_Extern : Try.prog.cellsOf 84 = 3 := by kernel_rfl
theorem cells_Externs : Try.prog.cellsOf 23 = 1 := by kernel_rfl
theorem cells_Funcs : Try.prog.cellsOf 24 = 1 := by kernel_rfl
theorem cells_Module : Try.prog.cellsOf 26 = 3 := by kernel_rfl
def extSz (x : Ext) : Nat := x.params.length + 1
def extsSz (l : List Ext) : Nat := (l.map extSz).sum + 1
def funsSz (l : List Fun) : Nat := (l.map funSz).sum + 1
def modSz (m : Mod) : Nat := m.vars.length + extsSz m.exts + funsSz m.funcs
theorem opens_Var : Opens 109 RVr (fun _ => 1) := by
 intro H enc w base spare held fuel cs x h
 obtain ⟨xs, k, _, rfl, hl, hlen, hf⟩ := DataW.trod_struct Try.underlying109 h
 obtain ⟨c0, c1, rfl⟩ := len2 (hl.trans cells_Var)
 obtain ⟨y0, y1, rfl⟩ := len2 (hlen.trans rfl)
 obtain ⟨s, e0, _, hs⟩ := DataW.trod_string Try.underlying9 (hf 0 _ rfl)
 obtain ⟨n1, e1, _, w1⟩ := DataW.trod_int Try.underlying3 (hf 1 _ rfl)
 simp [cells_int, cells_string] at e0 e1
 subst e0 e1
 exact ⟨⟨s, n1⟩, ⟨rfl, w1, hs⟩, bulk_one _⟩
theorem opens_Vars : Opens 22 RVrs (fun l => l.length + 1) := by
 have := opens_slice Try.underlying22 cells_Var (by omega) opens_Var
 simp only [sum_ones] at this
 exact this
theorem opens_Extern : Opens 84 RExt extSz := by
 intro H enc w base spare held fuel cs x h
 obtain ⟨xs, k, _, rfl, hl, hlen, hf⟩ := DataW.trod_struct Try.underlying84 h
 obtain ⟨c0, c1, c2, rfl⟩ := len3 (hl.trans cells_Extern)
 obtain ⟨y0, y1, y2, rfl⟩ := len3 (hlen.trans rfl)
 obtain ⟨s, e0, _, hs⟩ := DataW.trod_string Try.underlying9 (hf 0 _ rfl)
 obtain ⟨l1, r1, m1⟩ := opens_Ints _ _ _ _ _ _ _ _ _ (hf 1 _ rfl)
 obtain ⟨n2, e2, _, w2⟩ := DataW.trod_int Try.underlying3 (hf 2 _ rfl)
 simp [cells_int, cells_string, cells_Ints] at e0 r1 e2
 subst e0 e2
 refine ⟨⟨s, l1, n2⟩, ⟨c1, rfl, r1, w2, hs⟩, ?_⟩
 simp only [extSz, List.map_cons, List.map_nil, Rows.uptoBulk, Rows.uptoBulkAll] at *
 omega
theorem opens_Externs : Opens 23 RExts extsSz := opens_slice Try.underlying23 cells_Extern (by omega) opens_Extern
theorem opens_Funcs : Opens 24 RFuns funsSz := opens_slice Try.underlying24 cells_Func (by omega) opens_Func
theorem opens_Module : Opens 26 RMod modSz := by
 intro H enc w base spare held fuel cs x h
 obtain ⟨xs, k, _, rfl, hl, hlen, hf⟩ := DataW.trod_struct Try.underlying26 h
 obtain ⟨c0, c1, c2, rfl⟩ := len3 (hl.trans cells_Module)
 obtain ⟨y0, y1, y2, rfl⟩ := len3 (hlen.trans rfl)
 obtain ⟨l0, r0, m0⟩ := opens_Vars _ _ _ _ _ _ _ _ _ (hf 0 _ rfl)
 obtain ⟨l1, r1, m1⟩ := opens_Externs _ _ _ _ _ _ _ _ _ (hf 1 _ rfl)
 obtain ⟨l2, r2, m2⟩ := opens_Funcs _ _ _ _ _ _ _ _ _ (hf 2 _ rfl)
 simp [cells_Vars, cells_Externs, cells_Funcs] at r0 r1 r2
 refine ⟨⟨l0, l1, l2⟩, ⟨c0, c1, c2, rfl, r0, r1, r2⟩, ?_⟩
 simp only [modSz, List.map_cons, List.map_nil, Rows.uptoBulk, Rows.uptoBulkAll] at *
 omega
theorem fun_le {m : Mod} {f : Fun} {K : Nat} (hf : f ∈ m.funcs) (h : modSz m ≤ K) : funSz f ≤ K := by
 unfold modSz funsSz at h
 have h3 := sum_mem funSz m.funcs f hf
 omega
end Go.Proofs.Ytamjcafjdioidaa
