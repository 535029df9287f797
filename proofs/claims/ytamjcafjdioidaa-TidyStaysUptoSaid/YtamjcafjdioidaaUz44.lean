/- Texts of the chain, without what is not wanted: TdX, TdSe, Sz, IrCe, TdY. No condition but sizes. -/
import Derived.WalkKit
import Derived.Deep.Slices
import Derived.Deep.Draws
import Derived.ChangeSame
import Derived.ChangeOld
import Derived.OwnWalk
import Derived.Laws.OwnMore
import Derived.Deep.AppendLies
import Derived.Test.YtamjcafjdioidaaRows
import Derived.ProofKit
import Derived.OpenShut
import Derived.JoinedCond
import Derived.WalkSpells
import Derived.WalkLawsBesides
import Derived.Deep.RegionHeld3
import Derived.Deep.LoopGhost
import Derived.Deep.QuietTactic
import Derived.BigQuiet
import Derived.Deep.DeepCutAuto
import Derived.Deep.CutBlock
import Derived.StillTailTactics
import Derived.Deep.RegionLaw
import Derived.Lib.SliceRun
import Derived.Laws.IdiomCopy
import Derived.Deep.MidRow
import Derived.Lib.Overlaps
import Derived.RegionTactic
import Derived.Deep.RegionLawGrows
import Derived.Laws.Externs
import Derived.Laws.Bits64b
import Derived.Lib.Mul64
import Derived.Test.YtamjcafjdioidaaUz01
import Derived.Test.YtamjcafjdioidaaUz02
import Derived.Test.YtamjcafjdioidaaUz03
import Derived.Test.YtamjcafjdioidaaUz04
import Derived.Test.YtamjcafjdioidaaUz05
import Derived.Test.YtamjcafjdioidaaUz06
import Derived.Test.YtamjcafjdioidaaUz07
import Derived.Test.YtamjcafjdioidaaUz08
import Derived.Test.YtamjcafjdioidaaUz09
import Derived.Test.YtamjcafjdioidaaUz10
import Derived.Test.YtamjcafjdioidaaUz11
import Derived.Test.YtamjcafjdioidaaUz12
import Derived.Test.YtamjcafjdioidaaUz13
import Derived.Test.YtamjcafjdioidaaUz14
import Derived.Test.YtamjcafjdioidaaUz15
import Derived.Test.YtamjcafjdioidaaUz16
import Derived.Test.YtamjcafjdioidaaUz17
import Derived.Test.YtamjcafjdioidaaUz18
import Derived.Test.YtamjcafjdioidaaUz19
import Derived.Test.YtamjcafjdioidaaUz20
import Derived.Test.YtamjcafjdioidaaUz21
import Derived.Test.YtamjcafjdioidaaUz22
import Derived.Test.YtamjcafjdioidaaUz23
import Derived.Test.YtamjcafjdioidaaUz24
import Derived.Test.YtamjcafjdioidaaUz25
import Derived.Test.YtamjcafjdioidaaUz26
import Derived.Test.YtamjcafjdioidaaUz27
import Derived.Test.YtamjcafjdioidaaUz28
import Derived.Test.YtamjcafjdioidaaUz29
import Derived.Test.YtamjcafjdioidaaUz30
import Derived.Test.YtamjcafjdioidaaUz31
import Derived.Test.YtamjcafjdioidaaUz32
import Derived.Test.YtamjcafjdioidaaUz33
import Derived.Test.YtamjcafjdioidaaUz34
import Derived.Test.YtamjcafjdioidaaUz35
import Derived.Test.YtamjcafjdioidaaUz36
import Derived.Test.YtamjcafjdioidaaUz37
import Derived.Test.YtamjcafjdioidaaUz38
import Derived.Test.YtamjcafjdioidaaUz39
import Derived.Test.YtamjcafjdioidaaUz40
import Derived.Test.YtamjcafjdioidaaUz41
import Derived.Test.YtamjcafjdioidaaUz42
import Derived.Test.YtamjcafjdioidaaUz43
namespace Go.Proofs.Ytamjcafjdioidaa
open Go.RowKit
set_option linter.unusedSimpArgs false
set_option linter.unusedVariables false
theorem mz_flat (bs : List (List Ins)) : mz bs ≤ bs.length + 2 * bs.flatten.length := by
 induction bs with
 | nil => simp [mz]
 | cons l bs ih =>
  rw [mz_cons, List.flatten_cons, List.length_append, List.length_cons]
  have : l.countP (fun x => x.op == 32) ≤ l.length := List.countP_le_length
  unfold wt
  omega
theorem predsAt_mem {succ : Int → List Int} {c p : Int} {n : Nat} : p ∈ predsAt succ c n ↔ 0 ≤ p ∧ p.toNat < n ∧ c ∈ succ p := by
 unfold predsAt
 rw [List.mem_map]
 constructor
 ·rintro ⟨x, hx, rfl⟩
  obtain ⟨h1, h2⟩ := List.mem_filter.1 hx
  have h3 := List.mem_range.1 h1
  exact ⟨Int.natCast_nonneg x, by simpa using h3, by simpa using h2⟩
 ·rintro ⟨h1, h2, h3⟩
  refine ⟨p.toNat, List.mem_filter.2 ⟨List.mem_range.2 h2, ?_⟩, ?_⟩
  ·rw [show ((p.toNat : Nat) : Int) = p by omega]; simpa using h3
  ·show Int.ofNat p.toNat = p
   rw [Int.ofNat_eq_natCast]
   omega
theorem predsAt_sorted (succ : Int → List Int) (c : Int) (n : Nat) : (predsAt succ c n).Pairwise (· < ·) := by
 unfold predsAt
 rw [List.pairwise_map]
 refine (List.Pairwise.filter _ List.pairwise_lt_range).imp fun {a b} h => ?_
 rw [Int.ofNat_eq_natCast, Int.ofNat_eq_natCast]
 omega
theorem fun_tinv {m : Mod} {f : Fun} (h : FunRight m f) (hs : Small f) : TInv f.blocks := by
 obtain ⟨hB, hF, -, -, hP, -⟩ := h
 obtain ⟨⟨hb1, hb2, hb3⟩, hblk⟩ := hB
 have hform : ∀ (b j : Nat) blk x, f.blocks[b]? = some blk → blk[j]? = some x → formedB f.ret x b = true := fun b j blk x hb hj => (allAt_iff.1 hF b j blk x hb hj).1
 have hmany : ∀ (b j : Nat) blk x, f.blocks[b]? = some blk → blk[j]? = some x → (manyS f.ret x).1 = x.args.length ∧ (manyS f.ret x).2 = x.to.length := fun b j blk x hb hj => by
  have := hform b j blk x hb hj
  unfold formedB at this
  simp only [Bool.and_eq_true, decide_eq_true_eq] at this
  exact this.1.1.1
 have hphi : ∀ (b j : Nat) blk x, f.blocks[b]? = some blk → blk[j]? = some x → x.op = 25 → b ≠ 0 ∧ x.to = predsAt (succsF f.blocks) b f.blocks.length ∧ AheadOk f b j := fun b j blk x hb hj ho => by
  obtain ⟨h1, h2, h3⟩ := allAt_iff.1 hP b j blk x hb hj ho b j rfl
  refine ⟨h1, ?_, h3⟩
  unfold predsL at h2
  rw [List.getElem?_map, List.getElem?_range (List.getElem?_eq_some_iff.1 hb).1] at h2
  exact (Option.some.inj h2).symm
 have hlast : ∀ (b : Nat) blk x, f.blocks[b]? = some blk → blk.getLast? = some x → blk[blk.length - 1]? = some x ∧ iends x.op = true ∧ (∀ (i : Nat) z, i + 1 < blk.length → blk[i]? = some z → iends z.op = false) ∧ ∀ t, t ∈ x.to → 1 ≤ t ∧ t < f.blocks.length := fun b blk x hb hx => by
  obtain ⟨y, h1, h2, h3, h4⟩ := hblk b blk hb
  rw [List.getLast?_eq_getElem?, h1] at hx
  cases hx
  exact ⟨h1, h2, h3, h4⟩
 have hloc : ∀ (c : Nat) l, f.blocks[c]? = some l → LInv f.blocks.length l := fun c l hl => by
  obtain ⟨y, hy1, hy2, hy3, hy4⟩ := hblk c l hl
  have hyl : l.getLast? = some y := by rw [List.getLast?_eq_getElem?]; exact hy1
  have hyop : 31 ≤ y.op ∧ y.op ≤ 34 := by simpa [iends] using hy2
  have hne : l ≠ [] := fun e => by rw [e] at hy1; simp at hy1
  have hat : ∀ x, x ∈ l → ∃ j, l[j]? = some x := fun x hx => List.mem_iff_getElem?.1 hx
  have hto0 : ∀ (j : Nat) x, l[j]? = some x → x.op ≠ 25 → x.op ≠ 31 → x.op ≠ 32 → x.to = [] := fun j x hj h1 h2 h3 => by
   obtain ⟨-, h4⟩ := hmany c j l x hl hj
   refine List.eq_nil_of_length_eq_zero ?_
   unfold manyS at h4
   rw [if_neg h1, if_neg h2, if_neg h3] at h4
   split at h4
   ·simp at h4 <;> omega
   ·split at h4
    ·simp at h4 <;> omega
    ·split at h4
     ·simp at h4 <;> omega
     ·split at h4
      ·simp at h4 <;> omega
      ·split at h4
       ·split at h4 <;> (simp at h4 <;> omega)
       ·split at h4
        ·simp at h4 <;> omega
        ·simp at h4 <;> omega
  have hfr : Fronts l := fun i j x z hi hj hij ho => by
   by_cases e : i = j
   ·subst e
    rw [hi] at hj
    cases hj
    exact ho
   ·exact (hphi c j l z hl hj ho).2.2 l hl i x (by omega) hi
  have hmidop : ∀ (i : Nat) z, i + 1 < l.length → l[i]? = some z → z.op ≠ 31 ∧ z.op ≠ 32 := fun i z hi hz => by
   have := hy3 i z hi hz
   unfold iends at this
   simp only [decide_eq_false_iff_not] at this
   constructor <;> (intro e; exact this (by omega))
  have hto : ∀ x, x ∈ l → ∀ t, t ∈ x.to → 0 ≤ t ∧ t < f.blocks.length := fun x hx t ht => by
   obtain ⟨j, hj⟩ := hat x hx
   by_cases h25 : x.op = 25
   ·rw [(hphi c j l x hl hj h25).2.1, predsAt_mem] at ht
    omega
   ·by_cases hj1 : j + 1 < l.length
    ·obtain ⟨h1, h2⟩ := hmidop j x hj1 hj
     rw [hto0 j x hj h25 h1 h2] at ht
     cases ht
    ·have hjl := (List.getElem?_eq_some_iff.1 hj).1
     rw [show j = l.length - 1 by omega, hy1] at hj
     cases hj
     have := hy4 t ht
     omega
  refine ⟨⟨hne, fun x hx ho => ?_, fun x hx ho => ?_, fun x hx ho => ?_, hto⟩, hfr, fun i x hi hil => ?_, fun x hx => ?_, fun x hx ho => ?_, fun x hx => ?_⟩
  ·obtain ⟨j, hj⟩ := hat x hx
   obtain ⟨h1, h2⟩ := hmany c j l x hl hj
   unfold manyS at h1 h2
   rw [ho] at h1 h2
   simp at h1 h2
   omega
  ·obtain ⟨j, hj⟩ := hat x hx
   obtain ⟨h1, h2⟩ := hmany c j l x hl hj
   unfold manyS at h1 h2
   rw [ho] at h1 h2
   simp at h1 h2
   omega
  ·obtain ⟨j, hj⟩ := hat x hx
   obtain ⟨h1, h2⟩ := hmany c j l x hl hj
   unfold manyS at h1 h2
   rw [ho] at h1 h2
   simp at h1 h2
   omega
  ·by_cases h25 : x.op = 25
   ·exact .inl h25
   ·right
    obtain ⟨h1, h2⟩ := hmidop i x hil hi
    exact hto0 i x hi h25 h1 h2
  ·rw [hyl] at hx
   cases hx
   refine ⟨by omega, ?_, fun t ht => (hy4 t ht).1⟩
   by_cases h1 : y.op = 31
   ·exact .inl h1
   ·by_cases h2 : y.op = 32
    ·exact .inr (.inl h2)
    ·exact .inr (.inr (hto0 _ y hy1 (by omega) h1 h2))
  ·obtain ⟨j, hj⟩ := hat x hx
   rw [(hphi c j l x hl hj ho).2.1]
   exact predsAt_sorted _ _ _
  ·exact (hs.code l (List.mem_of_getElem? hl)).2 x hx
 refine ⟨by omega, by have := mz_flat f.blocks; omega, hloc, fun c l hl x hx ho => ?_⟩
 obtain ⟨j, hj⟩ := List.mem_iff_getElem?.1 hx
 have hcl := (List.getElem?_eq_some_iff.1 hl).1
 obtain ⟨h1, h2, -⟩ := hphi c j l x hl hj ho
 refine ⟨h1, fun p => ?_⟩
 rw [h2, predsAt_mem]
 constructor
 ·rintro ⟨p0, p1, p2⟩
  refine ⟨p0, (endTo_succ ⟨by omega, by omega⟩).2 ?_⟩
  rw [show ((p.toNat : Nat) : Int) = p by omega]
  exact p2
 ·rintro ⟨p0, p1⟩
  refine ⟨p0, endTo_lt p1, ?_⟩
  have := (endTo_succ ⟨by omega, by omega⟩).1 p1
  rwa [show ((p.toNat : Nat) : Int) = p by omega] at this
def retB : List Ins := [⟨33, -1, 0, 0, 0, [], []⟩]
def livesT : List (List Ins) := [[⟨31, -1, 0, 0, 0, [], [1]⟩], retB]
def livesTF : Fun := ⟨⟨#[102]⟩, [], 0, livesT⟩
theorem livesT_s0 : succsF livesT 0 = [1] := by decide
theorem livesT_s1 : succsF livesT 1 = [] := by decide
theorem livesT_reach : reachF livesT = [true, true] := by
 have ho : orderF livesT = [0, 1] := by
  unfold orderF
  rw [if_neg (by decide), livesT_s0, dfs_push (by decide), livesT_s1, dfs_pop, dfs_pop, dfs_nil]
  rfl
 unfold reachF
 rw [ho]
 rfl
theorem retB_s0 : succsF [retB] 0 = [] := by decide
theorem retB_reach : reachF [retB] = [true] := by
 have ho : orderF [retB] = [0] := by
  unfold orderF
  rw [if_neg (by decide), retB_s0, dfs_pop, dfs_nil]
  rfl
 unfold reachF
 rw [ho]
 rfl
theorem livesT_step : stepS livesT = some [retB] := by
 rw [stepS_cases, livesT_reach]
 have e0 : decidedS [true, true] livesT = none := by decide
 have e1 : twiceS [true, true] livesT = none := by decide
 have e2 : singleS [true, true] livesT = none := by decide
 have e3 : unseenS [true, true] livesT = none := by decide
 have e4 : mergedS (predsL (succsF livesT) livesT.length) livesT = some [retB] := by decide
 rw [e0, e1, e2, e3, e4]
 rfl
theorem retB_step : stepS [retB] = none := by
 rw [stepS_cases, retB_reach]
 have e0 : decidedS [true] [retB] = none := by decide
 have e1 : twiceS [true] [retB] = none := by decide
 have e2 : singleS [true] [retB] = none := by decide
 have e3 : unseenS [true] [retB] = none := by decide
 have e4 : mergedS (predsL (succsF [retB]) [retB].length) [retB] = none := by decide
 rw [e0, e1, e2, e3, e4]
 rfl
end Go.Proofs.Ytamjcafjdioidaa

namespace Go.Proofs.Ytamjcafjdioidaa
set_option linter.unusedVariables false
set_option linter.unusedSimpArgs false
theorem pth_avoid {bs : List (List Ins)} (hT : TInv bs) {d : Nat} {π : List Nat} (h : Pth bs π) : d ∉ π → ∀ p ρ, π = p :: ρ → RchW (succsF bs) (d : Int) (p : Int) := by
 induction h with
 | start =>
  intro hn p ρ e
  cases e
  refine .start fun e => hn ?_
  have : d = 0 := by omega
  rw [this]; exact List.mem_cons_self ..
 | @step p c ρ g1 g2 ih =>
  intro hn c9 ρ9 e
  cases e
  have h1 := ih (fun hm => hn (List.mem_cons_of_mem _ hm)) p ρ rfl
  obtain ⟨k1, -⟩ := Pth.reached hT (.step g1 g2) c (p :: ρ) rfl
  refine .step h1 ((endTo_succ ⟨by omega, by omega⟩).1 g2) fun e => hn ?_
  have : d = c := by omega
  rw [this]; exact List.mem_cons_self ..
theorem fun_sinv {m : Mod} {f : Fun} (h : FunRight m f) (hT : TInv f.blocks) : SInv f.blocks := by
 obtain ⟨-, hF, hR, hO, -, hS⟩ := h
 have hnum : ∀ (b j k : Nat) blk x a, f.blocks[b]? = some blk → blk[j]? = some x → x.args[k]? = some a → a.kind = 1 → 0 ≤ a.num ∧ typeS f a.num ≠ 0 := fun b j k blk x a hb hj hk h1 => by
  have h2 := allAt_iff.1 hO b j blk x hb hj k a hk
  unfold OpdOk at h2
  rw [if_pos h1] at h2
  refine ⟨?_, h2.2.2.1⟩
  rcases Int.lt_or_le a.num 0 with h3 | h3
  ·exfalso
   apply h2.2.2.1
   unfold typeS
   rw [if_pos h3]
  ·exact h3
 refine ⟨fun l x a hl hx ha hk => ?_, fun c p π hp l x a hl hx ho hq hk d hd => ?_⟩
 ·obtain ⟨b, hb⟩ := List.mem_iff_getElem?.1 hl
  obtain ⟨j, hj⟩ := List.mem_iff_getElem?.1 hx
  obtain ⟨k, hk9⟩ := List.mem_iff_getElem?.1 ha
  exact (hnum b j k l x a hb hj hk9 hk).1
 ·obtain ⟨j, hj⟩ := List.mem_iff_getElem?.1 hx
  obtain ⟨k, hk9⟩ := List.mem_iff_getElem?.1 hq
  unfold takes at hk9
  rw [List.getElem?_zip_eq_some] at hk9
  obtain ⟨ht, ha⟩ := hk9
  obtain ⟨hn0, -⟩ := hnum c j k l x a hl hj ha hk
  obtain ⟨l1, z, k1, k2, k3⟩ := hd
  obtain ⟨j1, hj1⟩ := List.mem_iff_getElem?.1 k2
  have hform := (allAt_iff.1 hF d j1 l1 z k1 hj1).1
  have hres : iresult z.op z.ty ≠ 0 := fun e => by
   simp only [formedB, Bool.and_eq_true, decide_eq_true_eq] at hform
   have := hform.1.1.2.1 e
   omega
  obtain ⟨hpar, hdef⟩ : (f.params.length : Int) ≤ z.reg ∧ IsDef f.blocks z.reg d j1 := by
   rcases allAt_iff.1 hR d j1 l1 z k1 hj1 with h1 | ⟨h1, -, b', j', h3, h4⟩
   ·exact (hres h1).elim
   ·cases h3
    exact ⟨h1, h4⟩
  rw [k3] at hpar hdef
  obtain ⟨hcl, hcr⟩ := Pth.reached hT hp c (p :: π) rfl
  have hpp : Pth f.blocks (p :: π) := by cases hp with | step g1 _ => exact g1
  obtain ⟨hpl, hpr⟩ := Pth.reached hT hpp p π rfl
  have hco : (c : Int) ∈ orderF f.blocks := ((order_ok f.blocks).mem _).2 ⟨hT.pos, hcr⟩
  have hpo : (p : Int) ∈ orderF f.blocks := ((order_ok f.blocks).mem _).2 ⟨hT.pos, hpr⟩
  have h9 := allAt_iff.1 hS c j l x hl hj c j rfl hco k a ha hk hpar d j1 hdef
  rw [if_pos ho] at h9
  have h8 := domB_iff.1 (h9 p ht hpo)
  rcases Decidable.em (d ∈ p :: π) with e | e
  ·exact e
  ·exact absurd (pth_avoid hT hpp e p π rfl) h8.2.2
end Go.Proofs.Ytamjcafjdioidaa

namespace Go.Proofs.Ytamjcafjdioidaa
open Go.RowKit
theorem fz_succ {bs : List (List Ins)} {k : Nat} {x : List Ins} (h : bs[k]? = some x) : (bs.take (k + 1)).flatten.length = (bs.take k).flatten.length + x.length := by
 rw [take_snoc h, List.flatten_append, List.length_append]
 simp only [List.flatten_cons, List.flatten_nil, List.append_nil]
theorem fz_le (bs : List (List Ins)) (k : Nat) : (bs.take k).flatten.length ≤ bs.flatten.length := by
 have h : (bs.take k).flatten ++ (bs.drop k).flatten = bs.flatten := by rw [← List.flatten_append, List.take_append_drop]
 rw [← h, List.length_append]
 omega
set_option maxHeartbeats 400000 in
theorem isz_any (f : Fun) (c1 c2 : Value) (w : World) (B : Nat) (hB : B ≤ w.heap.size) (hp : RInts.rep w B [c1] f.params) (hb : RBlks.rep w B [c2] f.blocks) (hsz : f.blocks.flatten.length ≤ 1000000000000) :
  Calls Try.prog 17 #[f.v c1 c2] w fun e w' => e = .returned (.int .i64 (f.blocks.flatten.length : Int)) ∧ Below w.heap.size w w' := by
 obtain ⟨A1, k1, h1, hm1, -⟩ := Rp.slice1_open hp
 obtain ⟨A2, k2, h2, hm2, gb⟩ := Rp.slice1_open (RBlks.later hb (Below.refl _ _) hB)
 cases h1; cases h2
 replace gb := hide gb
 clear hp hb
 go_enter Try.func17, Try.ntmps17
 go_wp2
 obtain ⟨W, hW, hwW, hWs, hx⟩ := boxes1 w #[.string f.name, .slice A1 f.params.length k1, .int .i64 f.ret, .slice A2 f.blocks.length k2] 32
 rw [hW]
 clear hW hx
 have hsz2 : w.heap.size ≤ W.heap.size := by omega
 replace hWs := hide hWs
 go_loopw [3, 9] (fun n i wr => ∃ (k m : Nat), k ≤ f.blocks.length ∧ i = .int .i64 k ∧ n = .int .i64 m ∧ Hid (m = (f.blocks.take k).flatten.length) ∧ Below W.heap.size W wr) (fun _ i _ => f.blocks.length - (intOf i).toNat)
 case atStart => exact ⟨0, 0, Nat.zero_le _, rfl, rfl, hide (by simp), Below.refl _ _⟩
 case round =>
  obtain ⟨k, m, hk, rfl, rfl, hm, hbel⟩ := hrel
  by_cases hlt : k < f.blocks.length
  ·obtain ⟨b1, o1, rfl, he1⟩ := gb.out (by omega)
   obtain ⟨x, hx⟩ := get_ex hlt
   obtain ⟨d1, hr1, hd1⟩ := he1 k x hx.out
   obtain ⟨A3, c3, h3, hm3, -⟩ := Rp.slice_open hr1
   cases h3
   have hd1' : ∀ w', Below W.heap.size W w' → w'.cell? ⟨b1, o1 + k, none⟩ = some (.slice A3 x.length c3) := fun w' h => hd1 w' (hwW.trans (h.mono hsz2))
   clear hd1 hr1 he1
   have hmx : m + x.length ≤ 1000000000000 := by
    have h1 := fz_succ hx.out
    have h2 := fz_le f.blocks (k + 1)
    have h3 := hm.out
    omega
   have hm2' : Hid (m + x.length = (f.blocks.take (k + 1)).flatten.length) := hide (by rw [fz_succ hx.out, hm.out])
   go_wp2
   go_roundw
   case rel => exact ⟨k + 1, m + x.length, hlt, by go_num, by go_num, hm2', hbel.alloc hbel.size _⟩
   case measure => simp [intOf]; omega
  ·have hfin : Hid (m = f.blocks.flatten.length) := hide (by rw [hm.out, List.take_of_length_le (by omega)])
   go_wp2
   go_ret
   exact ⟨ret_int (by rw [hfin.out]), hwW.trans (hbel.mono hsz2)⟩
end Go.Proofs.Ytamjcafjdioidaa

namespace Go.Proofs.Ytamjcafjdioidaa
open Go.RowKit Go.ChangeShapes Go.WideShapes Go.Deep
theorem cells_Var : Try.prog.cellsOf 109 = 2 := by kernel_rfl
theorem cells_Vars : Try.prog.cellsOf 22 = 1 := by kernel_rfl
theorem cells_Extern : Try.prog.cellsOf 84 = 3 := by kernel_rfl
theorem cells_Externs : Try.prog.cellsOf 23 = 1 := by kernel_rfl
theorem cells_Funcs : Try.prog.cellsOf 24 = 1 := by kernel_rfl
theorem cells_Module : Try.prog.cellsOf 26 = 3 := by kernel_rfl
def extSz (x : Ext) : Nat := x.params.length + 1
def extsSz (l : List Ext) : Nat := (l.map extSz).sum + 1
def funsSz (l : List Fun) : Nat := (l.map funSz).sum + 1
def modSz (m : Mod) : Nat := m.vars.length + extsSz m.exts + funsSz m.funcs
theorem opens_Var : Opens 109 RVr (fun _ => 1) := by
 intro H enc w base spare held fuel cs x h
 obtain ⟨xs, k, _, rfl, hl, hlen, hf⟩ := DataW.trod_struct Try.underlying109 h
 obtain ⟨c0, c1, rfl⟩ := len2 (hl.trans cells_Var)
 obtain ⟨y0, y1, rfl⟩ := len2 (hlen.trans rfl)
 obtain ⟨s, e0, _, hs⟩ := DataW.trod_string Try.underlying9 (hf 0 _ rfl)
 obtain ⟨n1, e1, _, w1⟩ := DataW.trod_int Try.underlying3 (hf 1 _ rfl)
 simp [cells_int, cells_string] at e0 e1
 subst e0 e1
 exact ⟨⟨s, n1⟩, ⟨rfl, w1, hs⟩, bulk_one _⟩
theorem opens_Vars : Opens 22 RVrs (fun l => l.length + 1) := by
 have := opens_slice Try.underlying22 cells_Var (by omega) opens_Var
 simp only [sum_ones] at this
 exact this
theorem opens_Extern : Opens 84 RExt extSz := by
 intro H enc w base spare held fuel cs x h
 obtain ⟨xs, k, _, rfl, hl, hlen, hf⟩ := DataW.trod_struct Try.underlying84 h
 obtain ⟨c0, c1, c2, rfl⟩ := len3 (hl.trans cells_Extern)
 obtain ⟨y0, y1, y2, rfl⟩ := len3 (hlen.trans rfl)
 obtain ⟨s, e0, _, hs⟩ := DataW.trod_string Try.underlying9 (hf 0 _ rfl)
 obtain ⟨l1, r1, m1⟩ := opens_Ints _ _ _ _ _ _ _ _ _ (hf 1 _ rfl)
 obtain ⟨n2, e2, _, w2⟩ := DataW.trod_int Try.underlying3 (hf 2 _ rfl)
 simp [cells_int, cells_string, cells_Ints] at e0 r1 e2
 subst e0 e2
 refine ⟨⟨s, l1, n2⟩, ⟨c1, rfl, r1, w2, hs⟩, ?_⟩
 simp only [extSz, List.map_cons, List.map_nil, Rows.uptoBulk, Rows.uptoBulkAll] at *
 omega
theorem opens_Externs : Opens 23 RExts extsSz := opens_slice Try.underlying23 cells_Extern (by omega) opens_Extern
theorem opens_Funcs : Opens 24 RFuns funsSz := opens_slice Try.underlying24 cells_Func (by omega) opens_Func
theorem opens_Module : Opens 26 RMod modSz := by
 intro H enc w base spare held fuel cs x h
 obtain ⟨xs, k, _, rfl, hl, hlen, hf⟩ := DataW.trod_struct Try.underlying26 h
 obtain ⟨c0, c1, c2, rfl⟩ := len3 (hl.trans cells_Module)
 obtain ⟨y0, y1, y2, rfl⟩ := len3 (hlen.trans rfl)
 obtain ⟨l0, r0, m0⟩ := opens_Vars _ _ _ _ _ _ _ _ _ (hf 0 _ rfl)
 obtain ⟨l1, r1, m1⟩ := opens_Externs _ _ _ _ _ _ _ _ _ (hf 1 _ rfl)
 obtain ⟨l2, r2, m2⟩ := opens_Funcs _ _ _ _ _ _ _ _ _ (hf 2 _ rfl)
 simp [cells_Vars, cells_Externs, cells_Funcs] at r0 r1 r2
 refine ⟨⟨l0, l1, l2⟩, ⟨c0, c1, c2, rfl, r0, r1, r2⟩, ?_⟩
 simp only [modSz, List.map_cons, List.map_nil, Rows.uptoBulk, Rows.uptoBulkAll] at *
 omega
theorem fun_le {m : Mod} {f : Fun} {K : Nat} (hf : f ∈ m.funcs) (h : modSz m ≤ K) : funSz f ≤ K := by
 unfold modSz funsSz at h
 have h3 := sum_mem funSz m.funcs f hf
 omega
end Go.Proofs.Ytamjcafjdioidaa

namespace Go.Proofs.Ytamjcafjdioidaa
open Go.RowKit
set_option linter.unusedSimpArgs false
set_option linter.unusedVariables false
set_option maxRecDepth 100000 in
set_option maxHeartbeats 6400000 in
theorem long16_any (m : Mod) (m1 m2 m3 : Value) (w : World) (ha : RMod.rep w w.heap.size [m1, m2, m3] m) (hsz : ∀ f, f ∈ m.funcs → funSz f ≤ 2000000) :
  Calls Try.prog 16 #[m.v m1 m2 m3] w (SomeBit w) := by
 obtain ⟨M1, v1, j1, M2, v2, j2, M3, v3, j3, hmf⟩ := mod_forms ha
 obtain ⟨e1, e2, e3⟩ := hmf
 subst e1 e2 e3
 obtain ⟨A5, k5, hM3, hl5, gf⟩ := funs_at (mod_open (RMod.later ha (Below.refl _ _) (Nat.le_refl _))).2.2
 have hv3 : v3 = m.funcs.length := by cases hM3; rfl
 have hM3' : M3 = A5 ∧ j3 = k5 := by cases hM3; exact ⟨rfl, rfl⟩
 obtain ⟨e1, e2⟩ := hM3'
 subst e1 e2
 clear hM3
 rw [← hv3] at hl5 gf
 replace gf := hide gf
 replace hv3 := hide hv3
 obtain ⟨W, hW, hwW, hWs, hx⟩ := boxes1 w #[.slice M1 v1 j1, .slice M2 v2 j2, .slice M3 v3 j3] 26
 have p0 : ∀ w', Below W.heap.size W w' → w'.cell? ⟨w.heap.size, 0, none⟩ = some (.slice M1 v1 j1) := hx 0 _ rfl
 have p1 : ∀ w', Below W.heap.size W w' → w'.cell? ⟨w.heap.size, 1, none⟩ = some (.slice M2 v2 j2) := hx 1 _ rfl
 have p2 : ∀ w', Below W.heap.size W w' → w'.cell? ⟨w.heap.size, 2, none⟩ = some (.slice M3 v3 j3) := hx 2 _ rfl
 clear hx
 have hws : w.heap.size ≤ W.heap.size := by omega
 replace hsz := hide hsz
 have hself := Below.refl W.heap.size W
 have hwX : Hid (∀ w', Below W.heap.size W w' → Below w.heap.size w w') := hide (fun w' h => hwW.trans (h.mono hws))
 have cF : Hid (∀ w', Below W.heap.size W w' → Calls Try.prog 24 #[.agg #[.slice M1 v1 j1, .slice M2 v2 j2, .slice M3 v3 j3], .int .i64 1500] w' (SomeBit w')) := hide (fun w' h => by
  obtain ⟨g1, g2, g3⟩ := mod_open (RMod.later ha (hwX.out w' h) (hwX.out w' h).size)
  exact few_any m.vars m.exts m.funcs 1500 _ _ _ w' w'.heap.size (Nat.le_refl _) g1 g2 g3)
 replace ha := hide ha
 replace hWs := hide hWs
 replace hW := hide hW
 replace hwW := hide hwW
 go_enter Try.func16, Try.ntmps16
 go_upto_region 1 with (fail)
 rw [hW.out]
 clear hW
 go_wp2
 go_loopw [11] (fun s wr => ∃ i : Nat, s = .int .i64 i ∧ i ≤ v3 ∧ Below W.heap.size W wr) (fun s _ => v3 - (intOf s).toNat)
 case atStart => exact ⟨0, rfl, Nat.zero_le _, hself⟩
 case round =>
  clear hself
  rename World => V
  obtain ⟨i, rfl, hi, hbel⟩ := hrel
  have hVs := hbel.size
  by_cases hlt : i < v3
  ·have hii : (i : Int) < (v3 : Int) := by omega
   obtain ⟨f, hf⟩ := get_ex (l := m.funcs) (k := i) (by rw [← hv3.out]; exact hlt)
   obtain ⟨b1, o1, hA1, he⟩ := gf.out (by omega)
   subst hA1
   obtain ⟨cp, ep, hra, hc⟩ := he i f hf.out
   obtain ⟨hrp, hrb'⟩ := fun_open hra
   obtain ⟨A1, k1, h1, hnp, gp⟩ := Rp.slice1_open hrp
   obtain ⟨A2, k2, h2, hmb, gb⟩ := Rp.slice1_open hrb'
   cases h1; cases h2
   have hfz := hide (hsz.out f (List.mem_of_getElem? hf.out))
   have hflat : Hid (f.blocks.flatten.length ≤ 2000000) := hide (Nat.le_trans (flat_len f) hfz.out)
   obtain ⟨np, hnpe⟩ : ∃ np, Hid (np = f.params.length) := ⟨_, hide rfl⟩
   obtain ⟨N, hN⟩ : ∃ N, Hid (N = f.blocks.length) := ⟨_, hide rfl⟩
   rw [← hnpe.out, ← hN.out] at hc
   rw [← hN.out] at hmb gb
   replace gp := hide gp
   replace gb := hide gb
   obtain ⟨s0, s1, s2, s3⟩ := hc.four
   have s0 := s0 V (hwX.out V hbel)
   have s1 := s1 V (hwX.out V hbel)
   have s2 := s2 V (hwX.out V hbel)
   have s3 := s3 V (hwX.out V hbel)
   obtain ⟨Z, hZ, hwZ, hZs, hzc⟩ := boxes1 V #[.string f.name, .slice A1 np k1, .int .i64 f.ret, .slice A2 N k2] 32
   have t3 : ∀ w', Below Z.heap.size Z w' → w'.cell? ⟨V.heap.size, 3, none⟩ = some (.slice A2 N k2) := hzc 3 _ rfl
   have hbZ : Below W.heap.size W Z := hbel.trans (hwZ.mono hVs)
   have hZW : Hid (∀ w', Below Z.heap.size Z w' → Below W.heap.size W w') := hide (fun w' h => hbZ.trans (h.mono hbZ.size))
   have hZw : Hid (∀ w', Below Z.heap.size Z w' → Below w.heap.size w w') := hide (fun w' h => hwX.out w' (hZW.out w' h))
   have hselfZ := Below.refl Z.heap.size Z
   have hm0 : Hid (0 = (f.blocks.take 0).flatten.length) := hide (by simp)
   replace hra := hide hra
   replace hrp := hide hrp
   replace hrb' := hide hrb'
   replace hwZ := hide hwZ
   replace hZs := hide hZs
   replace hZ := hide hZ
   clear he hc hzc
   go_upto_region 4 with (fail)
   rw [hZ.out]
   clear hZ s0 s1 s2 s3
   go_wp2
   go_loopw [5, 18] (fun n s wr => ∃ (k q : Nat), k ≤ N ∧ s = .int .i64 k ∧ n = .int .i64 q ∧ Hid (q = (f.blocks.take k).flatten.length) ∧ Below Z.heap.size Z wr) (fun _ s _ => N - (intOf s).toNat)
   case atStart => exact ⟨0, 0, Nat.zero_le _, rfl, rfl, hm0, hselfZ⟩
   case round =>
    clear hselfZ hm0
    rename World => V2
    obtain ⟨k, q, hk, rfl, rfl, hq, hb2⟩ := hrel
    have hql : q ≤ 2000000 := by
     have h1 := fz_le f.blocks k
     have h2 := hq.out
     have h3 := hflat.out
     omega
    by_cases hlt2 : k < N
    ·have hki : (k : Int) < (N : Int) := by omega
     obtain ⟨b2, o2, rfl, he1⟩ := gb.out (by omega)
     obtain ⟨x, hx⟩ := get_ex (l := f.blocks) (k := k) (by rw [← hN.out]; exact hlt2)
     obtain ⟨d1, hr1, hd1⟩ := he1 k x hx.out
     obtain ⟨A3, c3, h3, hm3, -⟩ := Rp.slice_open hr1
     cases h3
     have hd1' := hd1 V2 (hZw.out V2 hb2)
     clear hd1 hr1 he1
     obtain ⟨lx, hlx⟩ : ∃ lx, Hid (lx = x.length) := ⟨_, hide rfl⟩
     rw [← hlx.out] at hd1'
     have hq2 : Hid (q + lx = (f.blocks.take (k + 1)).flatten.length) := hide (by rw [fz_succ hx.out, hq.out, hlx.out])
     have hql2 : q + lx ≤ 2000000 := by
      have h1 := fz_le f.blocks (k + 1)
      have h2 := hq2.out
      have h3 := hflat.out
      omega
     go_wp2
     go_roundw
     case rel => exact ⟨k + 1, q + lx, hlt2, by go_num, by go_num, hq2, hb2.alloc hb2.size _⟩
     case measure => simp [intOf]; omega
    ·have hbW2 := hZW.out V2 hb2
     by_cases hA : 80 < q
     ·have g1 : decide ((q : Int) > 80) = true := decide_eq_true (by omega)
      by_cases hB : q ≤ 400
      ·have g2 : decide ((q : Int) ≤ 400) = true := decide_eq_true (by omega)
       have hfin := hide (hwX.out V2 hbW2)
       go_wp2
       go_ret
       exact ⟨true, rfl, hfin.out⟩
      ·have g2 : decide ((q : Int) ≤ 400) = false := decide_eq_false (by omega)
       go_wp2
       go_roundw
       case rel => exact ⟨i + 1, by go_num, hlt, hbW2⟩
       case measure => simp [intOf]; omega
     ·have g1 : decide ((q : Int) > 80) = false := decide_eq_false (by omega)
      go_wp2
      go_roundw
      case rel => exact ⟨i + 1, by go_num, hlt, hbW2⟩
      case measure => simp [intOf]; omega
  ·go_wp2_with (fail)
   refine (cF.out V hbel).mono ?_
   rintro e V4 ⟨bb, rfl, hb4⟩
   have hfin : Hid (∀ w', Below V4.heap.size V4 w' → Below w.heap.size w w') := hide (fun w' h => (hwX.out V hbel).trans ((hb4.mono (hwX.out V hbel).size).trans (h.mono (Nat.le_trans (hwX.out V hbel).size hb4.size))))
   have hs4 := Below.refl V4.heap.size V4
   go_wp2
   go_ret
   exact ⟨_, rfl, hfin.out _ hs4⟩
theorem five_alloc (w : World) (o0 o1 o2 o3 o4 : Obj) : ∃ W, ((((w.alloc o0).alloc o1).alloc o2).alloc o3).alloc o4 = W ∧ Below w.heap.size w W ∧ W.heap.size = w.heap.size + 5 ∧ W.heap[w.heap.size]? = some o0 ∧ W.heap[w.heap.size + 1]? = some o1 ∧ W.heap[w.heap.size + 1 + 1]? = some o2 ∧ W.heap[w.heap.size + 1 + 1 + 1]? = some o3 ∧ W.heap[w.heap.size + 1 + 1 + 1 + 1]? = some o4 := by
 refine ⟨_, rfl, (((((Below.refl _ _).alloc (Nat.le_refl _) _).alloc (by simp) _).alloc (by simp <;> omega) _).alloc (by simp <;> omega) _).alloc (by simp <;> omega) _, by simp, ?_, ?_, ?_, ?_, ?_⟩
 ·rw [heap_alloc_old _ o4 (by simp <;> omega), heap_alloc_old _ o3 (by simp <;> omega), heap_alloc_old _ o2 (by simp <;> omega), heap_alloc_old _ o1 (by simp)]; exact box_at _ rfl
 ·rw [heap_alloc_old _ o4 (by simp <;> omega), heap_alloc_old _ o3 (by simp <;> omega), heap_alloc_old _ o2 (by simp)]; exact box_at _ (by simp)
 ·rw [heap_alloc_old _ o4 (by simp <;> omega), heap_alloc_old _ o3 (by simp)]; exact box_at _ (by simp)
 ·rw [heap_alloc_old _ o4 (by simp)]; exact box_at _ (by simp)
 ·exact box_at _ (by simp)
theorem livesT_small : Small livesTF := by
 refine ⟨by decide, by decide, fun x hx => ?_⟩
 have h : ∀ x, x ∈ livesT → x.length ≤ 2000000 ∧ ∀ i, i ∈ x → i.args.length ≤ 2000000 ∧ i.to.length ≤ 2000000 := by decide
 exact h x hx
theorem retB_small : Small (setBlocks livesTF [retB]) := by
 refine ⟨by decide, by decide, fun x hx => ?_⟩
 have h : ∀ x, x ∈ [retB] → x.length ≤ 2000000 ∧ ∀ i, i ∈ x → i.args.length ≤ 2000000 ∧ i.to.length ≤ 2000000 := by decide
 exact h x hx
theorem wf_small (bs : List (List Ins)) (h1 : ∀ l, l ∈ bs → l ≠ []) (h2 : ∀ l, l ∈ bs → ∀ x, x ∈ l → x.op ≠ 32 ∧ x.op ≠ 25 ∧ (x.op = 31 → x.to.length = 1)) (h3 : ∀ l, l ∈ bs → ∀ x, x ∈ l → ∀ t, t ∈ x.to → 0 ≤ t ∧ t < bs.length) : Wf bs := fun l hl =>
 ⟨h1 l hl, fun x hx ho => absurd ho (h2 l hl x hx).1, fun x hx ho => (h2 l hl x hx).2.2 ho, fun x hx ho => absurd ho (h2 l hl x hx).2.1, h3 l hl⟩
theorem fr_small (bs : List (List Ins)) (h2 : ∀ l, l ∈ bs → ∀ x, x ∈ l → x.op ≠ 25) : ∀ l, l ∈ bs → Fronts l := fun l hl i j x y hi hj hij ho => absurd ho (h2 l hl y (List.mem_of_getElem? hj))
theorem Made.slices {M : Nat} {w : World} {f : Fun} {b : List Ins} {c d : Value} (h : Made M w f [b] c d) : ∃ Ac nc Cc Ad Cd, c = .slice Ac nc Cc ∧ d = .slice Ad 1 Cd := by
 obtain ⟨T, N, h1, -⟩ := h
 obtain ⟨A, C, h2⟩ := row_form h1.par.row
 obtain ⟨xs, ess, hk, -⟩ := h1.tree
 obtain ⟨A', C', h3⟩ := row_form hk.row
 exact ⟨_, _, _, _, _, h2, h3⟩
set_option maxRecDepth 100000 in
set_option maxHeartbeats 6400000 in
theorem lives17_any (w : World) : Calls Try.prog 15 #[] w (RetB true w) := by
 obtain ⟨W, hW, hwW, hWs, h0, h1, h2, h3, h4⟩ := five_alloc w (.cells #[.int .i64 1] 3) (.cells #[.int .i64 31, .int .i64 (-1), .int .i64 0, .int .i64 0, .int .i64 0, .slice none 0 0, .slice (some ⟨w.heap.size, 0, none⟩) 1 1] 39) (.cells #[.int .i64 33, .int .i64 (-1), .int .i64 0, .int .i64 0, .int .i64 0, .slice none 0 0, .slice none 0 0] 39)
  (.cells #[.slice (some ⟨w.heap.size + 1, 0, none⟩) 1 1, .slice (some ⟨w.heap.size + 1 + 1, 0, none⟩) 1 1] 36) (.cells #[.string ⟨#[102]⟩, .slice none 0 0, .int .i64 0, .slice (some ⟨w.heap.size + 1 + 1 + 1, 0, none⟩) 2 2] 32)
 have hK : OwnK W 0 (.slice (some ⟨w.heap.size + 1 + 1 + 1, 0, none⟩) 2 2) livesT := by
  refine ⟨[.slice (some ⟨w.heap.size + 1, 0, none⟩) 1 1, .slice (some ⟨w.heap.size + 1 + 1, 0, none⟩) 1 1], rfl, ⟨rfl, .inr ⟨_, 2, _, rfl, Nat.zero_le _, h3, Nat.le_refl _, by simp [maxLen], rfl, rfl⟩⟩, fun i x b g1 g2 => ?_⟩
  match i with
  | 0 =>
   cases g1; cases g2
   refine ⟨[insC ⟨31, -1, 0, 0, 0, [], [1]⟩ (.slice none 0 0) (.slice (some ⟨w.heap.size, 0, none⟩) 1 1)], rfl, ⟨rfl, .inr ⟨_, 1, _, rfl, Nat.zero_le _, h1, Nat.le_refl _, by simp [maxLen], rfl, rfl⟩⟩, fun j es x g3 g4 => ?_⟩
   cases j with
   | zero =>
    cases g3; cases g4
    exact ⟨_, _, rfl, OwnV.nil_, ⟨⟨rfl, .inr ⟨_, 1, _, rfl, Nat.zero_le _, h0, Nat.le_refl _, by simp [maxLen], rfl, rfl⟩⟩, fun t ht => by rw [List.mem_singleton.1 ht]; decide⟩, (by show I64 31; decide), (by show I64 (-1); decide), (by show I64 0; decide), (by show I64 0; decide), (by show I64 0; decide)⟩
   | succ j => simp at g3
  | 1 =>
   cases g1; cases g2
   refine ⟨[insC ⟨33, -1, 0, 0, 0, [], []⟩ (.slice none 0 0) (.slice none 0 0)], rfl, ⟨rfl, .inr ⟨_, 1, _, rfl, Nat.zero_le _, h2, Nat.le_refl _, by simp [maxLen], rfl, rfl⟩⟩, fun j es x g3 g4 => ?_⟩
   cases j with
   | zero =>
    cases g3; cases g4
    exact ⟨_, _, rfl, OwnV.nil_, OwnI.nil_, (by show I64 33; decide), (by show I64 (-1); decide), (by show I64 0; decide), (by show I64 0; decide), (by show I64 0; decide)⟩
   | succ j => simp at g3
  | i + 2 => simp at g1
 have hf : RFun.rep W W.heap.size [.string livesTF.name, .slice none 0 0, .int .i64 livesTF.ret, .slice (some ⟨w.heap.size + 1 + 1 + 1, 0, none⟩) 2 2] livesTF := ⟨_, _, rfl, OwnI.nil_.rep (B := 0), hK.rep, by decide, by decide⟩
 have n0 := box_cell9 h4 0 rfl
 have n1 := box_cell9 h4 1 rfl
 have n2 := box_cell9 h4 2 rfl
 have n3 := box_cell9 h4 3 rfl
 have cS : Hid (Calls Try.prog 20 #[.agg #[.string ⟨#[102]⟩, .slice none 0 0, .int .i64 0, .slice (some ⟨w.heap.size + 1 + 1 + 1, 0, none⟩) 2 2]] W (fun e w' => ∃ c d, e = .returned (.tuple #[.agg #[.string ⟨#[102]⟩, c, .int .i64 0, d], .bool true]) ∧ Made W.heap.size w' livesTF [retB] c d ∧ Below W.heap.size W w')) := hide (by
  have h9 := tstep_any livesTF (.slice none 0 0) (.slice (some ⟨w.heap.size + 1 + 1 + 1, 0, none⟩) 2 2) W W.heap.size (Nat.le_refl _) hf livesT_small (wf_small livesT (by decide) (by decide) (by decide)) (fr_small livesT (by decide))
  refine h9.mono fun e w' hp => ?_
  obtain ⟨c, d, g1, g2, g3⟩ := hp.made (bs := livesT) (f := livesTF) (M := W.heap.size) (Nat.le_refl _)
  rw [livesT_step] at g1 g2
  exact ⟨c, d, g1, g2, g3⟩)
 have cS2 : Hid (∀ (c d : Value) (w' w9 : World), Made W.heap.size w9 livesTF [retB] c d → Below w9.heap.size w9 w' → W.heap.size ≤ w9.heap.size → Calls Try.prog 20 #[.agg #[.string ⟨#[102]⟩, c, .int .i64 0, d]] w' (fun e w'' => ∃ c d, e = .returned (.tuple #[.agg #[.string ⟨#[102]⟩, c, .int .i64 0, d], .bool false]) ∧ Made W.heap.size w'' livesTF [retB] c d ∧ Below w'.heap.size w' w'')) := hide (fun c d w' w9 hm hb hs => by
  have hm' := hm.kept (w' := w') fun k _ hk => hb.block k hk
  have h9 := tstep_any (setBlocks livesTF [retB]) c d w' w'.heap.size (Nat.le_refl _) hm'.rep retB_small (wf_small [retB] (by decide) (by decide) (by decide)) (fr_small [retB] (by decide))
  refine h9.mono fun e w'' hp => ?_
  obtain ⟨c, d, g1, g2, g3⟩ := hp.made (bs := [retB]) (f := livesTF) (M := W.heap.size) (Nat.le_trans hs hb.size)
  rw [retB_step] at g1 g2
  exact ⟨c, d, g1, g2, g3⟩)
 have hself := Below.refl w.heap.size w
 replace hwW := hide hwW
 replace hWs := hide hWs
 replace hW := hide hW
 clear h0 h1 h2 h3 h4 hK hf
 go_enter Try.func15, Try.ntmps15
 go_upto_region 2 with (fail)
 rw [hW.out]
 clear hW
 go_wp2_with (fail)
 refine cS.out.mono ?_
 rintro e w1 ⟨c, d, rfl, hm1, hb1⟩
 obtain ⟨Ac, nc, Cc, Ad, Cd, hcf, hdf⟩ := hm1.slices
 subst hcf hdf
 obtain ⟨X, hX, hwX, hXs, hx⟩ := boxes1 w1 #[.string ⟨#[102]⟩, .slice Ac nc Cc, .int .i64 0, .slice Ad 1 Cd] 32
 have x0 := hx 0 _ rfl X (Below.refl _ _)
 have x1 := hx 1 _ rfl X (Below.refl _ _)
 have x2 := hx 2 _ rfl X (Below.refl _ _)
 have x3 := hx 3 _ rfl X (Below.refl _ _)
 have hbX : Hid (Below w.heap.size w X) := hide (hwW.out.trans ((hb1.mono hwW.out.size).trans (hwX.mono (Nat.le_trans hwW.out.size hb1.size))))
 have cS3 : Hid (Calls Try.prog 20 #[.agg #[.string ⟨#[102]⟩, .slice Ac nc Cc, .int .i64 0, .slice Ad 1 Cd]] X _) := hide (cS2.out _ _ X w1 hm1 hwX hb1.size)
 replace hm1 := hide hm1
 replace hb1 := hide hb1
 replace hX := hide hX
 replace hXs := hide hXs
 replace hwX := hide hwX
 clear cS cS2 n0 n1 n2 n3 hself
 go_upto_region 3 with (fail)
 rw [hX.out]
 go_wp2_with (fail)
 refine cS3.out.mono ?_
 rintro e w2 ⟨c2, d2, rfl, hm2, hb2⟩
 obtain ⟨Ac2, nc2, Cc2, Ad2, Cd2, hcf, hdf⟩ := hm2.slices
 subst hcf hdf
 obtain ⟨Y, hY, hwY, hYs, hy⟩ := boxes1 w2 #[.string ⟨#[102]⟩, .slice Ac2 nc2 Cc2, .int .i64 0, .slice Ad2 1 Cd2] 32
 have y0 := hy 0 _ rfl Y (Below.refl _ _)
 have y1 := hy 1 _ rfl Y (Below.refl _ _)
 have y2 := hy 2 _ rfl Y (Below.refl _ _)
 have y3 := hy 3 _ rfl Y (Below.refl _ _)
 have hb2X : Below X.heap.size X Y := hb2.trans (hwY.mono hb2.size)
 have z3 := hx 3 _ rfl Y hb2X
 have hbY : Hid (Below w.heap.size w Y) := hide (hbX.out.trans (hb2X.mono hbX.out.size))
 have cZ : Hid (Calls Try.prog 17 #[.agg #[.string ⟨#[102]⟩, .slice Ac2 nc2 Cc2, .int .i64 0, .slice Ad2 1 Cd2]] Y fun e w' => e = .returned (.int .i64 1) ∧ Below Y.heap.size Y w') := hide (by
  have hm' := hm2.kept (w' := Y) fun k _ hk => hwY.block k hk
  obtain ⟨g1, g2⟩ := fun_open (x := setBlocks livesTF [retB]) hm'.rep
  exact isz_any (setBlocks livesTF [retB]) _ _ Y Y.heap.size (Nat.le_refl _) g1 g2 (by decide))
 replace hm2 := hide hm2
 replace hb2 := hide hb2
 replace hb2X := hide hb2X
 replace hY := hide hY
 replace hYs := hide hYs
 replace hwY := hide hwY
 clear hx hy x0 x1 x2 x3 cS3
 go_upto_region 4 with (fail)
 rw [hY.out]
 go_wp2_with (fail)
 refine cZ.out.mono ?_
 rintro e w3 ⟨rfl, hb3⟩
 have hfin := hide (hbY.out.trans (hb3.mono hbY.out.size))
 go_wp2
 go_ret
 exact ⟨rfl, hfin.out⟩
end Go.Proofs.Ytamjcafjdioidaa
