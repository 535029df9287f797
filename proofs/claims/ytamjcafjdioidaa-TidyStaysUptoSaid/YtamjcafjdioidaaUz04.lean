/- Texts of the chain, without what is not wanted: IrW, IrX, Hm. No condition but sizes. -/
import Derived.WalkKit
import Derived.Deep.Slices
import Derived.Deep.Draws
import Derived.ChangeSame
import Derived.ChangeOld
import Derived.OwnWalk
import Derived.Laws.OwnMore
import Derived.Deep.AppendLies
import Derived.Test.YtamjcafjdioidaaRows
import Derived.ProofKit
import Derived.OpenShut
import Derived.JoinedCond
import Derived.WalkSpells
import Derived.WalkLawsBesides
import Derived.Deep.RegionHeld3
import Derived.Deep.LoopGhost
import Derived.Deep.QuietTactic
import Derived.BigQuiet
import Derived.Deep.DeepCutAuto
import Derived.Deep.CutBlock
import Derived.StillTailTactics
import Derived.Test.YtamjcafjdioidaaUz01
import Derived.Test.YtamjcafjdioidaaUz02
namespace Go.Proofs.Ytamjcafjdioidaa
structure Plc where
 fn : Int
 blk : Int
 pos : Int
 deriving DecidableEq, Inhabited
def rowP (i n : Nat) : List Plc := (List.range n).map fun (j : Nat) => ⟨0, (i : Int), (j : Int)⟩
def beforeP (bs : List (List Ins)) (i j : Nat) : List Plc := ((List.range i).flatMap fun k => rowP k (bs.getD k []).length) ++ rowP i j
theorem beforeP_step (bs : List (List Ins)) (i j : Nat) : beforeP bs i (j + 1) = beforeP bs i j ++ [⟨0, i, j⟩] := by
 unfold beforeP rowP
 rw [List.range_succ, List.map_append, List.append_assoc]
 rfl
theorem beforeP_next {bs : List (List Ins)} {i : Nat} {x : List Ins} (hx : bs[i]? = some x) : beforeP bs i x.length = beforeP bs (i + 1) 0 := by
 unfold beforeP
 rw [List.range_succ, List.flatMap_append, getD_nil hx |>.symm]
 simp [rowP]
theorem beforeP_length {bs : List (List Ins)} : ∀ (i j : Nat), (j = 0 ∨ ∃ x, bs[i]? = some x ∧ j ≤ x.length) → i ≤ bs.length → (beforeP bs i j).length = (before bs i j).length
 | 0, j, hj, _ => by
  rcases hj with rfl | ⟨x, hx, hj⟩
  ·rfl
  ·unfold before
   rw [getD_nil hx]
   simp [beforeP, rowP]
   omega
 | i + 1, j, hj, hi => by
  obtain ⟨y, hy⟩ : ∃ y, bs[i]? = some y := ⟨_, List.getElem?_eq_getElem (by omega)⟩
  have h0 := beforeP_length i y.length (.inr ⟨y, hy, Nat.le_refl _⟩) (by omega)
  rw [beforeP_next hy, before_next hy] at h0
  rcases hj with rfl | ⟨x, hx, hj⟩
  ·exact h0
  ·have e1 : (beforeP bs (i + 1) j).length = (beforeP bs (i + 1) 0).length + j := by simp [beforeP, rowP]
   have e2 : (before bs (i + 1) j).length = (before bs (i + 1) 0).length + j := by
    unfold before
    rw [getD_nil hx]
    simp only [List.length_append, List.take_zero, List.length_nil, Nat.add_zero, List.length_take]
    omega
   rw [e1, e2, h0]
end Go.Proofs.Ytamjcafjdioidaa
namespace Go.Proofs.Ytamjcafjdioidaa
open Go.RowKit
def RPlc : Rp Plc := .plain (fun x => [.int .i64 x.fn, .int .i64 x.blk, .int .i64 x.pos]) fun _ => True
theorem info_Instr : (Try.prog.info? 39).map (fun i => (i.zero, i.size, i.bytes)) = some (some (.agg #[.int .i64 0, .int .i64 0, .int .i64 0, .int .i64 0, .int .i64 0, .slice none 0 0, .slice none 0 0]), 7, 88) := by kernel_rfl
theorem info_Place : (Try.prog.info? 56).map (fun i => (i.zero, i.size, i.bytes)) = some (some (.agg #[.int .i64 0, .int .i64 0, .int .i64 0]), 3, 24) := by kernel_rfl
def CodePost (f : Fun) (w : World) (e : Ending) (w' : World) : Prop :=
 ∃ v1 v2, e = .returned (.tuple #[v1, v2]) ∧ Below w.heap.size w w' ∧ RBlk.rep w' w'.heap.size [v1] f.blocks.flatten ∧ (Rp.slice 3 RPlc).rep w' w'.heap.size [v2] (beforeP f.blocks f.blocks.length 0)
set_option maxHeartbeats 1600000 in
theorem code_any (f : Fun) (c1 c2 : Value) (w : World) (B : Nat) (hB : B ≤ w.heap.size) (hp : RInts.rep w B [c1] f.params) (hb : RBlks.rep w B [c2] f.blocks) (hsz : f.blocks.flatten.length ≤ 1000000000000) :
  Calls Try.prog 30 #[f.v c1 c2] w (CodePost f w) := by
 obtain ⟨A1, k1, h1, hm1, -⟩ := Rp.slice1_at hp
 obtain ⟨A2, k2, h2, hm2, gb⟩ := Rp.slice1_at (RBlks.later hb (Below.refl _ _) hB)
 cases h1; cases h2
 replace gb := hide gb
 clear hp hb
 obtain ⟨i0, hi0, hz0, hz1, hz2⟩ := info_parts info_Instr
 obtain ⟨j0, hj0, hy0, hy1, hy2⟩ := info_parts info_Place
 replace hi0 := hide hi0
 replace hz0 := hide hz0
 replace hz1 := hide hz1
 replace hz2 := hide hz2
 replace hj0 := hide hj0
 replace hy0 := hide hy0
 replace hy1 := hide hy1
 replace hy2 := hide hy2
 obtain ⟨W, hW, hwW, hWs, hx⟩ := boxes1 w #[.string f.name, .slice A1 f.params.length k1, .int .i64 f.ret, .slice A2 f.blocks.length k2] 32
 have x3 := hx 3 _ rfl
 clear hx
 have hws : w.heap.size ≤ W.heap.size := by omega
 replace hWs := hide hWs
 go_enter Try.func30, Try.ntmps30
 go_wp2
 clear hW
 go_loopw [4, 5, 6] (fun l p i wr => ∃ k : Nat, k ≤ f.blocks.length ∧ i = .int .i64 k ∧ Hid (Own RIns 7 39 wr W.heap.size w.heap.size l (before f.blocks k 0)) ∧ Hid (Own RPlc 3 56 wr W.heap.size w.heap.size p (beforeP f.blocks k 0)) ∧ Below W.heap.size W wr) (fun _ _ i _ => f.blocks.length - (intOf i).toNat)
 case atStart => exact ⟨0, Nat.zero_le _, rfl, hide (by rw [before_zero]; exact Own.nil_), hide Own.nil_, Below.refl _ _⟩
 case round =>
  rename_i l p
  obtain ⟨k, hk, rfl, hl, hpp, hbel⟩ := hrel
  by_cases hlt : k < f.blocks.length
  ·obtain ⟨b1, o1, rfl, hb1, he1⟩ := gb.out (by omega)
   obtain ⟨x, hx⟩ := get_ex hlt
   obtain ⟨d1, hr1, hd1⟩ := he1 k x hx.out
   obtain ⟨A3, c3, h3, hm3, ga3⟩ := Rp.slice_at hr1
   cases h3
   replace ga3 := hide ga3
   have hd1' : ∀ w', Below W.heap.size W w' → w'.cell? ⟨b1, o1 + k, none⟩ = some (.slice A3 x.length c3) := fun w' h => ((hwW.trans (h.mono hws)).cell (p := ⟨b1, o1 + k, none⟩) hb1).trans hd1
   clear hd1 hr1 he1
   go_wp2
   go_loopw [4, 5, 7] (fun l p i wr => ∃ m : Nat, m ≤ x.length ∧ i = .int .i64 m ∧ Hid (Own RIns 7 39 wr W.heap.size w.heap.size l (before f.blocks k m)) ∧ Hid (Own RPlc 3 56 wr W.heap.size w.heap.size p (beforeP f.blocks k m)) ∧ Below W.heap.size W wr) (fun _ _ i _ => x.length - (intOf i).toNat)
   case atStart => exact ⟨0, Nat.zero_le _, rfl, hl, hpp, hbel⟩
   case round =>
    clear hl hpp hbel
    rename_i l p
    obtain ⟨m, hm, rfl, hl, hpp, hbel⟩ := hrel
    by_cases hlt2 : m < x.length
    ·obtain ⟨b3, o3, rfl, hb3, he3⟩ := ga3.out (by omega)
     obtain ⟨ins, hins⟩ := get_ex hlt2
     obtain ⟨_, _, ⟨a1, a2, rfl, ha, hto, hwf⟩, hat⟩ := he3 m ins hins.out
     have hri : Hid (RIns.rep w w.heap.size [.int .i64 ins.op, .int .i64 ins.reg, .int .i64 ins.ty, .int .i64 ins.num, .int .i64 ins.flags, a1, a2] ins) := hide ⟨a1, a2, rfl, ha, hto, hwf⟩
     obtain ⟨A5, k5, h5, -, -⟩ := Rp.slice_at ha
     obtain ⟨A6, k6, h6, -, -⟩ := Rp.slice1_at hto
     cases h5; cases h6
     have hc : Cells W W.heap.size b3 (o3 + m * 7) _ := fun j u hu w' hw => ((hwW.trans (hw.mono hws)).cell (p := ⟨b3, o3 + m * 7 + j, none⟩) hb3).trans (hat j u hu)
     obtain ⟨q0, q1, q2, q3, q4, q5, q6⟩ := hc.seven
     clear he3 hat hc ha hto hwf
     have hlen : (before f.blocks k m).length ≤ 1000000000000 := by
      obtain ⟨r, hr⟩ := @before_prefix f.blocks k m
      rw [← hr, List.length_append] at hsz
      omega
     have hlenP : Hid ((beforeP f.blocks k m).length = (before f.blocks k m).length) := hide (beforeP_length k m (.inr ⟨x, hx.out, hm⟩) hk)
     have hlenP2 : (beforeP f.blocks k m).length ≤ 1000000000000 := by rw [hlenP.out]; exact hlen
     obtain ⟨ess, hel, hown, hrep⟩ := hl.out
     obtain ⟨esp, hep, hownp, hrepp⟩ := hpp.out
     have hne := own_ne hownp hown (by decide)
     have hne' := own_ne hown hownp (by decide)
     have hl0 := hown.lt
     have hp0 := hownp.lt
     replace hel := hide hel
     replace hrep := hide hrep
     replace hown := hide hown
     replace hep := hide hep
     replace hrepp := hide hrepp
     replace hownp := hide hownp
     replace hne := hide hne
     replace hne' := hide hne'
     replace hl0 := hide hl0
     replace hp0 := hide hp0
     have hbs := hbel.size
     go_wp2_with (first
      | (at_builtin
         refine wpList_append_own _ rfl (.tmp 26) (.tmp 36) _ rfl W.heap.size 39 i0 _ 7 88 Try.underlying34 hi0.out hz0.out hz1.out hz2.out rfl (by omega) u4 _ _ rfl (hown.out.alloc _) ⟨wr.heap.size, 0, none⟩ 1 1 [.int .i64 ins.op, .int .i64 ins.reg, .int .i64 ins.ty, .int .i64 ins.num, .int .i64 ins.flags, .slice A5 ins.args.length k5, .slice A6 ins.to.length k6] rfl rfl ?c1 ?c2 ?c3 ?c4 ?c5 ?_
         case c1 => exact World.news_of_block (cs := #[.int .i64 ins.op, .int .i64 ins.reg, .int .i64 ins.ty, .int .i64 ins.num, .int .i64 ins.flags, .slice A5 ins.args.length k5, .slice A6 ins.to.length k6]) (t := 39) (fr := (0, 0)) (heap_alloc_new wr _)
         case c2 => simp [Value.oneCell']
         case c3 => unfold maxLen; omega
         case c4 => omega
         case c5 => simp; omega
         intro v1 w1 hown1 hg1 _
         have hbw1 : Below W.heap.size W w1 := (hbel.alloc hbs _).grown hg1 (by simp; omega) (fun k hk => (hl0.out k hk).1)
         have hL := hide (Own.snoc (R := RIns) (n := 7) (y := ins) hel.out (fun i es y h1 h2 => ⟨(hrep.out i es y h1 h2).1, RIns.keep (hrep.out i es y h1 h2).2 (fun p hp => World.cell?_alloc_lt wr _ p (by omega)) (Nat.le_refl _)⟩) hown1 hg1 (fun k hk => by have := (hl0.out k hk).1; omega) (by simp; omega) rfl (RIns.later hri.out (hwW.trans ((hbel.alloc hbs _).mono hws)) (Nat.le_refl _)))
         have hP1 := hide ((Own.alloc hpp.out (by omega) _).kept hg1 hne.out (by simp; omega) (fun k hk => by have := (hl0.out k hk).1; omega))
         have hbs1 := hbw1.size
         obtain ⟨esp1, hep1, hownp1, hrepp1⟩ := hP1.out
         have hp1 := hide hownp1.lt
         have hnl := hide (own_ne hown1 hownp1 (by decide))
         replace hep1 := hide hep1
         replace hrepp1 := hide hrepp1
         replace hownp1 := hide hownp1
         replace hown1 := hide hown1
         replace hg1 := hide hg1)
      | (at_builtin
         refine wpList_append_own _ rfl (.tmp 38) (.tmp 42) _ rfl W.heap.size 56 j0 _ 3 24 Try.underlying69 hj0.out hy0.out hy1.out hy2.out rfl (by omega) u5 _ _ rfl (hownp1.out.alloc _) ⟨w1.heap.size, 0, none⟩ 1 1 [.int .i64 0, .int .i64 k, .int .i64 m] rfl rfl ?d1 ?d2 ?d3 ?d4 ?d5 ?_
         case d1 => exact World.news_of_block (cs := #[.int .i64 0, .int .i64 k, .int .i64 m]) (t := 56) (fr := (0, 0)) (heap_alloc_new w1 _)
         case d2 => simp [Value.oneCell']
         case d3 => unfold maxLen; omega
         case d4 => omega
         case d5 => simp; omega
         intro v2 w2 hown2 hg2 _
         have hbw2 : Below W.heap.size W w2 := (hbw1.alloc hbs1 _).grown hg2 (by simp; omega) (fun k hk => (hp1.out k hk).1)
         have hP2 := hide (Own.snoc (R := RPlc) (n := 3) (y := ⟨0, k, m⟩) hep1.out (fun i es y h1 h2 => ⟨(hrepp1.out i es y h1 h2).1, RPlc.keep (hrepp1.out i es y h1 h2).2 (fun p hp => World.cell?_alloc_lt w1 _ p (by omega)) (Nat.le_refl _)⟩) hown2 hg2 (fun k hk => by have := (hp1.out k hk).1; omega) (by simp; omega) rfl ⟨rfl, trivial⟩)
         have hL2 := hide ((Own.alloc hL.out (by omega) _).kept hg2 hnl.out (by simp; omega) (fun k hk => by have := (hp1.out k hk).1; omega))
         replace hown2 := hide hown2
         replace hg2 := hide hg2))
     go_roundw
     case rel => exact ⟨m + 1, hlt2, by go_num, hide (by rw [before_step hx.out hins.out]; exact hL2.out), hide (by rw [beforeP_step]; exact hP2.out), hbw2⟩
     case measure => simp [intOf]; omega
    ·have hlast : Hid (m = x.length) := hide (by omega)
     go_wp2
     go_roundw
     case rel => exact ⟨k + 1, hlt, by go_num, hide (by rw [← before_next hx.out, ← hlast.out]; exact hl.out), hide (by rw [← beforeP_next hx.out, ← hlast.out]; exact hpp.out), hbel⟩
     case measure => simp [intOf]; omega
  ·have hlast : Hid (k = f.blocks.length) := hide (by omega)
   have hbs := hbel.size
   go_wp2
   go_ret2
   refine ⟨_, _, rfl, hwW.trans (hbel.mono hws), ?_, ?_⟩
   ·have := (hl.out).rep (by omega)
    rw [hlast.out, before_end] at this
    exact this
   ·have := (hpp.out).rep (by omega)
    rw [hlast.out] at this
    exact this
end Go.Proofs.Ytamjcafjdioidaa
namespace Go.Proofs.Ytamjcafjdioidaa
open Go.RowKit
theorem ins_open {w : World} {B : Nat} {x : Ins} {c d : Value} (h : RIns.rep w B [.int .i64 x.op, .int .i64 x.reg, .int .i64 x.ty, .int .i64 x.num, .int .i64 x.flags, c, d] x) : ROpds.rep w B [c] x.args ∧ RInts.rep w B [d] x.to := by
 obtain ⟨c', d', e, ha, hto, _⟩ := h
 cases e
 exact ⟨ha, hto⟩
end Go.Proofs.Ytamjcafjdioidaa
namespace Go.Proofs.Ytamjcafjdioidaa
open Go.RowKit
theorem take_next {a b : List Int} {k : Nat} {x : Int} (h : a.take k = b.take k) (ha : a[k]? = some x) (hb : b[k]? = some x) : a.take (k + 1) = b.take (k + 1) := by
 rw [take_snoc ha, take_snoc hb, h]
theorem ints_ne {a b : List Int} {k : Nat} {x y : Int} (h : x ≠ y) (ha : a[k]? = some x) (hb : b[k]? = some y) : (a == b) = false := by
 rw [beq_eq_false_iff_ne]
 rintro rfl
 rw [ha] at hb
 exact h (Option.some.inj hb)
theorem ints_full {a b : List Int} {k : Nat} (hl : a.length = b.length) (hk : a.length ≤ k) (h : a.take k = b.take k) : (a == b) = true := by
 rw [beq_iff_eq]
 rwa [List.take_of_length_le hk, List.take_of_length_le (hl ▸ hk)] at h
set_option maxHeartbeats 800000 in
theorem rints_any (u v : Value) (a b : List Int) (w : World) (B : Nat) (hB : B ≤ w.heap.size) (ha : RInts.rep w B [u] a) (hb : RInts.rep w B [v] b) :
  Calls Try.prog 32 #[u, v] w fun e w' => e = .returned (.bool (a == b)) ∧ Below w.heap.size w w' := by
 obtain ⟨A1, c1, h1, hm1, ga⟩ := Rp.slice1_open (RInts.later ha (Below.refl _ _) hB)
 obtain ⟨A2, c2, h2, hm2, gb⟩ := Rp.slice1_open (RInts.later hb (Below.refl _ _) hB)
 clear ha hb
 cases h1; cases h2
 replace ga := hide ga
 replace gb := hide gb
 have hww := Nat.le_refl w.heap.size
 have hself := Below.refl w.heap.size w
 by_cases hl : a.length = b.length
 case neg =>
  go_enter Try.func32, Try.ntmps32
  have hne : ((a.length : Int) == (b.length : Int)) = false := by rw [beq_eq_false_iff_ne]; omega
  go_wp2
  go_ret
  exact ⟨ret_bool (by symm; rw [beq_eq_false_iff_ne]; rintro rfl; exact hl rfl), hself⟩
 have heq : ((a.length : Int) == (b.length : Int)) = true := by rw [beq_iff_eq]; omega
 go_enter Try.func32, Try.ntmps32
 go_wp2
 clear heq
 replace hl := hide hl
 go_loopw [5] (fun i wr => ∃ k : Nat, k ≤ a.length ∧ i = .int .i64 k ∧ Hid (a.take k = b.take k) ∧ Below w.heap.size w wr) (fun i _ => a.length - (intOf i).toNat)
 case atStart => exact ⟨0, Nat.zero_le _, rfl, hide rfl, hself⟩
 case round =>
  obtain ⟨k, hk, rfl, hall, hbel⟩ := hrel
  by_cases hlt : k < a.length
  ·have hlt2 : k < b.length := by have := hl.out; omega
   obtain ⟨b1, o1, rfl, he1⟩ := ga.out (by omega)
   obtain ⟨b2, o2, rfl, he2⟩ := gb.out (by omega)
   obtain ⟨x, hx⟩ := get_ex hlt
   obtain ⟨y, hy⟩ := get_ex hlt2
   obtain ⟨_, ⟨hr1, _⟩, p0⟩ := he1 k x hx.out
   obtain ⟨_, ⟨hr2, _⟩, q0⟩ := he2 k y hy.out
   cases hr1; cases hr2
   clear he1 he2
   cases hxy : (x == y) with
   | false =>
    go_wp2
    go_quiet (fail)
    go_wp2
    go_ret
    exact ⟨ret_bool (ints_ne (by simpa using hxy) hx.out hy.out).symm, hbel.trans (below_drewN (Below.refl _ _) _)⟩
   | true =>
    go_wp2
    go_quiet (fail)
    go_wp2
    go_roundw
    case rel =>
     cases eq_of_beq hxy
     exact ⟨k + 1, hlt, by go_num, hide (take_next hall.out hx.out hy.out), hbel.trans (below_drewN (Below.refl _ _) _)⟩
    case measure => simp [intOf]; omega
  ·go_wp2
   go_ret
   exact ⟨ret_bool (ints_full hl.out (by omega) hall.out).symm, hbel⟩
end Go.Proofs.Ytamjcafjdioidaa
namespace Go.Proofs.Ytamjcafjdioidaa
open Go.RowKit
theorem dec_no {p : Prop} [Decidable p] (h : ¬ p) : false = decide p := by simp [h]
end Go.Proofs.Ytamjcafjdioidaa
namespace Go.Proofs.Ytamjcafjdioidaa
open Go.RowKit
set_option linter.unusedSimpArgs false
set_option linter.unusedVariables false
theorem ltake_next {α : Type} {a b : List α} {k : Nat} {x : α} (h : a.take k = b.take k) (ha : a[k]? = some x) (hb : b[k]? = some x) : a.take (k + 1) = b.take (k + 1) := by
 rw [List.take_add_one, List.take_add_one, h, ha, hb]
theorem ltake_full {α : Type} {a b : List α} {k : Nat} (hl : a.length = b.length) (hk : a.length ≤ k) (h : a.take k = b.take k) : a = b := by
 rwa [List.take_of_length_le hk, List.take_of_length_le (hl ▸ hk)] at h
theorem lget_ne {α : Type} {a b : List α} {k : Nat} {x y : α} (h : x ≠ y) (ha : a[k]? = some x) (hb : b[k]? = some y) : a ≠ b := by
 rintro rfl; rw [ha] at hb; exact h (Option.some.inj hb)
theorem fun_open {w : World} {B : Nat} {x : Fun} {c d : Value} (h : RFun.rep w B [.string x.name, c, .int .i64 x.ret, d] x) : RInts.rep w B [c] x.params ∧ RBlks.rep w B [d] x.blocks := by
 obtain ⟨c', d', e, h1, h2, _⟩ := h
 cases e
 exact ⟨h1, h2⟩
theorem blks_at {w : World} {B : Nat} {d : Value} {bs : List (List Ins)} (h : RBlks.rep w B [d] bs) : ∃ A cap, d = .slice A bs.length cap ∧ bs.length ≤ 9223372036854775807 ∧ (0 < bs.length → ∃ b off, A = some ⟨b, off, none⟩ ∧ ∀ i x, bs[i]? = some x →
  ∃ A1 cap1, (∀ w', Below B w w' → w'.cell? ⟨b, off + i, none⟩ = some (.slice A1 x.length cap1)) ∧ x.length ≤ 9223372036854775807 ∧ (0 < x.length → ∃ b1 off1, A1 = some ⟨b1, off1, none⟩ ∧ ∀ j ins, x[j]? = some ins →
   ∃ ca da, RIns.rep w B [.int .i64 ins.op, .int .i64 ins.reg, .int .i64 ins.ty, .int .i64 ins.num, .int .i64 ins.flags, ca, da] ins ∧ Cells w B b1 (off1 + j * 7) [.int .i64 ins.op, .int .i64 ins.reg, .int .i64 ins.ty, .int .i64 ins.num, .int .i64 ins.flags, ca, da])) := by
 obtain ⟨A, cap, h1, h2, h3⟩ := Rp.slice1_open h
 cases h1
 refine ⟨A, cap, rfl, h2, fun hp => ?_⟩
 obtain ⟨b, off, hA, he⟩ := h3 hp
 refine ⟨b, off, hA, fun i x hx => ?_⟩
 obtain ⟨c, hr, hc⟩ := he i x hx
 obtain ⟨A1, cap1, h4, h5, h6⟩ := Rp.slice_open hr
 cases h4
 refine ⟨A1, cap1, hc, h5, fun hp1 => ?_⟩
 obtain ⟨b1, off1, hA1, he1⟩ := h6 hp1
 refine ⟨b1, off1, hA1, fun j ins hj => ?_⟩
 obtain ⟨es, hl, hr1, hcs⟩ := he1 j ins hj
 obtain ⟨ca, da, e, _⟩ := id hr1
 subst e
 exact ⟨ca, da, hr1, hcs⟩
theorem bytes_same {a b : ByteArray} (h : a.toList = b.toList) : a = b := Go.WideShapes.bytes_inj (by rwa [ByteArray.toList_eq, ByteArray.toList_eq] at h)
end Go.Proofs.Ytamjcafjdioidaa

namespace Go.Proofs.Ytamjcafjdioidaa
open Go.RowKit
set_option linter.unusedSimpArgs false
set_option linter.unusedVariables false
theorem cinfo_int : (Try.prog.info? 3).map (fun i => (i.zero, i.size, i.bytes)) = some (some (.int .i64 0), 1, 8) := by kernel_rfl
theorem cinfo_Value : (Try.prog.info? 42).map (fun i => (i.zero, i.size, i.bytes)) = some (some (.agg #[.int .i64 0, .int .i64 0, .int .u64 0]), 3, 24) := by kernel_rfl
theorem cinfo_Instr : (Try.prog.info? 39).map (fun i => (i.zero, i.size, i.bytes)) = some (some (.agg #[.int .i64 0, .int .i64 0, .int .i64 0, .int .i64 0, .int .i64 0, .slice none 0 0, .slice none 0 0]), 7, 88) := by kernel_rfl
theorem cinfo_Block : (Try.prog.info? 36).map (fun i => (i.zero, i.size, i.bytes)) = some (some (.agg #[.slice none 0 0]), 1, 24) := by kernel_rfl
theorem cinfo_parts {P : Program} {t : TypeId} {z : Option Value} {s b : Nat} (h : (P.info? t).map (fun i => (i.zero, i.size, i.bytes)) = some (z, s, b)) : ∃ i, P.info? t = some i ∧ i.zero = z ∧ i.size = s ∧ i.bytes = b := by
 cases hi : P.info? t with
 | none => rw [hi] at h; cases h
 | some i => rw [hi] at h; cases h; exact ⟨i, rfl, rfl, rfl, rfl⟩
theorem ints_one (l : List Int) : ∀ v ∈ l.map (fun z => Value.int .i64 z), v.oneCell' = true := by
 intro v hv
 obtain ⟨z, -, rfl⟩ := List.mem_map.1 hv
 rfl
theorem oc_one (p : List Opd) : ∀ v ∈ p.flatMap oc, v.oneCell' = true := by
 intro v hv
 obtain ⟨b, -, hb⟩ := List.mem_flatMap.1 hv
 simp only [oc, List.mem_cons, List.not_mem_nil, or_false] at hb
 rcases hb with rfl | rfl | rfl <;> rfl
theorem ints_src {w : World} {A : Option Addr} {n c : Nat} {l : List Int} (h : RInts.rep w w.heap.size [.slice A n c] l) : n = l.length ∧ (A = none → l.length = 0) ∧ (∀ x, x ∈ l → I64 x) ∧ ∀ W, Below w.heap.size w W → ∀ ad, A = some ad → ∀ j u, (l.map fun z => Value.int .i64 z)[j]? = some u → W.cell? (ad.add j) = some u := by
 obtain ⟨A', cap', h1, h2, h3⟩ := Rp.slice1_open h
 cases h1
 refine ⟨rfl, fun e => ?_, fun x hx => ?_, fun W hW ad had j u hu => ?_⟩
 ·rcases Nat.eq_zero_or_pos l.length with h | h
  ·exact h
  ·obtain ⟨b, off, h4, -⟩ := h3 h; rw [e] at h4; cases h4
 ·obtain ⟨i, hi⟩ := List.mem_iff_getElem?.1 hx
  obtain ⟨b, off, h4, h5⟩ := h3 (by have := (List.getElem?_eq_some_iff.1 hi).1; omega)
  obtain ⟨cc, ⟨-, h6⟩, -⟩ := h5 i x hi
  exact h6
 ·rw [List.getElem?_map] at hu
  cases hz : l[j]? with
  | none => rw [hz] at hu; cases hu
  | some z =>
   rw [hz] at hu
   cases hu
   obtain ⟨b, off, h4, h5⟩ := h3 (by have := (List.getElem?_eq_some_iff.1 hz).1; omega)
   rw [h4] at had
   cases had
   obtain ⟨cc, ⟨h6, -⟩, h7⟩ := h5 j z hz
   cases h6
   rw [show (⟨b, off, none⟩ : Addr).add j = ⟨b, off + j, none⟩ from add_mk b off j]
   exact h7 W hW
theorem opds_src {w : World} {A : Option Addr} {n c : Nat} {l : List Opd} (h : ROpds.rep w w.heap.size [.slice A n c] l) : n = l.length ∧ (A = none → l.length = 0) ∧ (∀ x, x ∈ l → I64 x.kind ∧ I64 x.num) ∧ ∀ W, Below w.heap.size w W → ∀ ad, A = some ad → ∀ j u, (l.flatMap oc)[j]? = some u → W.cell? (ad.add j) = some u := by
 obtain ⟨A', cap', h1, h2, h3⟩ := Rp.slice_open h
 cases h1
 refine ⟨rfl, fun e => ?_, fun x hx => ?_, fun W hW ad had j u hu => ?_⟩
 ·rcases Nat.eq_zero_or_pos l.length with h | h
  ·exact h
  ·obtain ⟨b, off, h4, -⟩ := h3 h; rw [e] at h4; cases h4
 ·obtain ⟨i, hi⟩ := List.mem_iff_getElem?.1 hx
  obtain ⟨b, off, h4, h5⟩ := h3 (by have := (List.getElem?_eq_some_iff.1 hi).1; omega)
  obtain ⟨es, -, ⟨-, h6⟩, -⟩ := h5 i x hi
  exact h6
 ·rw [oc_get] at hu
  cases hz : l[j / 3]? with
  | none => rw [hz] at hu; cases hu
  | some z =>
   rw [hz] at hu
   obtain ⟨b, off, h4, h5⟩ := h3 (by have := (List.getElem?_eq_some_iff.1 hz).1; omega)
   rw [h4] at had
   cases had
   obtain ⟨es, -, ⟨h6, -⟩, h7⟩ := h5 (j / 3) z hz
   subst h6
   rw [show (⟨b, off, none⟩ : Addr).add j = ⟨b, off + j, none⟩ from add_mk b off j, show off + j = off + j / 3 * 3 + j % 3 by omega]
   exact h7 (j % 3) u hu W hW
theorem box4 {w : World} {N : Nat} {a b c d : Value} {t : TypeId} (h : w.heap[N]? = some (.cells #[a, b, c, d] t (0, 0))) : w.cell? ⟨N, 0, none⟩ = some a ∧ w.cell? ⟨N, 1, none⟩ = some b ∧ w.cell? ⟨N, 2, none⟩ = some c ∧ w.cell? ⟨N, 3, none⟩ = some d := by simp [World.cell?, h]
theorem box7 {w : World} {N : Nat} {a b c d e f g : Value} {t : TypeId} (h : w.heap[N]? = some (.cells #[a, b, c, d, e, f, g] t (0, 0))) : w.cell? ⟨N, 0, none⟩ = some a ∧ w.cell? ⟨N, 1, none⟩ = some b ∧ w.cell? ⟨N, 2, none⟩ = some c ∧ w.cell? ⟨N, 3, none⟩ = some d ∧ w.cell? ⟨N, 4, none⟩ = some e ∧ w.cell? ⟨N, 5, none⟩ = some f ∧ w.cell? ⟨N, 6, none⟩ = some g := by simp [World.cell?, h]
structure Small (f : Fun) : Prop where
 params : f.params.length ≤ 2000000
 blocks : f.blocks.length ≤ 2000000
 code : ∀ x, x ∈ f.blocks → x.length ≤ 2000000 ∧ ∀ i, i ∈ x → i.args.length ≤ 2000000 ∧ i.to.length ≤ 2000000
end Go.Proofs.Ytamjcafjdioidaa

namespace Go.Proofs.Ytamjcafjdioidaa
open Go.RowKit
def RVr : Rp Vr := .plain (fun x => [.string x.name, .int .i64 x.size]) fun x => I64 x.size ∧ x.name.size ≤ maxLen
def RExt : Rp Ext where
 rep w B cs x := ∃ c, cs = [.string x.name, c, .int .i64 x.ret] ∧ RInts.rep w B [c] x.params ∧ I64 x.ret ∧ x.name.size ≤ maxLen
 keep := by
  rintro w w' B B' cs x ⟨c, h, h1, h2⟩ hk hB
  exact ⟨c, h, RInts.keep h1 hk hB, h2⟩
def RVrs : Rp (List Vr) := .slice 2 RVr
def RExts : Rp (List Ext) := .slice 3 RExt
def RFuns : Rp (List Fun) := .slice 4 RFun
def SomeBit (w : World) (e : Ending) (w' : World) : Prop := ∃ b : Bool, e = .returned (.bool b) ∧ Below w.heap.size w w'
set_option maxHeartbeats 1600000 in
theorem few_any (vs : List Vr) (xs : List Ext) (fs : List Fun) (most : Int) (c d e : Value) (w : World) (B : Nat) (hB : B ≤ w.heap.size) (hv : RVrs.rep w B [c] vs) (hx : RExts.rep w B [d] xs) (hf : RFuns.rep w B [e] fs) :
  Calls Try.prog 24 #[.agg #[c, d, e], .int .i64 most] w (SomeBit w) := by
 obtain ⟨A1, k1, h1, hm1, -⟩ := Rp.slice_open hv
 obtain ⟨A2, k2, h2, hm2, gx⟩ := Rp.slice_open (RExts.later hx (Below.refl _ _) hB)
 obtain ⟨A3, k3, h3, hm3, gf⟩ := Rp.slice_open (RFuns.later hf (Below.refl _ _) hB)
 cases h1; cases h2; cases h3
 replace gx := hide gx
 replace gf := hide gf
 clear hv hx hf
 obtain ⟨W, hW, hwW, hWs, hbx⟩ := boxes1 w #[.slice A1 vs.length k1, .slice A2 xs.length k2, .slice A3 fs.length k3] 26
 have x0 := hbx 0 _ rfl
 have x1 := hbx 1 _ rfl
 have x2 := hbx 2 _ rfl
 clear hbx
 have hsz : w.heap.size ≤ W.heap.size := by omega
 replace hWs := hide hWs
 have hself := Below.refl W.heap.size W
 go_enter Try.func24, Try.ntmps24
 go_wp2
 clear hW
 go_loopw [5, 28] (fun n i wr => ∃ (k : Nat) (m : Int), k ≤ xs.length ∧ i = .int .i64 k ∧ n = .int .i64 m ∧ Below W.heap.size W wr) (fun _ i _ => xs.length - (intOf i).toNat)
 case atStart => exact ⟨0, _, Nat.zero_le _, rfl, rfl, Below.refl _ _⟩
 case round =>
  obtain ⟨k, m, hk, rfl, rfl, hbel⟩ := hrel
  by_cases hlt : k < xs.length
  ·obtain ⟨b1, o1, rfl, he1⟩ := gx.out (by omega)
   obtain ⟨x, hx⟩ := get_ex hlt
   obtain ⟨_, _, ⟨c1, rfl, hr1, -⟩, hc1⟩ := he1 k x hx.out
   obtain ⟨p0, p1, p2⟩ := (hc1.later hwW hsz).three
   obtain ⟨A4, k4, h4, hm4, -⟩ := Rp.slice1_open hr1
   cases h4
   clear he1 hr1 hc1
   go_wp2
   go_roundw
   case rel => exact ⟨k + 1, _, hlt, by go_num, rfl, hbel.alloc hbel.size _⟩
   case measure => simp [intOf]; omega
  ·go_wp2
   go_loopw [5, 41] (fun n i wr => ∃ (k : Nat) (m : Int), k ≤ fs.length ∧ i = .int .i64 k ∧ n = .int .i64 m ∧ Below W.heap.size W wr) (fun _ i _ => fs.length - (intOf i).toNat)
   case atStart => exact ⟨0, _, Nat.zero_le _, rfl, rfl, hbel⟩
   case round =>
    clear hbel
    obtain ⟨k, m, hk, rfl, rfl, hbel⟩ := hrel
    by_cases hlt2 : k < fs.length
    ·obtain ⟨b1, o1, rfl, he1⟩ := gf.out (by omega)
     obtain ⟨f, hfk⟩ := get_ex hlt2
     obtain ⟨_, _, ⟨c1, c2, rfl, hr1, hr2, -⟩, hc1⟩ := he1 k f hfk.out
     obtain ⟨p0, p1, p2, p3⟩ := (hc1.later hwW hsz).four
     obtain ⟨A4, k4, h4, hm4, -⟩ := Rp.slice1_open hr1
     obtain ⟨A5, k5, h5, hm5, gb⟩ := Rp.slice1_open hr2
     cases h4; cases h5
     replace gb := hide gb
     clear he1 hr1 hr2 hc1
     have hbel2 : Below W.heap.size W (wr.alloc (.cells #[.string f.name, .slice A4 f.params.length k4, .int .i64 f.ret, .slice A5 f.blocks.length k5] 32)) := hbel.alloc hbel.size _
     go_wp2
     go_loopw [5, 57] (fun n i wr => ∃ (k : Nat) (m : Int), k ≤ f.blocks.length ∧ i = .int .i64 k ∧ n = .int .i64 m ∧ Below W.heap.size W wr) (fun _ i _ => f.blocks.length - (intOf i).toNat)
     case atStart => exact ⟨0, _, Nat.zero_le _, rfl, rfl, hbel2⟩
     case round =>
      clear hbel hbel2
      obtain ⟨j, m3, hj, rfl, rfl, hbel⟩ := hrel
      by_cases hlt3 : j < f.blocks.length
      ·obtain ⟨b2, o2, rfl, he2⟩ := gb.out (by omega)
       obtain ⟨bl, hbl⟩ := get_ex hlt3
       obtain ⟨d1, hr3, hd1⟩ := he2 j bl hbl.out
       obtain ⟨A6, k6, h6, hm6, gi⟩ := Rp.slice_open hr3
       cases h6
       replace gi := hide gi
       have hd1' : ∀ w', Below W.heap.size W w' → w'.cell? ⟨b2, o2 + j, none⟩ = some (.slice A6 bl.length k6) := fun w' h => hd1 w' (hwW.trans (h.mono hsz))
       clear he2 hr3 hd1
       have hbel2 : Below W.heap.size W (wr.alloc (.cells #[.slice A6 bl.length k6] 36)) := hbel.alloc hbel.size _
       go_wp2
       go_loopw [5, 69] (fun n i wr => ∃ (k : Nat) (m : Int), k ≤ bl.length ∧ i = .int .i64 k ∧ n = .int .i64 m ∧ Below W.heap.size W wr) (fun _ i _ => bl.length - (intOf i).toNat)
       case atStart => exact ⟨0, _, Nat.zero_le _, rfl, rfl, hbel2⟩
       case round =>
        clear hbel hbel2
        obtain ⟨r, m4, hr, rfl, rfl, hbel⟩ := hrel
        by_cases hlt4 : r < bl.length
        ·obtain ⟨b4, o4, rfl, he4⟩ := gi.out (by omega)
         obtain ⟨ins, hins⟩ := get_ex hlt4
         obtain ⟨_, _, ⟨c4, c5, rfl, ha, hto, -⟩, hc4⟩ := he4 r ins hins.out
         obtain ⟨q0, q1, q2, q3, q4, q5, q6⟩ := (hc4.later hwW hsz).seven
         obtain ⟨A7, k7, h7, hm7, -⟩ := Rp.slice_open ha
         obtain ⟨A8, k8, h8, hm8, -⟩ := Rp.slice1_open hto
         cases h7; cases h8
         clear he4 ha hto hc4
         have hbel2 : Below W.heap.size W (wr.alloc (.cells #[.int .i64 ins.op, .int .i64 ins.reg, .int .i64 ins.ty, .int .i64 ins.num, .int .i64 ins.flags, .slice A7 ins.args.length k7, .slice A8 ins.to.length k8] 39)) := hbel.alloc hbel.size _
         go_wp2
         ·go_ret
          exact ⟨_, rfl, hwW.trans (hbel2.mono hsz)⟩
         ·go_roundw
          case rel => exact ⟨r + 1, _, hlt4, by go_num, rfl, hbel2⟩
          case measure => simp [intOf]; omega
        ·go_wp2
         go_roundw
         case rel => exact ⟨j + 1, _, hlt3, by go_num, rfl, hbel⟩
         case measure => simp [intOf]; omega
      ·go_wp2
       go_roundw
       case rel => exact ⟨k + 1, _, hlt2, by go_num, rfl, hbel⟩
       case measure => simp [intOf]; omega
    ·go_wp2
     go_ret
     exact ⟨_, rfl, hwW.trans (hbel.mono hsz)⟩
end Go.Proofs.Ytamjcafjdioidaa
namespace Go.Proofs.Ytamjcafjdioidaa
open Go Go.RowKit
theorem still_of_quiet {P : Program} {o : Oper} {a : Act} {w : World} {K : Act → Prop} (h : o.quiet P a (fun w' => w' = w) K) : o.still P a w K := by
 obtain ⟨v, h1, h2⟩ := h
 have h3 := h1 w rfl
 unfold Oper.quietAt at h3
 unfold Oper.still
 generalize (execOp a.eval o).run P w = r at *
 cases r with
 | ok n w' =>
  cases n <;> simp only [Oper.quietUpon] at h3 <;> simp only [Oper.stillUpon]
  case value u => obtain ⟨e1, e2⟩ := h3; subst e2; exact ⟨e1, h2⟩
  case skip => obtain ⟨e1, e2⟩ := h3; subst e2; exact ⟨e1, h2⟩
  case enter f args => exact ⟨h3.1, v, h3.2, h2⟩
 | halt x w' => simp only [Oper.quietUpon] at h3
theorem wpStill_of_quiet {P : Program} {ops : Array Oper} {w : World} {Q : Act → Prop} : ∀ {rest : List Oper} {a : Act}, wpQuiet P ops (fun w' => w' = w) Q rest a → wpStill P ops w Q rest a
 | [], _, h => h
 | o :: rest, a, h => by
  unfold wpQuiet at h
  unfold wpStill
  split
  ·rename_i hw
   rw [if_pos hw] at h
   exact Oper.still_mono (fun a h => wpStill_of_quiet h) (still_of_quiet h)
  ·rename_i hw
   rw [if_neg hw] at h
   exact wpStill_of_quiet h
theorem region_below {P : Program} {id : Nat} {Q : Exit → Act → World → Prop} {a : Act} {w W : World} {B : Nat} {l : List Oper} (hm : P.follows .mixedOrders = true) (hB : Region.lexB .any l.toArray = true) (hC : Below B W w)
  (h : wpQuiet P l.toArray (fun w' => Below B W w') (fun a' => ∀ w', Below B W w' → Q .normal a' w') l a) : (Code.region id l.toArray true).wp P Q a w :=
 wp_region_quiet (C := fun w' => Below B W w') hm hB ⟨hC.os, hC.tape, hC.output, hC.size, hC.block⟩ (by simpa using h)
theorem ret_class {P : Program} {k : Nat} {args : Array Value} {v : Value} {W w9 : World} (c : Calls P k args w9 fun e w' => e = .returned v ∧ Below w9.heap.size w9 w') (h : Below W.heap.size W w9) :
  Calls P k args w9 fun e w'' => e = .returned v ∧ Below W.heap.size W w'' := c.mono fun _ _ h' => ⟨h'.1, h.trans (h'.2.mono h.size)⟩
end Go.Proofs.Ytamjcafjdioidaa
namespace Go.Proofs.Ytamjcafjdioidaa
open Go.RowKit
set_option linter.unusedVariables false
section
variable {w w' : World} {B : Nat}
theorem But.stored {T : TypeId} {size n cap g j : Nat} {xs : List Value} {u : Value} (h : w.ownsRow B T size (.slice (some ⟨g, 0, none⟩) n cap) n xs) : But T w (w.setCell ⟨g, j, none⟩ u) := fun k c t f hk ht =>
 Below.heap_setCell _ _ _ _ (fun e => by
  obtain ⟨-, -, c', h1⟩ := row_lt h (k := g) rfl
  have e' : k = g := e
  subst e'
  rw [hk] at h1
  injection h1 with h1
  injection h1 with _ h2
  exact ht h2)
end
theorem box_at {w : World} {N : Nat} (o : Obj) (h : N = w.heap.size) : (w.alloc o).heap[N]? = some o := by subst h; exact box_top _ _
theorem bk (w : World) (o : Obj) : Below w.heap.size w (w.alloc o) := (Below.refl _ _).alloc (Nat.le_refl _) o
theorem cellsOf_at {l : List Ins} {es : List (Value × Value)} {k r : Nat} {x : Ins} {c d u : Value} (hx : l[k]? = some x) (he : es[k]? = some (c, d)) (hu : (insC x c d)[r]? = some u) : (cellsOf l es)[k * 7 + r]? = some u := by
 unfold cellsOf
 refine flatten_at (n := 7) (es := insC x c d) (fun y hy => ?_) ?_ hu
 ·obtain ⟨i, hi⟩ := List.getElem?_of_mem hy
  rw [List.getElem?_zipWith] at hi
  split at hi
  ·cases hi; rfl
  ·cases hi
 ·rw [List.getElem?_zipWith, hx, he]
def setBlocks (f : Fun) (bs : List (List Ins)) : Fun := ⟨f.name, f.params, f.ret, bs⟩
end Go.Proofs.Ytamjcafjdioidaa
